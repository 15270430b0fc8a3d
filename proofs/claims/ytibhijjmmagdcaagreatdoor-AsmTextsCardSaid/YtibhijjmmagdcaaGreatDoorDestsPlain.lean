/- The destinations of a code, as plain functions; no program in sight. -/
import Derived.Test.YtibhijjmmagdcaaGreatDoorOpsPlain
namespace Go.Proofs.YtibhijjmmagdcaaGreatDoor
set_option linter.unusedVariables false
set_option linter.unusedSimpArgs false
open Go.RowKit Go.Proofs.YtibhijjmmagdcaaGreatDoorW.PrintWords
/-- How many bytes behind an instruction belong to it. -/
def dataF (c : Int) : Nat := if 96 ≤ c ∧ c ≤ 127 then (c - 95).toNat else 0
/-- The destinations of what lies from place i on; the first k bytes belong to an instruction ahead. -/
def destsS : Nat → Nat → List Int → List Int
  | _, _, [] => []
  | i, k + 1, _ :: r => destsS (i + 1) k r
  | i, 0, c :: r => if c = 91 then (i : Int) :: destsS (i + 1) (dataF c) r else destsS (i + 1) (dataF c) r
def destsF (l : List Int) : List Int := destsS 0 0 l
theorem destsS_skip : ∀ (k i : Nat) (l : List Int), destsS i k l = destsS (i + k) 0 (l.drop k)
  | 0, i, l => by simp
  | k + 1, i, [] => by simp [destsS]
  | k + 1, i, c :: r => by
    rw [destsS, destsS_skip k (i + 1) r, List.drop_succ_cons]
    congr 1
    omega
theorem destsS_step (i : Nat) (c : Int) (r : List Int) : destsS i 0 (c :: r) = (if c = 91 then [(i : Int)] else []) ++ destsS (i + (1 + dataF c)) 0 (r.drop (dataF c)) := by
  rw [destsS, destsS_skip, show i + 1 + dataF c = i + (1 + dataF c) by omega]
  split <;> simp
/-- Moved by n. -/
theorem destsS_move (n : Nat) : ∀ (i k : Nat) (l : List Int), destsS (i + n) k l = (destsS i k l).map (· + (n : Int))
  | _, _, [] => by simp [destsS]
  | i, k + 1, _ :: r => by rw [destsS, destsS, ← destsS_move n (i + 1) k r, show i + n + 1 = i + 1 + n by omega]
  | i, 0, c :: r => by
    rw [destsS, destsS, show i + n + 1 = i + 1 + n by omega, destsS_move n (i + 1) (dataF c) r]
    split
    · rw [List.map_cons, show ((i + n : Nat) : Int) = (i : Int) + (n : Int) by omega]
    · rfl
theorem destsS_range : ∀ (i k : Nat) (l : List Int), ∀ x ∈ destsS i k l, (i : Int) ≤ x ∧ x < i + l.length
  | _, _, [], x, h => by simp [destsS] at h
  | i, k + 1, _ :: r, x, h => by
    have := destsS_range (i + 1) k r x h
    simp; omega
  | i, 0, c :: r, x, h => by
    rw [destsS] at h
    have key : x ∈ destsS (i + 1) (dataF c) r → (i : Int) ≤ x ∧ x < i + (c :: r).length := fun h => by
      have := destsS_range (i + 1) (dataF c) r x h
      simp; omega
    split at h
    · rcases List.mem_cons.1 h with rfl | h
      · simp; omega
      · exact key h
    · exact key h
theorem destsS_len : ∀ (i k : Nat) (l : List Int), (destsS i k l).length ≤ l.length
  | _, _, [] => by simp [destsS]
  | i, k + 1, _ :: r => by have := destsS_len (i + 1) k r; rw [destsS]; simp; omega
  | i, 0, c :: r => by
    have := destsS_len (i + 1) (dataF c) r
    rw [destsS]; split <;> simp <;> omega
/-- For each byte the place of the instruction that it is, or belongs to. -/
def ownS : Nat → Int → Nat → List Int → List Int
  | _, _, _, [] => []
  | i, p, k + 1, _ :: r => p :: ownS (i + 1) p k r
  | i, _, 0, c :: r => (i : Int) :: ownS (i + 1) i (dataF c) r
theorem ownS_len : ∀ (i : Nat) (p : Int) (k : Nat) (l : List Int), (ownS i p k l).length = l.length
  | _, _, _, [] => rfl
  | i, p, k + 1, _ :: r => by rw [ownS, List.length_cons, ownS_len, List.length_cons]
  | i, _, 0, c :: r => by rw [ownS, List.length_cons, ownS_len, List.length_cons]
/-- The places of the destinations among the owners. -/
def pickS : Nat → List Int → List Int → List Int
  | i, o :: os, c :: r => if o = (i : Int) ∧ c = 91 then (i : Int) :: pickS (i + 1) os r else pickS (i + 1) os r
  | _, _, _ => []
theorem pick_own : ∀ (i : Nat) (p : Int) (k : Nat) (l : List Int), p < (i : Int) → pickS i (ownS i p k l) l = destsS i k l
  | _, _, _, [], _ => by simp [pickS, ownS, destsS]
  | i, p, k + 1, c :: r, h => by
    rw [ownS, pickS, destsS, if_neg (by omega)]
    exact pick_own (i + 1) p k r (by omega)
  | i, p, 0, c :: r, h => by
    rw [ownS, pickS, destsS, pick_own (i + 1) i (dataF c) r (by omega)]
    by_cases e : c = 91
    · rw [if_pos ⟨rfl, e⟩, if_pos e]
    · rw [if_neg (fun x => e x.2), if_neg e]
theorem destsS_sorted : ∀ (i k : Nat) (l : List Int), (destsS i k l).Pairwise (· < ·)
  | _, _, [] => by simp [destsS]
  | i, k + 1, _ :: r => by rw [destsS]; exact destsS_sorted (i + 1) k r
  | i, 0, c :: r => by
    rw [destsS]
    have h := destsS_sorted (i + 1) (dataF c) r
    split
    · refine List.Pairwise.cons (fun x hx => ?_) h
      have := destsS_range (i + 1) (dataF c) r x hx
      omega
    · exact h
theorem destsS_byte : ∀ (i k : Nat) (l : List Int) (n : Nat), (n : Int) ∈ destsS i k l → i ≤ n ∧ l[n - i]? = some 91
  | _, _, [], n, h => by simp [destsS] at h
  | i, k + 1, c :: r, n, h => by
    have := destsS_byte (i + 1) k r n h
    refine ⟨by omega, ?_⟩
    rw [show n - i = (n - (i + 1)) + 1 by omega, List.getElem?_cons_succ]
    exact this.2
  | i, 0, c :: r, n, h => by
    rw [destsS] at h
    have key : (n : Int) ∈ destsS (i + 1) (dataF c) r → i ≤ n ∧ (c :: r)[n - i]? = some 91 := fun h => by
      have := destsS_byte (i + 1) (dataF c) r n h
      refine ⟨by omega, ?_⟩
      rw [show n - i = (n - (i + 1)) + 1 by omega, List.getElem?_cons_succ]
      exact this.2
    split at h
    · rename_i e
      rcases List.mem_cons.1 h with h | h
      · have : n = i := by omega
        subst this
        simp [e]
      · exact key h
    · exact key h
/-- What lies behind a push of n bytes has the destinations of that code, moved. -/
theorem dests_push {c : Int} {d l : List Int} (h : dataF c = d.length) (hc : c ≠ 91) : destsF (c :: (d ++ l)) = (destsF l).map (· + ((1 + d.length : Nat) : Int)) := by
  rw [destsF, destsS_step, if_neg hc, h, List.nil_append, List.drop_left, Nat.zero_add, destsF]
  have := destsS_move (1 + d.length) 0 0 l
  rw [Nat.zero_add] at this
  exact this
theorem fixed_dests : destsF [91, 96, 91, 91] = [0, 3] := by decide
end Go.Proofs.YtibhijjmmagdcaaGreatDoor
