/- What layer 4's functions come to, as plain functions on lists of numbers; no program in sight. -/
import Derived.Test.YtibhijjmmagdcaaGreatDoorBase
import Derived.Lib.Bytealg
import Derived.Lib.Strings
import Derived.Lib.Bytes2
namespace Go.Proofs.YtibhijjmmagdcaaGreatDoor
set_option linter.unusedVariables false
set_option linter.unusedSimpArgs false
open Go.RowKit Go.Proofs.YtibhijjmmagdcaaGreatDoorW.PrintWords
/-- A hex digit's value; -1. -/
def hv (c : Int) : Int := if 48 ≤ c ∧ c ≤ 57 then c - 48 else if 97 ≤ c ∧ c ≤ 102 then c - 87 else if 65 ≤ c ∧ c ≤ 70 then c - 55 else -1
theorem hv_le (c : Int) : -1 ≤ hv c ∧ hv c ≤ 15 := by unfold hv; split <;> (try split) <;> (try split) <;> omega
/-- Pairs of digits as bytes. -/
def pairs : List Int → Option (List Int)
  | [] => some []
  | [_] => none
  | a :: b :: r => if hv a < 0 ∨ hv b < 0 then none else (pairs r).map ((16 * hv a + hv b) :: ·)
/-- The bytes that a text says. -/
def bytesOfText : List Int → Option (List Int)
  | 48 :: 120 :: r => pairs r
  | _ => none
/-- The error's number: ErrForm, or none. -/
def formErr {α : Type} : Option α → Int
  | none => 2
  | some _ => 0
def lower (c : Int) : Int := if 65 ≤ c ∧ c ≤ 70 then c + 32 else c
def hexDigits : List UInt8 := [48, 49, 50, 51, 52, 53, 54, 55, 56, 57, 97, 98, 99, 100, 101, 102]
theorem index_hv : ∀ n : Fin 256, Lib.indexByte hexDigits (lower (n.val : Int)).toNat.toUInt8 = hv (n.val : Int) := by decide +kernel
theorem index_hv' {c : Int} (h0 : 0 ≤ c) (h1 : c < 256) : Lib.indexByte hexDigits (lower c).toNat.toUInt8 = hv c := by
  have := index_hv ⟨c.toNat, by omega⟩
  simpa [Int.toNat_of_nonneg h0] using this
theorem pairs_odd : ∀ l : List Int, l.length % 2 = 1 → pairs l = none
  | [], h => by simp at h
  | [_], _ => rfl
  | a :: b :: r, h => by
    have := pairs_odd r (by simp at h; omega)
    simp [pairs, this]
theorem bytesOf_byte (s : ByteArray) : ∀ c ∈ bytesOf s, 0 ≤ c ∧ c < 256 := by
  intro c hc
  simp only [bytesOf, List.mem_map] at hc
  obtain ⟨b, _, rfl⟩ := hc
  have := UInt8.toNat_lt b
  omega
theorem bytesOf_get (s : ByteArray) (i : Nat) (h : i < s.size) : (bytesOf s)[i]'(by rw [bytesOf_length]; exact h) = bt s i := by
  rw [← rd_bytesOf, rd, Int.toNat_natCast, List.getD_eq_getElem?_getD, List.getElem?_eq_getElem (by rw [bytesOf_length]; exact h)]
  rfl
theorem bytesOf_drop (s : ByteArray) (i : Nat) (h : i < s.size) : (bytesOf s).drop i = bt s i :: (bytesOf s).drop (i + 1) := by
  rw [List.drop_eq_getElem_cons (by rw [bytesOf_length]; exact h), bytesOf_get s i h]
theorem bytesOf_drop_end (s : ByteArray) : (bytesOf s).drop s.size = [] := List.drop_eq_nil_of_le (by rw [bytesOf_length]; omega)
/-- Is it 0x, and the rest? -/
def rest0x (l : List Int) : Option (List Int) := match l with
  | 48 :: 120 :: r => some r
  | _ => none
theorem bytesOfText_rest (l : List Int) : bytesOfText l = (rest0x l).bind pairs := by
  unfold bytesOfText rest0x
  split <;> simp_all
theorem u8_eq {b : UInt8} {n : Nat} (h : b.toNat = n) (hn : n < 256) : b = UInt8.ofNat n := by
  apply UInt8.toNat_inj.1
  simp [h]; omega
theorem hasPrefix_0x (s : ByteArray) : Lib.hasPrefix s.data.toList [48, 120] = (rest0x (bytesOf s)).isSome := by
  unfold bytesOf
  generalize s.data.toList = l
  match l with
  | [] => rfl
  | [a] => simp [Lib.hasPrefix, rest0x, List.isPrefixOf]
  | a :: b :: r =>
    by_cases ha : a = 48
    · by_cases hb : b = 120
      · subst ha; subst hb; rfl
      · subst ha
        have h2 : (b.toNat : Int) ≠ 120 := fun e => hb (u8_eq (n := 120) (by omega) (by omega))
        have h3 : rest0x (((48 : UInt8).toNat : Int) :: (b.toNat : Int) :: r.map fun x => (x.toNat : Int)) = none := by
          unfold rest0x
          split
          · rename_i h; simp at h; exact absurd h.1 h2
          · rfl
        simp only [List.map_cons, h3]
        have : (120 == b) = false := by simpa using fun e => hb e.symm
        simp [Lib.hasPrefix, List.isPrefixOf, this]
    · have h2 : (a.toNat : Int) ≠ 48 := fun e => ha (u8_eq (n := 48) (by omega) (by omega))
      have h3 : rest0x ((a.toNat : Int) :: (b.toNat : Int) :: r.map fun x => (x.toNat : Int)) = none := by
        unfold rest0x
        split
        · rename_i h; simp at h; exact absurd h.1 h2
        · rfl
      simp only [List.map_cons, h3]
      have : (48 == a) = false := by simpa using fun e => ha e.symm
      simp [Lib.hasPrefix, List.isPrefixOf, this]
theorem rest0x_some {s : ByteArray} {r : List Int} (h : rest0x (bytesOf s) = some r) : ∃ t : ByteArray, bytesOf t = r ∧ (⟨(Lib.trimPrefix s.data.toList [48, 120]).toArray⟩ : ByteArray) = t ∧ t.size + 2 = s.size := by
  have hp : Lib.hasPrefix s.data.toList [48, 120] = true := by rw [hasPrefix_0x, h]; rfl
  refine ⟨_, ?_, rfl, ?_⟩
  · rw [Lib.trimPrefix, if_pos hp]
    have h2 : bytesOf s = 48 :: 120 :: r := by
      unfold rest0x at h
      split at h
      · rename_i e; cases h; exact e
      · cases h
    have h3 : (bytesOf s).drop 2 = r := by rw [h2]; rfl
    rw [← h3]
    simp [bytesOf]
  · have hl : 2 ≤ s.data.toList.length := by
      have := (Lib.hasPrefix_le hp)
      simpa using this
    rw [Lib.trimPrefix, if_pos hp]
    have : s.data.toList.length = s.size := by simp
    show (s.data.toList.drop 2).toArray.size + 2 = s.size
    simp; omega
theorem pairs_step (a b : Int) (r d : List Int) (ha : ¬ hv a < 0) (hb : ¬ hv b < 0) : (pairs (a :: b :: r)).map (d ++ ·) = (pairs r).map ((d ++ [16 * hv a + hv b]) ++ ·) := by
  rw [pairs, if_neg (by omega), Option.map_map]
  congr 1
  funext x
  simp
/-- The number that digits to the base 16 say. -/
def hnum (l : List Int) : Int := l.foldl (fun a c => 16 * a + hv c) 0
theorem hnum_snoc (l : List Int) (c : Int) : hnum (l ++ [c]) = 16 * hnum l + hv c := by simp [hnum]
/-- Is it a quantity's digits? the error's number. -/
def digErr (r : List Int) : Int :=
  if r = [] ∨ (r.head? = some 48 ∧ 1 < r.length) ∨ r.any (fun c => decide (hv c < 0)) = true then 2 else if 64 < r.length then 4 else 0
/-- The number that is answered. -/
def digNum (r : List Int) : Int := if digErr r = 0 then hnum r else 0
def wordErr (l : List Int) : Int := match rest0x l with
  | some r => digErr r
  | none => 2
def wordNum (l : List Int) : Int := match rest0x l with
  | some r => digNum r
  | none => 0
theorem bytesOf_take_succ (s : ByteArray) (k : Nat) (h : k < s.size) : (bytesOf s).take (k + 1) = (bytesOf s).take k ++ [bt s k] := by
  rw [List.take_succ_eq_append_getElem (by rw [bytesOf_length]; exact h), bytesOf_get s k h]
theorem any_bad {s : ByteArray} {k : Nat} (hk : k < s.size) (h : hv (bt s k) < 0) : (bytesOf s).any (fun c => decide (hv c < 0)) = true := by
  rw [List.any_eq_true]
  exact ⟨bt s k, by rw [← bytesOf_get s k hk]; exact List.getElem_mem _, by simpa using h⟩
theorem no_bad {s : ByteArray} (h : ∀ k, k < s.size → 0 ≤ hv (bt s k)) : (bytesOf s).any (fun c => decide (hv c < 0)) = false := by
  rw [List.any_eq_false]
  intro c hc
  obtain ⟨k, hk, rfl⟩ := List.mem_iff_getElem.1 hc
  have hk' : k < s.size := by rw [bytesOf_length] at hk; exact hk
  rw [bytesOf_get s k hk']
  have := h k hk'
  simp; omega
theorem bytesOf_ne {s : ByteArray} (h : 0 < s.size) : bytesOf s = bt s 0 :: (bytesOf s).drop 1 := by
  have := bytesOf_drop s 0 h
  simpa using this
theorem rest0x_of {s : ByteArray} (h : 2 ≤ s.size) (h0 : bt s 0 = 48) (h1 : bt s 1 = 120) : rest0x (bytesOf s) = some ((bytesOf s).drop 2) := by
  have e1 := bytesOf_drop s 0 (by omega)
  have e2 := bytesOf_drop s 1 (by omega)
  simp only [List.drop_zero] at e1
  rw [Nat.zero_add, e2, show ((0 : Nat) : Int) = 0 from rfl, show ((1 : Nat) : Int) = 1 from rfl, h0, h1] at e1
  rw [e1]
  rfl
theorem rest0x_none_of {s : ByteArray} (h : s.size < 2 ∨ bt s 0 ≠ 48 ∨ bt s 1 ≠ 120) : rest0x (bytesOf s) = none := by
  cases hr : rest0x (bytesOf s) with
  | none => rfl
  | some r =>
    exfalso
    have h2 : bytesOf s = 48 :: 120 :: r := by
      unfold rest0x at hr
      split at hr
      · rename_i e; cases hr; exact e
      · cases hr
    have hl : 2 ≤ s.size := by rw [← bytesOf_length, h2]; simp
    have g0 : bt s 0 = 48 := by
      have := bytesOf_get s 0 (by omega)
      simp only [h2] at this
      exact this.symm
    have g1 : bt s 1 = 120 := by
      have := bytesOf_get s 1 (by omega)
      simp only [h2] at this
      exact this.symm
    rcases h with h | h | h
    · omega
    · exact h g0
    · exact h g1
theorem wordNum_bad {l : List Int} (h : wordErr l ≠ 0) : wordNum l = 0 := by
  unfold wordNum wordErr at *
  cases hr : rest0x l with
  | none => rfl
  | some r =>
    rw [hr] at h
    simp only [digNum]
    rw [if_neg h]
theorem bytesOf_get2 (s : ByteArray) (i : Nat) (h : i + 2 < s.size) : ((bytesOf s).drop 2)[i]'(by rw [List.length_drop, bytesOf_length]; omega) = bt s ((i + 2 : Nat) : Int) := by
  rw [List.getElem_drop]
  have := bytesOf_get s (2 + i) (by omega)
  rw [this]
  congr 1
  omega
end Go.Proofs.YtibhijjmmagdcaaGreatDoor
