/- smithyref27.Text: what it comes to, and the walk. -/
import Derived.Test.YtibhijjmmagdcaaGreatDoorAsmTextWalk
import Derived.Test.YtibhijjmmagdcaaGreatDoorRefDests
import Derived.Test.YtibhijjmmagdcaaGreatDoorRefText
namespace Go.Proofs.YtibhijjmmagdcaaGreatDoor
set_option linter.unusedVariables false
set_option linter.unusedSimpArgs false
open Go.RowKit Go.Proofs.YtibhijjmmagdcaaGreatDoorW.PrintWords Go.Proofs.YtibhijjmmagdcaaGreatDoorW.PrintLast
/-- The document's piece of text at the byte k that belongs to the instruction at q. -/
def pieceO (l : List Int) (k : Nat) (q xk : Int) : Option OpI → List Int
  | none => byteLine xk ++ [10]
  | some o => if q + o.2.2.2.2 < l.length then (if q = k then o.1 ++ ((if 0 < o.2.2.2.2 then 32 :: textL ((l.drop (k + 1)).take o.2.2.2.2.toNat) else []) ++ [10]) else []) else byteLine xk ++ [10]
def pieceR (l : List Int) (k : Nat) (q : Int) : List Int := pieceO l k q (l.getD k 0) (infoF (l.getD q.toNat 0))
def rT (l : List Int) : Nat → List Int → List Int
  | _, [] => []
  | k, q :: os => pieceR l k q ++ rT l (k + 1) os
theorem ownS_get : ∀ (i : Nat) (p : Int) (m : Nat) (l : List Int), 0 ≤ p → p ≤ i → ∀ (j : Nat) (h : j < (ownS i p m l).length), 0 ≤ (ownS i p m l)[j] ∧ (ownS i p m l)[j] ≤ i + j
  | _, _, _, [], _, _, j, h => by simp [ownS] at h
  | i, p, k + 1, _ :: r, h0, h1, j, h => by
    simp only [ownS] at h ⊢
    cases j with
    | zero => simp; omega
    | succ j =>
      have := ownS_get (i + 1) p k r h0 (by omega) j (by simpa using h)
      simp only [List.getElem_cons_succ]
      omega
  | i, p, 0, c :: r, h0, h1, j, h => by
    simp only [ownS] at h ⊢
    cases j with
    | zero => simp
    | succ j =>
      have := ownS_get (i + 1) i (dataF c) r (by omega) (by omega) j (by simpa using h)
      simp only [List.getElem_cons_succ]
      omega
theorem data_of {c : Int} (h0 : 0 ≤ c) (h1 : c < 256) {o : OpI} (h : infoF c = some o) : o.2.2.2.2 = (dataF c : Int) := by
  have := info_data h0 h1
  rw [h] at this
  exact this
theorem data_none {c : Int} (h0 : 0 ≤ c) (h1 : c < 256) (h : infoF c = none) : dataF c = 0 := by
  have := info_data h0 h1
  rw [h] at this
  have e : ((none : Option OpI).getD zeroI).2.2.2.2 = 0 := rfl
  rw [e] at this
  omega
theorem rT_skip (l : List Int) (q : Int) {o : OpI} (ho : infoF (l.getD q.toNat 0) = some o) (hw : q + o.2.2.2.2 < l.length) : ∀ (m k : Nat) (r : List Int), q < k → rT l k (ownS k q m r) = rT l (k + m) (ownS (k + m) q 0 (r.drop m))
  | 0, k, r, _ => rfl
  | m + 1, k, [], h => by simp [ownS, rT]
  | m + 1, k, c :: r, h => by
    rw [ownS, rT, rT_skip l q ho hw m (k + 1) r (by omega), List.drop_succ_cons, show k + (m + 1) = k + 1 + m by omega]
    have : pieceR l k q = [] := by
      unfold pieceR pieceO
      rw [ho]
      simp only
      rw [if_pos hw, if_neg (by omega)]
    rw [this, List.nil_append]
theorem rT_short (l : List Int) (q : Int) {o : OpI} (ho : infoF (l.getD q.toNat 0) = some o) (hw : ¬ q + o.2.2.2.2 < l.length) : ∀ (m k : Nat), k ≤ l.length → l.length ≤ k + m → rT l k (ownS k q m (l.drop k)) = restS l k
  | m, k, hk, hm => by
    rcases Nat.lt_or_ge k l.length with h | h
    · obtain ⟨m', rfl⟩ : ∃ m', m = m' + 1 := ⟨m - 1, by omega⟩
      rw [restS_step h, List.drop_eq_getElem_cons h, ownS, rT, rT_short l q ho hw m' (k + 1) (by omega) (by omega)]
      have : pieceR l k q = byteLine l[k] ++ [10] := by
        unfold pieceR pieceO
        rw [ho]
        simp only
        rw [if_neg hw, List.getD_eq_getElem?_getD, List.getElem?_eq_getElem h]
        rfl
      rw [this, List.append_assoc]
      rfl
    · rw [restS_end h, List.drop_eq_nil_of_le h]
      rfl
theorem rT_rest (l : List Int) (hl : ∀ c ∈ l, 0 ≤ c ∧ c < 256) : ∀ (n k : Nat) (q : Int), l.length ≤ k + n → rT l k (ownS k q 0 (l.drop k)) = restT l k
  | n, k, q, hn => by
    rcases Nat.lt_or_ge k l.length with h | h
    · obtain ⟨n, rfl⟩ : ∃ n', n = n' + 1 := ⟨n - 1, by omega⟩
      have hb := hl l[k] (List.getElem_mem h)
      have hg : l.getD k 0 = l[k] := by rw [List.getD_eq_getElem?_getD, List.getElem?_eq_getElem h]; rfl
      have hg2 : l.getD ((k : Nat) : Int).toNat 0 = l[k] := by rw [Int.toNat_natCast]; exact hg
      rw [List.drop_eq_getElem_cons h, ownS, rT]
      rcases hi : infoF l[k] with _ | o
      · rw [data_none hb.1 hb.2 hi, rT_rest l hl n (k + 1) k (by omega), restT_none h hi]
        have : pieceR l k k = byteLine l[k] ++ [10] := by
          unfold pieceR pieceO
          rw [hg2, hi, hg]
        rw [this, List.append_assoc]
        rfl
      · have hd := data_of hb.1 hb.2 hi
        have hi' : infoF (l.getD ((k : Nat) : Int).toNat 0) = some o := by rw [hg2]; exact hi
        by_cases hw : (k : Int) + o.2.2.2.2 < l.length
        · rw [rT_skip l k hi' hw (dataF l[k]) (k + 1) (l.drop (k + 1)) (by omega), List.drop_drop, rT_rest l hl n (k + 1 + dataF l[k]) k (by omega)]
          have hp : pieceR l k k = o.1 ++ ((if 0 < o.2.2.2.2 then 32 :: textL ((l.drop (k + 1)).take o.2.2.2.2.toNat) else []) ++ [10]) := by
            unfold pieceR pieceO
            rw [hi']
            simp only
            rw [if_pos hw, if_pos trivial]
          rw [hp]
          by_cases h0 : 0 < o.2.2.2.2
          · rw [restT_push h hi (by omega) hd (by omega), if_pos h0, hd, Int.toNat_natCast]
            simp
          · rw [restT_name h hi (by omega) h0, if_neg h0, show dataF l[k] = 0 by omega]
            simp
        · rw [rT_short l k hi' hw (dataF l[k]) (k + 1) (by omega) (by omega), restT_short h hi (by omega)]
          have hp : pieceR l k k = byteLine l[k] ++ [10] := by
            unfold pieceR pieceO
            rw [hi']
            simp only
            rw [if_neg hw, hg]
          have := restS_step h
          unfold restS at this
          rw [this, hp, List.append_assoc]
          rfl
    · rw [restT_end h, List.drop_eq_nil_of_le h]
      rfl
theorem rT_text {l : List Int} (hl : ∀ c ∈ l, 0 ≤ c ∧ c < 256) : rT l 0 (ownS 0 0 0 l) = textA l := by
  have := rT_rest l hl l.length 0 0 (by omega)
  rw [List.drop_zero] at this
  rw [this, restT_zero]
end Go.Proofs.YtibhijjmmagdcaaGreatDoor
