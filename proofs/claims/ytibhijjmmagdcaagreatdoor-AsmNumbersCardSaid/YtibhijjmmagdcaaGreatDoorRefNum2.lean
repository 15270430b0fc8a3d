/- smithyref27.Number, walked. -/
import Derived.Test.YtibhijjmmagdcaaGreatDoorRefNumber
import Derived.Test.YtibhijjmmagdcaaGreatDoorAsmNumber
namespace Go.Proofs.YtibhijjmmagdcaaGreatDoor
set_option linter.unusedVariables false
set_option linter.unusedSimpArgs false
open Go.RowKit Go.Proofs.YtibhijjmmagdcaaGreatDoorW.PrintWords Go.Proofs.YtibhijjmmagdcaaGreatDoorW.PrintLast
def numB (b : Int) (l : List Int) : Int := l.foldl (fun a c => b * a + hv c) 0
theorem numB_snoc (b : Int) (l : List Int) (c : Int) : numB b (l ++ [c]) = b * numB b l + hv c := by simp [numB]
def badB (b : Int) (l : List Int) : Bool := l.any fun c => decide (hv c < 0) || decide (b ≤ hv c)
def refErr (b : Int) (mo : Nat) (l : List Int) : Int := if l = [] ∨ badB b l = true then 2 else if mo < l.length then 5 else if M256 ≤ numB b l then 5 else 0
def refVal (b : Int) (mo : Nat) (l : List Int) : Int := if refErr b mo l = 0 then numB b l else 0
theorem num_six {l r : List Int} (h : rest0x l = some r) : numErr l = refErr 16 64 r ∧ numVal l = refVal 16 64 r := by
  have hb : badB 16 r = r.any (fun c => decide (hv c < 0)) := by
    unfold badB
    congr 1
    funext c
    have := hv_le c
    rw [show decide ((16 : Int) ≤ hv c) = false from decide_eq_false (by omega), Bool.or_false]
  have e1 : numErr l = refErr 16 64 r := by
    unfold numErr refErr
    rw [h, hb]
    show (if r = [] ∨ r.any (fun c => decide (hv c < 0)) = true then (2 : Int) else if 64 < r.length then 5 else 0) = _
    by_cases h1 : r = [] ∨ r.any (fun c => decide (hv c < 0)) = true
    · rw [if_pos h1, if_pos h1]
    · rw [if_neg h1, if_neg h1]
      by_cases h2 : 64 < r.length
      · rw [if_pos h2, if_pos h2]
      · rw [if_neg h2, if_neg h2, if_neg]
        have h3 : r.any (fun c => decide (hv c < 0)) = false := by
          rw [not_or] at h1; simpa using h1.2
        have h4 := (hnum_range h3).2
        have h5 : (16 : Int) ^ r.length ≤ 16 ^ 64 := int_pow_le (q := 16) (by omega) (by omega)
        have h6 : (16 : Int) ^ 64 = M256 := by decide
        show ¬ M256 ≤ hnum r
        omega
  refine ⟨e1, ?_⟩
  unfold numVal refVal
  rw [e1, h]
  by_cases h0 : refErr 16 64 r = 0
  · rw [if_neg (fun h => h h0), if_pos h0]; rfl
  · rw [if_pos h0, if_neg h0]
theorem num_ten {l : List Int} (h : rest0x l = none) : numErr l = refErr 10 78 l ∧ numVal l = refVal 10 78 l := by
  have hc : ∀ c, (decide (hv c < 0) || decide ((10 : Int) ≤ hv c)) = !isDig c := fun c => by
    unfold hv isDig
    by_cases h1 : 48 ≤ c ∧ c ≤ 57
    · rw [if_pos h1]
      simp only [h1]
      rw [decide_eq_false (by omega), decide_eq_false (by omega)]; simp
    · rw [if_neg h1, decide_eq_false h1]
      split
      · rw [decide_eq_true (p := (10 : Int) ≤ _) (by omega)]; simp
      · split
        · rw [decide_eq_true (p := (10 : Int) ≤ _) (by omega)]; simp
        · simp
  have hb : badB 10 l = true ↔ l.all isDig = false := by
    unfold badB
    simp only [hc]
    rw [List.all_eq_false, List.any_eq_true]
    simp
  have hn : l.all isDig = true → numB 10 l = dnum l := fun h => by
    have key : ∀ (l : List Int), l.all isDig = true → ∀ a, l.foldl (fun a c => 10 * a + hv c) a = l.foldl (fun a c => 10 * a + (c - 48)) a := by
      intro l
      induction l with
      | nil => intro _ a; rfl
      | cons c l ih =>
        intro h a
        rw [List.all_cons, Bool.and_eq_true] at h
        have h1 : hv c = c - 48 := by
          have := h.1
          unfold isDig at this
          unfold hv
          rw [if_pos (by simpa using this)]
        rw [List.foldl_cons, List.foldl_cons, h1, ih h.2]
    exact key l h 0
  have e1 : numErr l = refErr 10 78 l := by
    unfold numErr refErr
    rw [h]
    show (if l = [] ∨ l.all isDig = false then (2 : Int) else if 78 < l.length ∨ M256 ≤ dnum l then 5 else 0) = _
    by_cases h1 : l = [] ∨ l.all isDig = false
    · rw [if_pos h1, if_pos (h1.imp id hb.2)]
    · have h1' : ¬ (l = [] ∨ badB 10 l = true) := fun h => h1 (h.imp id hb.1)
      rw [if_neg h1, if_neg h1']
      rw [not_or] at h1
      rw [hn (by simpa using h1.2)]
      by_cases h2 : 78 < l.length
      · rw [if_pos (.inl h2), if_pos h2]
      · rw [if_neg h2]
        by_cases h3 : M256 ≤ dnum l
        · rw [if_pos (.inr h3), if_pos h3]
        · rw [if_neg (by rw [not_or]; exact ⟨h2, h3⟩), if_neg h3]
  refine ⟨e1, ?_⟩
  unfold numVal refVal
  rw [e1, h]
  by_cases h0 : refErr 10 78 l = 0
  · rw [if_neg (fun h => h h0), if_pos h0]
    refine (hn ?_).symm
    unfold refErr at h0
    by_cases h1 : l = [] ∨ badB 10 l = true
    · rw [if_pos h1] at h0; cases h0
    · rw [not_or] at h1
      rcases hx : l.all isDig with _ | _
      · exact absurd (hb.2 hx) h1.2
      · rfl
  · rw [if_pos h0, if_neg h0]
theorem pre_dval (a : List Int) : ∀ k, pre a k = dval (fun i => a.getD i 0) k
  | 0 => rfl
  | k + 1 => by rw [pre, dval, pre_dval a k]
theorem dig_lt {a : List Int} (h : Dig a) (k : Nat) : pre a k < 256 ^ k := by rw [pre_dval]; exact (dval_range h.at k).2
theorem high_zero {r : List Int} (h : Dig r) : ((r.drop 32).all fun x => decide (x = 0)) = decide (pre r r.length < M256) := by
  have e : (256 : Int) ^ 32 = M256 := by decide
  have mono : ∀ n m, n ≤ m → pre r n ≤ pre r m := by
    intro n m hnm
    induction m with
    | zero => have : n = 0 := by omega
              rw [this]; exact Int.le_refl _
    | succ m ih =>
      rcases Nat.lt_or_ge m n with h1 | h1
      · have : n = m + 1 := by omega
        rw [this]; exact Int.le_refl _
      · have h2 : 0 ≤ r.getD m 0 * 256 ^ m := Int.mul_nonneg (h.at m).1 (Int.le_of_lt (Int.pow_pos (by decide)))
        have := ih h1
        rw [pre]; omega
  by_cases hz : ∀ x ∈ r.drop 32, x = 0
  · rw [show ((r.drop 32).all fun x => decide (x = 0)) = true by rw [List.all_eq_true]; intro x hx; simpa using hz x hx]
    symm
    refine decide_eq_true ?_
    have : pre r r.length = pre r 32 := by
      rcases Nat.lt_or_ge r.length 32 with h1 | h1
      · exact (pre_out (by omega)).symm
      · obtain ⟨d, hd⟩ : ∃ d, r.length = 32 + d := ⟨r.length - 32, by omega⟩
        have key : ∀ d, pre r (32 + d) = pre r 32 := by
          intro d
          induction d with
          | zero => rfl
          | succ d ih =>
            rw [show 32 + (d + 1) = 32 + d + 1 by omega, pre, ih]
            have h3 : r.getD (32 + d) 0 = 0 := by
              rcases Nat.lt_or_ge (32 + d) r.length with h4 | h4
              · refine hz _ ?_
                rw [List.getD_eq_getElem?_getD, List.getElem?_eq_getElem h4]
                show r[32 + d] ∈ _
                rw [← List.getElem_drop (h := by rw [List.length_drop]; omega)]
                exact List.getElem_mem _
              · exact getD_out h4
            rw [h3]; simp
        rw [hd, key]
    rw [this, ← e]
    exact dig_lt h 32
  · rw [show ((r.drop 32).all fun x => decide (x = 0)) = false by
      rw [List.all_eq_false]
      simp only [Classical.not_forall] at hz
      obtain ⟨x, hx, hne⟩ := hz
      exact ⟨x, hx, by simpa using hne⟩]
    symm
    refine decide_eq_false ?_
    simp only [Classical.not_forall] at hz
    obtain ⟨x, hx, hne⟩ := hz
    obtain ⟨j, hj, rfl⟩ := List.mem_iff_getElem.1 hx
    rw [List.length_drop] at hj
    rw [List.getElem_drop] at hne
    have h1 : r.getD (32 + j) 0 = r[32 + j] := by rw [List.getD_eq_getElem?_getD, List.getElem?_eq_getElem (by omega)]; rfl
    have h2 := (h.at (32 + j)).1
    rw [h1] at h2
    have h3 : (256 : Int) ^ 32 ≤ 256 ^ (32 + j) := int_pow_le (q := 256) (by omega) (by omega)
    have h4 : pre r (32 + j + 1) ≤ pre r r.length := mono _ _ (by omega)
    have h5 := pre_nonneg h (32 + j)
    rw [pre, h1] at h4
    have h6 : (256 : Int) ^ (32 + j) ≤ r[32 + j] * 256 ^ (32 + j) := by
      have : (1 : Int) * 256 ^ (32 + j) ≤ r[32 + j] * 256 ^ (32 + j) := Int.mul_le_mul_of_nonneg_right (by omega) (Int.le_of_lt (Int.pow_pos (by decide)))
      omega
    omega
theorem word_limb {r : List Int} (h : Dig r) (hl : pre r r.length < M256) : wordF (fun j => horn 256 (fun i => r.getD i 0) j 8) = wordF (limbF (pre r r.length)) := by
  have h1 : pre r r.length = pre r 32 := by
    rcases Nat.lt_or_ge r.length 32 with h1 | h1
    · exact (pre_out (by omega)).symm
    · have hz := high_zero h
      rw [decide_eq_true hl] at hz
      have h2 : ∀ d, pre r (32 + d) = pre r 32 := by
        intro d
        induction d with
        | zero => rfl
        | succ d ih =>
          rw [show 32 + (d + 1) = 32 + d + 1 by omega, pre, ih]
          have h3 : r.getD (32 + d) 0 = 0 := by
            rcases Nat.lt_or_ge (32 + d) r.length with h4 | h4
            · have h5 := List.all_eq_true.1 hz r[32 + d] (by rw [← List.getElem_drop (h := by rw [List.length_drop]; omega)]; exact List.getElem_mem _)
              rw [List.getD_eq_getElem?_getD, List.getElem?_eq_getElem h4]
              simpa using h5
            · exact getD_out h4
          rw [h3]; simp
      obtain ⟨d, hd⟩ : ∃ d, r.length = 32 + d := ⟨r.length - 32, by omega⟩
      rw [hd, h2]
  have h2 : wval (wordD fun i => r.getD i 0) = pre r r.length := by rw [wordD_val, h1, pre_dval]
  rw [← h2]
  exact wordF_limb (wordD_range h.at)
theorem OwnI.weaken {W : World} {b b' : Nat} {v : Value} {r : List Int} (h : OwnI W b v r) (hb : b' ≤ b) : OwnI W b' v r := by
  refine ⟨h.1, h.2.imp id fun ⟨g, cap, cur, h1, h2, h3⟩ => ⟨g, cap, cur, h1, by omega, h3⟩⟩
end Go.Proofs.YtibhijjmmagdcaaGreatDoor
