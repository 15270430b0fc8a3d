/- smithyref04.Word on a text whose begin is right: digit by digit, by numbers of 32 digits. -/
import Derived.Test.YtibhijjmmagdcaaDoorRefHex
namespace Go.Proofs.YtibhijjmmagdcaaDoor
set_option linter.unusedVariables false
set_option linter.unusedSimpArgs false
open Go.RowKit Go.Proofs.YtibhijjmmagdcaaDoorW.PrintWords Go.Proofs.YtibhijjmmagdcaaDoorW.PrintLast
def RWS (w : World) (g : Nat) (f : Nat → Int) (W : World) : Prop := Below w.heap.size w W ∧ Blk W w.heap.size (arrF .u64 4 fun _ => 0) 25 ∧ Blk W g (arrF .i64 32 f) 70 ∧ w.heap.size < g
theorem RWS.below {w W W1 : World} {g : Nat} {f : Nat → Int} (h : RWS w g f W) (hb : Below W.heap.size W W1) : RWS w g f W1 := ⟨bel_then h.1 hb, h.2.1.below hb, h.2.2.1.below hb, h.2.2.2⟩
set_option maxRecDepth 100000 in
theorem refword_good (s : ByteArray) (w : World) (hs : s.size ≤ 1000000)
    (g3 : 3 ≤ s.size) (g0 : bt s 0 = 48) (g1 : bt s 1 = 120) (g2 : ¬ (3 < s.size ∧ bt s 2 = 48)) :
    Calls Tryd.prog 19 #[.string s] w fun e w' => ∃ F, U64 F ∧ wval F = wordNum (bytesOf s) % M256 ∧ e = .returned (.tuple #[wordF F, .int .i64 (wordErr (bytesOf s))]) ∧ Below w.heap.size w w' := by
  obtain ⟨r, hr⟩ : ∃ r, r = (bytesOf s).drop 2 := ⟨_, rfl⟩
  have hrl : r.length = s.size - 2 := by rw [hr, List.length_drop, bytesOf_length]
  have h1 : wordErr (bytesOf s) = digErr r := by rw [wordErr, rest0x_of (by omega) g0 g1, hr]
  have h2 : wordNum (bytesOf s) = digNum r := by rw [wordNum, rest0x_of (by omega) g0 g1, hr]
  rw [h1, h2]
  have hnn : r ≠ [] := fun e => by rw [e] at hrl; simp at hrl; omega
  have hh0 : ¬ (r.head? = some 48 ∧ 1 < r.length) := by
    rw [hrl, hr, bytesOf_drop s 2 (by omega), List.head?_cons, Option.some.injEq]
    rintro ⟨a, b⟩
    exact g2 ⟨by omega, a⟩
  have HERR : Hid (∀ b, r.any (fun c => decide (hv c < 0)) = b → digErr r = if b = true then 2 else if 66 < s.size then 4 else 0) := by
    intro b hb
    rw [digErr, hb, hrl]
    by_cases h : b = true
    · rw [if_pos (.inr (.inr h)), if_pos h]
    · have hno : ¬ (r = [] ∨ (r.head? = some 48 ∧ 1 < s.size - 2) ∨ b = true) := by
        rintro (h1 | h1 | h1)
        · exact hnn h1
        · exact hh0 (by rw [hrl]; exact h1)
        · exact h h1
      rw [if_neg hno, if_neg h]
      by_cases h66 : 66 < s.size
      · rw [if_pos (by omega), if_pos h66]
      · rw [if_neg (by omega), if_neg h66]
  have HG : Hid (∀ (k : Nat) (hk : k < r.length), r[k]'hk = bt s ((k + 2 : Nat) : Int)) := by
    intro k hk
    rw [hrl] at hk
    subst hr
    exact bytesOf_get2 s k (by omega)
  have HL := Lib.hid hrl
  clear hnn hh0 h1 h2 hrl hr
  have hz := zero25
  have hz2 := zero70
  have hb70 := build70
  have x0 := bt_zero s
  have x1 := bt_one s
  have x2 := bt_two s
  have a : ¬ (s.size : Int) < 3 := by omega
  have b : (bt s 0 != 48) = false := by simp [g0]
  have c : (bt s 1 != 120) = false := by simp [g1]
  have key : (¬ (3 : Int) < s.size) ∨ ((3 : Int) < s.size ∧ (bt s 2 == 48) = false) := by
    by_cases d : 3 < s.size
    · exact .inr ⟨by omega, by simpa using fun e => g2 ⟨d, e⟩⟩
    · exact .inl (by omega)
  clear g0 g1 g2
  rcases key with d | ⟨d, e⟩
  all_goals
    go_enter Tryd.func19, Tryd.ntmps19
    go_wp2_with ((with_reducible refine gate_op (.store 70 (.tmp 4) (.tmp 31)) rfl ?_); refine wpl_store_blk rfl 70 (.tmp 4) (.tmp 31) rfl _ rfl _ _ _ rfl (Blk.new' _ _ _ (by simp)) 32 size70 (arrF_size _ _ _) (arrF_size _ _ _) (arrF_one _ _ _) ?_; intro W0 hO0 hB0)
    have hS : RWS w (w.heap.size + 1) (fun _ => 0) W0 := ⟨Only.below (by repeat (first | exact Below.refl _ _ | assumption | refine below_alloc ?_ _ | refine bel_drewN ?_ _ | refine bel_drew ?_ | refine bel_set ?_ (by simp) _)) hO0 (by omega), Only.blk ((Blk.new _ _ _).alloc _) hO0 (by omega), hB0, by omega⟩
    clear a b c hO0 hB0 x0 x1 x2 d
    try clear e
    go_loopw [5] (fun i wr => ∃ (k : Nat) (f : Nat → Int), k + 2 ≤ s.size ∧ i = .int .i64 ((k : Int) + 2) ∧ U8 f ∧ dval f 32 = hnum (r.take k) % M256 ∧ (∀ j, j < k → 0 ≤ hv (bt s ((j + 2 : Nat) : Int))) ∧ RWS w (w.heap.size + 1) f wr) (fun i _ => s.size - (intOf i).toNat)
    case atStart => exact ⟨0, _, by omega, rfl, zero_U8, by rw [dval_zero, List.take_zero]; decide, fun j hj => by omega, hS⟩
    case round =>
      clear hS
      obtain ⟨k, f, hk, rfl, hF, hv1, hall, hS⟩ := hrel
      have HV := Lib.hid hv1
      have HA := Lib.hid hall
      have HF := Lib.hid hF
      clear hv1 hall hF
      by_cases hlt : k + 2 < s.size
      · have p0 : (0 : Int) ≤ (k : Int) + 2 := by omega
        have p1 : (k : Int) + 2 < (s.size : Int) := by omega
        have xk := bt_nat s (k + 2)
        have r0 := bt_range s ((k + 2 : Nat) : Int)
        have q0 := hv_le (bt s ((k + 2 : Nat) : Int))
        obtain ⟨cc, hcc⟩ : ∃ cc, bt s ((k + 2 : Nat) : Int) = cc := ⟨_, rfl⟩
        rw [hcc] at xk r0 q0
        have HCC := Lib.hid hcc
        clear hcc
        by_cases hneg : hv cc < 0
        · obtain ⟨hB, h0, h1, hg⟩ := hS
          go_wp2_with (first | (go_at_call 39; refine (refvalue_any _ _ (by omega) (by omega)).mono ?_; rintro e w1 ⟨rfl, rfl⟩) | ((with_reducible refine gate_op (.store 25 (.tmp 2) (.tmp 44)) rfl ?_); refine wpl_store_blk rfl 25 (.tmp 2) (.tmp 44) rfl _ rfl _ _ _ rfl h0 4 size25 (arrF_size _ _ _) (arrF_size _ _ _) (arrF_one _ _ _) ?_; intro W2 hO hB2))
          have hb : r.any (fun c => decide (hv c < 0)) = true := by
            rw [List.any_eq_true]
            exact ⟨bt s ((k + 2 : Nat) : Int), by rw [← HG.out k (by rw [HL.out]; omega)]; exact List.getElem_mem _, by rw [HCC.out]; simpa using hneg⟩
          have he : digErr r = 2 := HERR.out true hb
          refine ret_blk2 Tryd.results19 _ _ _ _ rfl hB2 Tryd.underlying25 rfl 4 size25 (arrF_size _ _ _) rfl ⟨fun _ => 0, zero_U64, zero_err (by rw [he]; decide), by rw [he]; rfl, Only.below hB hO (by omega)⟩
        · have q1 : 0 ≤ hv cc := by omega
          have HQ : Hid (0 ≤ hv cc ∧ hv cc < 16) := ⟨q1, by omega⟩
          have h1 := hS.2.2.1
          go_wp2_with (first | (go_at_call 39; refine (refvalue_any _ _ (by omega) (by omega)).mono ?_; rintro e w1 ⟨rfl, rfl⟩) | ((with_reducible refine gate_op (.load 70 (.tmp 4)) rfl ?_); refine wpl_load_blk rfl 70 (.tmp 4) rfl _ rfl _ _ _ h1 Tryd.underlying70 rfl 32 size70 (arrF_size _ _ _) ?_))
          refine (shift_any f _ HF.out).mono ?_
          rintro e w1 ⟨rfl, hb⟩
          have hS1 := hS.below hb
          clear hb h1
          go_wp2_with fail
          refine (add_any (shD f) (oneD (hv cc)) _ (shD_range HF.out) (oneD_range ⟨HQ.out.1, by have := HQ.out.2; omega⟩)).mono ?_
          rintro e w2 ⟨rfl, hb⟩
          have hS2 := hS1.below hb
          clear hb
          have h1 := hS2.2.2.1
          go_wp2_with ((with_reducible refine gate_op (.store 70 (.tmp 4) (.tmp 49)) rfl ?_); refine wpl_store_blk rfl 70 (.tmp 4) (.tmp 49) rfl _ rfl _ _ _ rfl h1 32 size70 (arrF_size _ _ _) (arrF_size _ _ _) (arrF_one _ _ _) ?_; intro W2 hO hB2)
          go_roundw
          case rel =>
            refine ⟨k + 1, addD (shD f) (oneD (hv cc)), by omega, by go_num, addD_range, ?_, fun j hj => ?_, Only.below hS2.1 hO (by omega), Only.blk hS2.2.1 hO (by omega), hB2, by omega⟩
            · rw [addD_mod (shD_range HF.out) (oneD_range ⟨HQ.out.1, by have := HQ.out.2; omega⟩), shD_mod HF.out, dval_one _ _ (by omega), HV.out,
                List.take_succ_eq_append_getElem (by rw [HL.out]; omega), HG.out k (by rw [HL.out]; omega), HCC.out, hnum_snoc]
              unfold M256
              omega
            · by_cases e : j = k
              · subst e; rw [HCC.out]; exact HQ.out.1
              · exact HA.out j (by omega)
          case measure => simp [intOf]; omega
      · have hks : k + 2 = s.size := by omega
        have hb : r.any (fun c => decide (hv c < 0)) = false := by
          rw [List.any_eq_false]
          intro c hc
          obtain ⟨j, hj, rfl⟩ := List.mem_iff_getElem.1 hc
          rw [HG.out j hj]
          rw [HL.out] at hj
          have hx := HA.out j (by omega)
          simp only [decide_eq_true_eq, Int.not_lt]
          exact hx
        have hb0 := HERR.out false hb
        have hv2 := HV.out
        rw [List.take_of_length_le (by rw [HL.out]; omega)] at hv2
        obtain ⟨hB, h0, h1, hg⟩ := hS
        have HB0 := Lib.hid hb0
        have HV2 := Lib.hid hv2
        clear hb0 hv2 hks
        by_cases h66 : 66 < s.size
        · go_wp2_with (first | ((with_reducible refine gate_op (.store 25 (.tmp 2) (.tmp 53)) rfl ?_); refine wpl_store_blk rfl 25 (.tmp 2) (.tmp 53) rfl _ rfl _ _ _ rfl h0 4 size25 (arrF_size _ _ _) (arrF_size _ _ _) (arrF_one _ _ _) ?_; intro W2 hO hB2))
          all_goals have he : digErr r = 4 := by rw [HB0.out, if_neg (by simp), if_pos h66]
          all_goals refine ret_blk2 Tryd.results19 _ _ _ _ rfl hB2 Tryd.underlying25 rfl 4 size25 (arrF_size _ _ _) rfl ⟨fun _ => 0, zero_U64, zero_err (by rw [he]; decide), by rw [he]; rfl, Only.below hB hO (by omega)⟩
        · go_wp2_with (first | ((with_reducible refine gate_op (.load 70 (.tmp 4)) rfl ?_); refine wpl_load_blk rfl 70 (.tmp 4) rfl _ rfl _ _ _ h1 Tryd.underlying70 rfl 32 size70 (arrF_size _ _ _) ?_))
          refine (dword_any f _ HF.out).mono ?_
          rintro e w1 ⟨rfl, hb⟩
          have h0' := h0.below hb
          go_wp2_with (first | ((with_reducible refine gate_op (.store 25 (.tmp 2) (.tmp 55)) rfl ?_); refine wpl_store_blk rfl 25 (.tmp 2) (.tmp 55) rfl _ rfl _ _ _ rfl h0' 4 size25 (arrF_size _ _ _) (arrF_size _ _ _) (arrF_one _ _ _) ?_; intro W2 hO hB2))
          have he : digErr r = 0 := by rw [HB0.out, if_neg (by simp), if_neg h66]
          refine ret_blk2 Tryd.results19 _ _ _ _ rfl hB2 Tryd.underlying25 rfl 4 size25 (arrF_size _ _ _) rfl ⟨wordD f, wordD_range HF.out, by rw [num_err he, wordD_val]; exact HV2.out, by rw [he]; rfl, Only.below (bel_then hB hb) hO (by omega)⟩
theorem word_ref (s : ByteArray) (hs : s.size ≤ 1000000) (w : World) :
    Calls Tryd.prog 19 #[.string s] w fun e w' => ∃ F, U64 F ∧ wval F = wordNum (bytesOf s) % M256 ∧ e = .returned (.tuple #[wordF F, .int .i64 (wordErr (bytesOf s))]) ∧ Below w.heap.size w w' := by
  by_cases h : s.size < 3 ∨ bt s 0 ≠ 48 ∨ bt s 1 ≠ 120 ∨ (3 < s.size ∧ bt s 2 = 48)
  · exact refword_bad s w hs h
  · have h3 : ¬ s.size < 3 := fun x => h (.inl x)
    have h0 : bt s 0 = 48 := Classical.byContradiction fun x => h (.inr (.inl x))
    have h1 : bt s 1 = 120 := Classical.byContradiction fun x => h (.inr (.inr (.inl x)))
    exact refword_good s w hs (by omega) h0 h1 (fun x => h (.inr (.inr (.inr x))))
end Go.Proofs.YtibhijjmmagdcaaDoor
