/- The document's answers of layer 4 (package smithyref04), walked. -/
import Derived.Test.YtibhijjmmagdcaaDoorHexWord
namespace Go.Proofs.YtibhijjmmagdcaaDoor
set_option linter.unusedVariables false
set_option linter.unusedSimpArgs false
open Go.RowKit Go.Proofs.YtibhijjmmagdcaaDoorW.PrintWords Go.Proofs.YtibhijjmmagdcaaDoorW.PrintLast
theorem refvalue_any (c : Int) (w : World) (h0 : 0 ≤ c) (h1 : c < 256) :
    Calls Tryd.prog 39 #[.int .u8 c] w fun e w' => e = .returned (.int .i64 (hv c)) ∧ w = w' := by
  by_cases a1 : 48 ≤ c
  · by_cases a2 : c ≤ 57
    · have HV : Hid (hv c = c - 48) := by unfold Hid; rw [hv, if_pos ⟨a1, a2⟩]
      go_enter Tryd.func39, Tryd.ntmps39
      go_wp2
      go_ret
      exact ⟨by rw [HV.out]; rfl, rfl⟩
    by_cases a3 : 97 ≤ c
    · by_cases a4 : c ≤ 102
      · have HV : Hid (hv c = c - 87) := by unfold Hid; rw [hv, if_neg (by omega), if_pos ⟨a3, a4⟩]
        go_enter Tryd.func39, Tryd.ntmps39
        go_wp2
        go_ret
        exact ⟨by rw [HV.out]; rfl, rfl⟩
      · have HV : Hid (hv c = -1) := by unfold Hid; rw [hv, if_neg (by omega), if_neg (by omega), if_neg (by omega)]
        go_enter Tryd.func39, Tryd.ntmps39
        go_wp2
        go_ret
        exact ⟨by rw [HV.out]; rfl, rfl⟩
    by_cases a5 : 65 ≤ c
    · by_cases a6 : c ≤ 70
      · have HV : Hid (hv c = c - 55) := by unfold Hid; rw [hv, if_neg (by omega), if_neg (by omega), if_pos ⟨a5, a6⟩]
        go_enter Tryd.func39, Tryd.ntmps39
        go_wp2
        go_ret
        exact ⟨by rw [HV.out]; rfl, rfl⟩
      · have HV : Hid (hv c = -1) := by unfold Hid; rw [hv, if_neg (by omega), if_neg (by omega), if_neg (by omega)]
        go_enter Tryd.func39, Tryd.ntmps39
        go_wp2
        go_ret
        exact ⟨by rw [HV.out]; rfl, rfl⟩
    · have HV : Hid (hv c = -1) := by unfold Hid; rw [hv, if_neg (by omega), if_neg (by omega), if_neg (by omega)]
      go_enter Tryd.func39, Tryd.ntmps39
      go_wp2
      go_ret
      exact ⟨by rw [HV.out]; rfl, rfl⟩
  · have HV : Hid (hv c = -1) := by unfold Hid; rw [hv, if_neg (by omega), if_neg (by omega), if_neg (by omega)]
    go_enter Tryd.func39, Tryd.ntmps39
    go_wp2
    go_ret
    exact ⟨by rw [HV.out]; rfl, rfl⟩
theorem shift_any (f : Nat → Int) (w : World) (hf : U8 f) :
    Calls Tryd.prog 41 #[digV f, .int .i64 4] w fun e w' => e = .returned (digV (shD f)) ∧ Below w.heap.size w w' :=
  (shift01_any f w hf).mono fun e w' ⟨he, hb⟩ => ⟨he.trans (ret_arr fun j hj => bits_shD hf j hj), hb⟩
theorem add_any (f g : Nat → Int) (w : World) (hf : U8 f) (hg : U8 g) :
    Calls Tryd.prog 40 #[digV f, digV g] w fun e w' => e = .returned (digV (addD f g)) ∧ Below w.heap.size w w' := add01_any f g w hf hg
theorem dword_any (d : Nat → Int) (w : World) (hd : U8 d) :
    Calls Tryd.prog 42 #[digV d] w fun e w' => e = .returned (wordF (wordD d)) ∧ Below w.heap.size w w' := word01_any d w hd
theorem of_digits (F : Nat → Int) (w : World) (hF : U64 F) :
    Calls Tryd.prog 38 #[wordF F] w fun e w' => e = .returned (digV (ofD F)) ∧ Below w.heap.size w w' := of01_any F w hF
def oneD (x : Int) (i : Nat) : Int := if i = 0 then x else 0
theorem build70 (x : Int) (W : World) : (Instr.build 70 #[(0, .int .i64 x)]).run Tryd.prog W = .ok (.agg (arrF .i64 32 (oneD x))) W := by kernel_rfl
theorem oneD_range {x : Int} (h : 0 ≤ x ∧ x < 256) : U8 (oneD x) := fun i => by unfold oneD; split <;> omega
theorem dval_one (x : Int) : ∀ n, 0 < n → dval (oneD x) n = x
  | 0, h => absurd h (by omega)
  | 1, _ => by simp [dval, oneD]
  | n + 2, _ => by rw [dval, dval_one x (n + 1) (by omega), oneD, if_neg (by omega)]; omega
theorem zero_U8 : U8 fun _ => 0 := fun _ => ⟨Int.le_refl _, by show (0 : Int) < 256; decide⟩
theorem dval_zero : ∀ n, dval (fun _ => 0) n = 0
  | 0 => rfl
  | n + 1 => by rw [dval, dval_zero n]; simp
theorem bt_one (t : ByteArray) : ∀ h : 1 < t.size, ((t[1]'h).toNat : Int) = bt t 1 := bt_at t 1
theorem bt_two (t : ByteArray) : ∀ h : 2 < t.size, ((t[2]'h).toNat : Int) = bt t 2 := bt_at t 2
set_option maxRecDepth 100000 in
theorem refword_bad (s : ByteArray) (w : World) (hs : s.size ≤ 1000000)
    (hbad : s.size < 3 ∨ bt s 0 ≠ 48 ∨ bt s 1 ≠ 120 ∨ (3 < s.size ∧ bt s 2 = 48)) :
    Calls Tryd.prog 19 #[.string s] w fun e w' => ∃ F, U64 F ∧ wval F = wordNum (bytesOf s) % M256 ∧ e = .returned (.tuple #[wordF F, .int .i64 (wordErr (bytesOf s))]) ∧ Below w.heap.size w w' := by
  have h1 : wordErr (bytesOf s) = 2 := by
    unfold wordErr
    by_cases hok : 2 ≤ s.size ∧ bt s 0 = 48 ∧ bt s 1 = 120
    · rw [rest0x_of hok.1 hok.2.1 hok.2.2]
      have hx : s.size < 3 ∨ (3 < s.size ∧ bt s 2 = 48) := by
        rcases hbad with h | h | h | h
        · exact .inl h
        · exact absurd hok.2.1 h
        · exact absurd hok.2.2 h
        · exact .inr h
      show digErr _ = 2
      rw [digErr, if_pos]
      rcases hx with h | h
      · left
        exact List.eq_nil_of_length_eq_zero (by rw [List.length_drop, bytesOf_length]; omega)
      · right; left
        refine ⟨?_, by rw [List.length_drop, bytesOf_length]; omega⟩
        rw [bytesOf_drop s 2 (by omega), List.head?_cons]
        exact congrArg some h.2
    · rw [rest0x_none_of]
      by_cases a : s.size < 2
      · exact .inl a
      · by_cases b : bt s 0 = 48
        · exact .inr (.inr fun c => hok ⟨by omega, b, c⟩)
        · exact .inr (.inl b)
  have h2 : wordNum (bytesOf s) = 0 := wordNum_bad (by rw [h1]; decide)
  have H1 := Lib.hid h1
  have H2 := Lib.hid h2
  clear h1 h2
  have hz := zero25
  have x0 := bt_zero s
  have x1 := bt_one s
  have x2 := bt_two s
  have h0 : Blk (w.alloc (.cells (arrF .u64 4 fun _ => 0) 25)) w.heap.size (arrF .u64 4 fun _ => 0) 25 := Blk.new _ _ _
  have key : ((s.size : Int) < 3) ∨ (¬ (s.size : Int) < 3 ∧ (bt s 0 != 48) = true) ∨ (¬ (s.size : Int) < 3 ∧ (bt s 0 != 48) = false ∧ (bt s 1 != 120) = true) ∨ (¬ (s.size : Int) < 3 ∧ (bt s 0 != 48) = false ∧ (bt s 1 != 120) = false ∧ (3 : Int) < s.size ∧ (bt s 2 == 48) = true) := by
    by_cases a : s.size < 3
    · exact .inl (by omega)
    · by_cases b : bt s 0 = 48
      · by_cases c : bt s 1 = 120
        · have h : 3 < s.size ∧ bt s 2 = 48 := by
            rcases hbad with h | h | h | h
            · exact absurd h a
            · exact absurd b h
            · exact absurd c h
            · exact h
          exact .inr (.inr (.inr ⟨by omega, by simp [b], by simp [c], by omega, by simp [h.2]⟩))
        · exact .inr (.inr (.inl ⟨by omega, by simp [b], by simpa using c⟩))
      · exact .inr (.inl ⟨by omega, by simpa using b⟩)
  clear hbad
  rcases key with a | ⟨a, b⟩ | ⟨a, b, c⟩ | ⟨a, b, c, d, e⟩
  all_goals
    go_enter Tryd.func19, Tryd.ntmps19
    go_wp2_with (first | ((with_reducible refine gate_op (.store 25 (.tmp 2) (.tmp 30)) rfl ?_); refine wpl_store_blk rfl 25 (.tmp 2) (.tmp 30) rfl _ rfl _ _ _ rfl h0 4 size25 (arrF_size _ _ _) (arrF_size _ _ _) (arrF_one _ _ _) ?_; intro W2 hO hB2))
    refine ret_blk2 Tryd.results19 _ _ _ _ rfl hB2 Tryd.underlying25 rfl 4 size25 (arrF_size _ _ _) rfl ⟨fun _ => 0, zero_U64, by rw [H2.out, zero_val]; rfl, by rw [H1.out]; rfl, Only.below (by repeat (first | exact Below.refl _ _ | assumption | refine below_alloc ?_ _ | refine bel_drewN ?_ _ | refine bel_drew ?_ | refine bel_set ?_ (by simp) _)) hO (by omega)⟩
end Go.Proofs.YtibhijjmmagdcaaDoor
