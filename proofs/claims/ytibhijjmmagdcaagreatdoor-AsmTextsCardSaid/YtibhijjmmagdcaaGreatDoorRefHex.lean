/- The document's answers of layer 4 (package smithyref04), walked. -/
import Derived.Test.YtibhijjmmagdcaaGreatDoorHexWord
namespace Go.Proofs.YtibhijjmmagdcaaGreatDoor
set_option linter.unusedVariables false
set_option linter.unusedSimpArgs false
open Go.RowKit Go.Proofs.YtibhijjmmagdcaaGreatDoorW.PrintWords Go.Proofs.YtibhijjmmagdcaaGreatDoorW.PrintLast
theorem refvalue_any (c : Int) (w : World) (h0 : 0 ≤ c) (h1 : c < 256) :
    Calls Tryz.prog 28 #[.int .u8 c] w fun e w' => e = .returned (.int .i64 (hv c)) ∧ w = w' := by
  by_cases a1 : 48 ≤ c
  · by_cases a2 : c ≤ 57
    · have HV : Hid (hv c = c - 48) := by unfold Hid; rw [hv, if_pos ⟨a1, a2⟩]
      go_enter Tryz.func28, Tryz.ntmps28
      go_wp2
      go_ret
      exact ⟨by rw [HV.out]; rfl, rfl⟩
    by_cases a3 : 97 ≤ c
    · by_cases a4 : c ≤ 102
      · have HV : Hid (hv c = c - 87) := by unfold Hid; rw [hv, if_neg (by omega), if_pos ⟨a3, a4⟩]
        go_enter Tryz.func28, Tryz.ntmps28
        go_wp2
        go_ret
        exact ⟨by rw [HV.out]; rfl, rfl⟩
      · have HV : Hid (hv c = -1) := by unfold Hid; rw [hv, if_neg (by omega), if_neg (by omega), if_neg (by omega)]
        go_enter Tryz.func28, Tryz.ntmps28
        go_wp2
        go_ret
        exact ⟨by rw [HV.out]; rfl, rfl⟩
    by_cases a5 : 65 ≤ c
    · by_cases a6 : c ≤ 70
      · have HV : Hid (hv c = c - 55) := by unfold Hid; rw [hv, if_neg (by omega), if_neg (by omega), if_pos ⟨a5, a6⟩]
        go_enter Tryz.func28, Tryz.ntmps28
        go_wp2
        go_ret
        exact ⟨by rw [HV.out]; rfl, rfl⟩
      · have HV : Hid (hv c = -1) := by unfold Hid; rw [hv, if_neg (by omega), if_neg (by omega), if_neg (by omega)]
        go_enter Tryz.func28, Tryz.ntmps28
        go_wp2
        go_ret
        exact ⟨by rw [HV.out]; rfl, rfl⟩
    · have HV : Hid (hv c = -1) := by unfold Hid; rw [hv, if_neg (by omega), if_neg (by omega), if_neg (by omega)]
      go_enter Tryz.func28, Tryz.ntmps28
      go_wp2
      go_ret
      exact ⟨by rw [HV.out]; rfl, rfl⟩
  · have HV : Hid (hv c = -1) := by unfold Hid; rw [hv, if_neg (by omega), if_neg (by omega), if_neg (by omega)]
    go_enter Tryz.func28, Tryz.ntmps28
    go_wp2
    go_ret
    exact ⟨by rw [HV.out]; rfl, rfl⟩
theorem dword_any (d : Nat → Int) (w : World) (hd : U8 d) :
    Calls Tryz.prog 63 #[digV d] w fun e w' => e = .returned (wordF (wordD d)) ∧ Below w.heap.size w w' := word01_any d w hd
def oneD (x : Int) (i : Nat) : Int := if i = 0 then x else 0
theorem build70 (x : Int) (W : World) : (Instr.build 108 #[(0, .int .i64 x)]).run Tryz.prog W = .ok (.agg (arrF .i64 32 (oneD x))) W := by kernel_rfl
theorem oneD_range {x : Int} (h : 0 ≤ x ∧ x < 256) : U8 (oneD x) := fun i => by unfold oneD; split <;> omega
theorem dval_one (x : Int) : ∀ n, 0 < n → dval (oneD x) n = x
  | 0, h => absurd h (by omega)
  | 1, _ => by simp [dval, oneD]
  | n + 2, _ => by rw [dval, dval_one x (n + 1) (by omega), oneD, if_neg (by omega)]; omega
theorem zero_U8 : U8 fun _ => 0 := fun _ => ⟨Int.le_refl _, by show (0 : Int) < 256; decide⟩
theorem dval_zero : ∀ n, dval (fun _ => 0) n = 0
  | 0 => rfl
  | n + 1 => by rw [dval, dval_zero n]; simp
theorem bt_one (t : ByteArray) : ∀ h : 1 < t.size, ((t[1]'h).toNat : Int) = bt t 1 := bt_at t 1
theorem bt_two (t : ByteArray) : ∀ h : 2 < t.size, ((t[2]'h).toNat : Int) = bt t 2 := bt_at t 2
end Go.Proofs.YtibhijjmmagdcaaGreatDoor
