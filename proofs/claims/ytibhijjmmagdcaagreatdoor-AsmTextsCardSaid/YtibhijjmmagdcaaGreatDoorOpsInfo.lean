/- ops.Info and what it comes to, walked. -/
import Derived.Test.YtibhijjmmagdcaaGreatDoorOpsPlain
import Derived.Test.YtibhijjmmagdcaaGreatDoorShelf
import Derived.Test.YtibhijjmmagdcaaGreatDoorWord
namespace Go.Proofs.YtibhijjmmagdcaaGreatDoor
set_option linter.unusedVariables false
set_option linter.unusedSimpArgs false
open Go.RowKit Go.Proofs.YtibhijjmmagdcaaGreatDoorW.PrintWords Go.Proofs.YtibhijjmmagdcaaGreatDoorW.PrintLast
theorem size51 : (Tryz.prog.info? 41).map (·.size) = some 5 := by kernel_rfl
set_option maxHeartbeats 16000000 in
set_option maxRecDepth 100000 in
theorem reckoning_any (c : Int) (w : World) (h0 : 0 ≤ c) (h1 : c < 256) :
    Calls Tryz.prog 65 #[.int .u8 c] w fun e w' => e = .returned (opR (recF c)) ∧ Below w.heap.size w w' := by
  go_enter Tryz.func65, Tryz.ntmps65
  go_wp2
  all_goals refine ret_blk2 Tryz.results65 _ _ _ _ rfl (Blk.new _ _ _) Tryz.underlying41 rfl 5 size51 rfl rfl ⟨?_, below_alloc (Below.refl _ _) _⟩
  all_goals show (_ : Ending) = _
  all_goals first
    | (rename_i h; have hk := eq_of_beq h; subst hk; rfl)
    | (have hn : recF c = none := by
        simp only [beq_eq_false_iff_ne, ne_eq] at *
        unfold recF
        simp only [*, if_false]
       rw [hn]
       rfl)
set_option maxHeartbeats 16000000 in
set_option maxRecDepth 100000 in
theorem looking_any (c : Int) (w : World) (h0 : 0 ≤ c) (h1 : c < 256) :
    Calls Tryz.prog 66 #[.int .u8 c] w fun e w' => e = .returned (opR (lookF c)) ∧ Below w.heap.size w w' := by
  go_enter Tryz.func66, Tryz.ntmps66
  go_wp2
  all_goals refine ret_blk2 Tryz.results66 _ _ _ _ rfl (Blk.new _ _ _) Tryz.underlying41 rfl 5 size51 rfl rfl ⟨?_, below_alloc (Below.refl _ _) _⟩
  all_goals show (_ : Ending) = _
  all_goals first
    | (rename_i h; have hk := eq_of_beq h; subst hk; rfl)
    | (have hn : lookF c = none := by
        simp only [beq_eq_false_iff_ne, ne_eq] at *
        unfold lookF
        simp only [*, if_false]
       rw [hn]
       rfl)
set_option maxHeartbeats 16000000 in
set_option maxRecDepth 100000 in
theorem doing_any (c : Int) (w : World) (h0 : 0 ≤ c) (h1 : c < 256) :
    Calls Tryz.prog 67 #[.int .u8 c] w fun e w' => e = .returned (opR (doF c)) ∧ Below w.heap.size w w' := by
  go_enter Tryz.func67, Tryz.ntmps67
  go_wp2
  all_goals refine ret_blk2 Tryz.results67 _ _ _ _ rfl (Blk.new _ _ _) Tryz.underlying41 rfl 5 size51 rfl rfl ⟨?_, below_alloc (Below.refl _ _) _⟩
  all_goals show (_ : Ending) = _
  all_goals first
    | (rename_i h; have hk := eq_of_beq h; subst hk; rfl)
    | (have hn : doF c = none := by
        simp only [beq_eq_false_iff_ne, ne_eq] at *
        unfold doF
        simp only [*, if_false]
       rw [hn]
       rfl)
end Go.Proofs.YtibhijjmmagdcaaGreatDoor
