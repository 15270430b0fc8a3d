/- ops.Info and what it comes to, walked. -/
import Derived.Test.YtibhijjmmagdcaaDoorOpsPlain
import Derived.Test.YtibhijjmmagdcaaDoorShelf
import Derived.Test.YtibhijjmmagdcaaDoorWord
namespace Go.Proofs.YtibhijjmmagdcaaDoor
set_option linter.unusedVariables false
set_option linter.unusedSimpArgs false
open Go.RowKit Go.Proofs.YtibhijjmmagdcaaDoorW.PrintWords Go.Proofs.YtibhijjmmagdcaaDoorW.PrintLast
theorem size51 : (Tryd.prog.info? 51).map (·.size) = some 5 := by kernel_rfl
set_option maxHeartbeats 16000000 in
set_option maxRecDepth 100000 in
theorem reckoning_any (c : Int) (w : World) (h0 : 0 ≤ c) (h1 : c < 256) :
    Calls Tryd.prog 78 #[.int .u8 c] w fun e w' => e = .returned (opR (recF c)) ∧ Below w.heap.size w w' := by
  go_enter Tryd.func78, Tryd.ntmps78
  go_wp2
  all_goals refine ret_blk2 Tryd.results78 _ _ _ _ rfl (Blk.new _ _ _) Tryd.underlying51 rfl 5 size51 rfl rfl ⟨?_, below_alloc (Below.refl _ _) _⟩
  all_goals show (_ : Ending) = _
  all_goals first
    | (rename_i h; have hk := eq_of_beq h; subst hk; rfl)
    | (have hn : recF c = none := by
        simp only [beq_eq_false_iff_ne, ne_eq] at *
        unfold recF
        simp only [*, if_false]
       rw [hn]
       rfl)
set_option maxHeartbeats 16000000 in
set_option maxRecDepth 100000 in
theorem looking_any (c : Int) (w : World) (h0 : 0 ≤ c) (h1 : c < 256) :
    Calls Tryd.prog 79 #[.int .u8 c] w fun e w' => e = .returned (opR (lookF c)) ∧ Below w.heap.size w w' := by
  go_enter Tryd.func79, Tryd.ntmps79
  go_wp2
  all_goals refine ret_blk2 Tryd.results79 _ _ _ _ rfl (Blk.new _ _ _) Tryd.underlying51 rfl 5 size51 rfl rfl ⟨?_, below_alloc (Below.refl _ _) _⟩
  all_goals show (_ : Ending) = _
  all_goals first
    | (rename_i h; have hk := eq_of_beq h; subst hk; rfl)
    | (have hn : lookF c = none := by
        simp only [beq_eq_false_iff_ne, ne_eq] at *
        unfold lookF
        simp only [*, if_false]
       rw [hn]
       rfl)
set_option maxHeartbeats 16000000 in
set_option maxRecDepth 100000 in
theorem doing_any (c : Int) (w : World) (h0 : 0 ≤ c) (h1 : c < 256) :
    Calls Tryd.prog 80 #[.int .u8 c] w fun e w' => e = .returned (opR (doF c)) ∧ Below w.heap.size w w' := by
  go_enter Tryd.func80, Tryd.ntmps80
  go_wp2
  all_goals refine ret_blk2 Tryd.results80 _ _ _ _ rfl (Blk.new _ _ _) Tryd.underlying51 rfl 5 size51 rfl rfl ⟨?_, below_alloc (Below.refl _ _) _⟩
  all_goals show (_ : Ending) = _
  all_goals first
    | (rename_i h; have hk := eq_of_beq h; subst hk; rfl)
    | (have hn : doF c = none := by
        simp only [beq_eq_false_iff_ne, ne_eq] at *
        unfold doF
        simp only [*, if_false]
       rw [hn]
       rfl)
end Go.Proofs.YtibhijjmmagdcaaDoor
