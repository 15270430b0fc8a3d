/- smithylaw04.fixed: the chapter's examples. -/
import Derived.Test.YtibhijjmmagdcaaGreatDoorRefQuant
import Derived.Test.YtibhijjmmagdcaaGreatDoorRefWord
namespace Go.Proofs.YtibhijjmmagdcaaGreatDoor
set_option linter.unusedVariables false
set_option linter.unusedSimpArgs false
open Go.RowKit Go.Proofs.YtibhijjmmagdcaaGreatDoorW.PrintWords Go.Proofs.YtibhijjmmagdcaaGreatDoorW.PrintLast
theorem new_reads (w : World) (l : List Int) (t : TypeId) (sp : Nat × Nat) (hn : l.length ≤ 1000000) : (Kd.int .u8).C (w.alloc (.cells (nums .u8 l).toArray t sp)) (some ⟨w.heap.size, 0, none⟩) l.length l :=
  Kd.C_of_reads (d := (0 : Int)) ⟨rfl, by omega, fun _ => ⟨_, rfl, fun j hj => by
    rw [add_plain, cell_of_row _ _ _ _ _ _ (heap_alloc_new w _)]
    simp [nums, List.getD, hj]⟩⟩
theorem fix_text (w : World) : Calls Tryz.prog 13 #[.slice (some ⟨w.heap.size, 0, none⟩) 2 2] (w.alloc (.cells #[.int .u8 1, .int .u8 255] 5)) fun e w' => e = .returned (.string ⟨#[48, 120, 48, 49, 102, 102]⟩) ∧ Below w.heap.size w w' :=
  (text_hex (some ⟨w.heap.size, 0, none⟩) 2 [1, 255] _ (new_reads w [1, 255] _ (0, 0) (by decide)) (by decide) (by decide) (by decide)).mono fun e w' ⟨he, hb⟩ => ⟨he, bel_then (below_alloc (Below.refl _ _) _) hb⟩
end Go.Proofs.YtibhijjmmagdcaaGreatDoor
