/- smithylaw04.fixed: the chapter's examples. -/
import Derived.Test.YtibhijjmmagdcaaDoorRefQuant
import Derived.Test.YtibhijjmmagdcaaDoorRefWord
namespace Go.Proofs.YtibhijjmmagdcaaDoor
set_option linter.unusedVariables false
set_option linter.unusedSimpArgs false
open Go.RowKit Go.Proofs.YtibhijjmmagdcaaDoorW.PrintWords Go.Proofs.YtibhijjmmagdcaaDoorW.PrintLast
theorem new_reads (w : World) (l : List Int) (t : TypeId) (sp : Nat × Nat) (hn : l.length ≤ 1000000) : (Kd.int .u8).C (w.alloc (.cells (nums .u8 l).toArray t sp)) (some ⟨w.heap.size, 0, none⟩) l.length l :=
  Kd.C_of_reads (d := (0 : Int)) ⟨rfl, by omega, fun _ => ⟨_, rfl, fun j hj => by
    rw [add_plain, cell_of_row _ _ _ _ _ _ (heap_alloc_new w _)]
    simp [nums, List.getD, hj]⟩⟩
theorem fix_word (w : World) : Calls Tryd.prog 15 #[.string ⟨#[48, 120, 48, 49, 48, 48]⟩] w fun e w' => ∃ F, e = .returned (.tuple #[wordF F, .int .i64 2]) ∧ Below w.heap.size w w' :=
  (word_hex ⟨#[48, 120, 48, 49, 48, 48]⟩ (by decide) w).mono fun e w' ⟨F, _, _, he, hb⟩ => ⟨F, he, hb⟩
theorem fix_quant (w : World) : Calls Tryd.prog 13 #[.agg #[.int .u64 256, .int .u64 0, .int .u64 0, .int .u64 0]] w fun e w' => e = .returned (.string ⟨#[48, 120, 49, 48, 48]⟩) ∧ Below w.heap.size w w' :=
  quantity_hex (fun i => if i = 0 then 256 else 0) w (fun i => by show 0 ≤ (if i = 0 then (256 : Int) else 0) ∧ (if i = 0 then (256 : Int) else 0) < 18446744073709551616; split <;> omega)
theorem fix_text (w : World) : Calls Tryd.prog 12 #[.slice (some ⟨w.heap.size, 0, none⟩) 2 2] (w.alloc (.cells #[.int .u8 1, .int .u8 255] 5)) fun e w' => e = .returned (.string ⟨#[48, 120, 48, 49, 102, 102]⟩) ∧ Below w.heap.size w w' :=
  (text_hex (some ⟨w.heap.size, 0, none⟩) 2 [1, 255] _ (new_reads w [1, 255] _ (0, 0) (by decide)) (by decide) (by decide) (by decide)).mono fun e w' ⟨he, hb⟩ => ⟨he, bel_then (below_alloc (Below.refl _ _) _) hb⟩
theorem fixed04 (w : World) : Calls Tryd.prog 11 #[] w fun e w' => e = .returned (.bool true) ∧ Below w.heap.size w w' := by
  have hz := zero25
  have hw := Lib.hid fix_word
  unfold wordF at hw
  go_enter Tryd.func11, Tryd.ntmps11
  go_wp2_with (first | (go_at_call 15; refine (hw.out _).mono ?_; rintro e w1 ⟨F, rfl, hb1⟩) | ((with_reducible refine gate_op (.store 25 (.tmp 1) (.tmp 5)) rfl ?_); refine wpl_store_blk rfl 25 (.tmp 1) (.tmp 5) rfl _ rfl _ _ _ rfl (Blk.new _ _ _) 4 size25 (arrF_size _ _ _) (arrF_size _ _ _) (arrF_one _ _ _) ?_; intro W hO hB) | (go_at_call 12; refine (fix_text _).mono ?_; rintro e w2 ⟨rfl, hb2⟩) | (go_at_call 13; refine (fix_quant _).mono ?_; rintro e w3 ⟨rfl, hb3⟩))
  go_ret
  exact ⟨rfl, bel_then (bel_then (Only.below (bel_then hb1 (below_alloc (Below.refl _ _) _)) hO hb1.size) hb2) hb3⟩
end Go.Proofs.YtibhijjmmagdcaaDoor
