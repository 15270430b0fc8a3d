/- smithylaw11.OpsInfo: the walk. -/
import Derived.Test.YtibhijjmmagdcaaDoorFixed11
namespace Go.Proofs.YtibhijjmmagdcaaDoor
set_option linter.unusedVariables false
set_option linter.unusedSimpArgs false
open Go.RowKit Go.Proofs.YtibhijjmmagdcaaDoorW.PrintWords Go.Proofs.YtibhijjmmagdcaaDoorW.PrintLast
theorem eql51 (o : OpI) (w : World) : (Op.equalIn 10000 51 (.agg (opA o)) (.agg (opA o))).run Tryd.prog w = .ok true w := by
  unfold opA
  go_simp
theorem opsInfo_any (c : Int) (w : World) (h0 : 0 ≤ c) (h1 : c < 256) :
    Calls Tryd.prog 8 #[.int .u8 c] w fun e w' => e = .returned (.bool true) ∧ Below w.heap.size w w' := by
  have HA := Lib.hid fun W => info_any c W h0 h1
  have HB : Hid (∀ W, Calls Tryd.prog 25 #[.int .u8 c] W fun e w' => e = .returned (opR (infoF c)) ∧ Below W.heap.size W w') := fun W => by
    have := refinfo_any c W h0 h1
    rw [info_same h0 h1] at this
    exact this
  obtain ⟨o, ho⟩ : ∃ o, o = (infoF c).getD zeroI := ⟨_, rfl⟩
  obtain ⟨k, hk⟩ : ∃ k, k = (infoF c).isSome := ⟨_, rfl⟩
  unfold opR at HA HB
  rw [← ho, ← hk] at HA HB
  clear ho hk
  go_enter Tryd.func8, Tryd.ntmps8
  go_wp2_with (first | (go_at_call 24; refine (HA.out _).mono ?_; rintro e w1 ⟨rfl, hb1⟩) | ((with_reducible refine gate_op (.store 51 (.tmp 3) (.tmp 10)) rfl ?_); refine wpl_store_blk rfl 51 (.tmp 3) (.tmp 10) rfl _ rfl _ _ _ rfl (Blk.new _ _ _) 5 size51 rfl rfl (opA_one _) ?_; intro w2 hO2 hB2) | (go_at_call 25; refine (HB.out _).mono ?_; rintro e w3 ⟨rfl, hb3⟩) | ((with_reducible refine gate_op (.store 51 (.tmp 5) (.tmp 15)) rfl ?_); refine wpl_store_blk rfl 51 (.tmp 5) (.tmp 15) rfl _ rfl _ _ _ rfl (Blk.new _ _ _) 5 size51 rfl rfl (opA_one _) ?_; intro w4 hO4 hB4))
  have e12 : Below w1.heap.size w1 w2 := Only.below (below_alloc (Below.refl _ _) _) hO2 (Nat.le_refl _)
  have e34 : Below w3.heap.size w3 w4 := Only.below (below_alloc (Below.refl _ _) _) hO4 (Nat.le_refl _)
  refine (fixed11 _).mono ?_
  rintro e w5 ⟨rfl, hb5⟩
  have k5 := ((hB2.below hb3).below e34).below hb5
  have g5 := hB4.below hb5
  have e5 := bel_then (bel_then (bel_then (bel_then hb1 e12) hb3) e34) hb5
  clear hB2 hB4 e12 e34 hb1 hb3 hb5 hO2 hO4
  have heq := eql51 o
  go_wp2_with (first | ((with_reducible refine gate_op (.load 51 (.tmp 3)) rfl ?_); refine guard_on (by rfl) ?_; refine wpl_load_blk rfl 51 (.tmp 3) rfl _ rfl _ _ _ k5 Tryd.underlying51 rfl 5 size51 rfl ?_) | ((with_reducible refine gate_op (.load 51 (.tmp 5)) rfl ?_); refine guard_on (by rfl) ?_; refine wpl_load_blk rfl 51 (.tmp 5) rfl _ rfl _ _ _ g5 Tryd.underlying51 rfl 5 size51 rfl ?_))
  go_ret
  exact ⟨rfl, e5⟩
end Go.Proofs.YtibhijjmmagdcaaDoor
