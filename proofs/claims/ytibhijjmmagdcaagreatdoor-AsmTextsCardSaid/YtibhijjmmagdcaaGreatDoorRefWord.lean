/- smithyref04.Word on a text whose begin is right: digit by digit, by numbers of 32 digits. -/
import Derived.Test.YtibhijjmmagdcaaGreatDoorRefHex
namespace Go.Proofs.YtibhijjmmagdcaaGreatDoor
set_option linter.unusedVariables false
set_option linter.unusedSimpArgs false
open Go.RowKit Go.Proofs.YtibhijjmmagdcaaGreatDoorW.PrintWords Go.Proofs.YtibhijjmmagdcaaGreatDoorW.PrintLast
def RWS (w : World) (g : Nat) (f : Nat → Int) (W : World) : Prop := Below w.heap.size w W ∧ Blk W w.heap.size (arrF .u64 4 fun _ => 0) 31 ∧ Blk W g (arrF .i64 32 f) 108 ∧ w.heap.size < g
theorem RWS.below {w W W1 : World} {g : Nat} {f : Nat → Int} (h : RWS w g f W) (hb : Below W.heap.size W W1) : RWS w g f W1 := ⟨bel_then h.1 hb, h.2.1.below hb, h.2.2.1.below hb, h.2.2.2⟩
end Go.Proofs.YtibhijjmmagdcaaGreatDoor
