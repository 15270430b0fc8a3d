/- smithyref04.Bytes. -/
import Derived.Test.YtibhijjmmagdcaaGreatDoorRefWord
import Derived.Test.YtibhijjmmagdcaaGreatDoorLawTexts
namespace Go.Proofs.YtibhijjmmagdcaaGreatDoor
set_option linter.unusedVariables false
set_option linter.unusedSimpArgs false
open Go.RowKit Go.Proofs.YtibhijjmmagdcaaGreatDoorW.PrintWords Go.Proofs.YtibhijjmmagdcaaGreatDoorW.PrintLast
theorem own_empty {W : World} {g base : Nat} (h : Blk W g #[] 5) (hb : base ≤ g) : OwnB W base (.slice (some ⟨g, 0, none⟩) 0 0) [] :=
  ⟨rfl, .inr ⟨g, 0, #[], rfl, hb, h, Nat.le_refl _, by decide, rfl, rfl⟩⟩
end Go.Proofs.YtibhijjmmagdcaaGreatDoor
