/- smithylaw11.fixed: the chapter's examples. -/
import Derived.Test.YtibhijjmmagdcaaGreatDoorOpsDests
import Derived.Test.YtibhijjmmagdcaaGreatDoorRefInfo
import Derived.Test.YtibhijjmmagdcaaGreatDoorBuilder
import Derived.Test.YtibhijjmmagdcaaGreatDoorLawTexts
namespace Go.Proofs.YtibhijjmmagdcaaGreatDoor
set_option linter.unusedVariables false
set_option linter.unusedSimpArgs false
open Go.RowKit Go.Proofs.YtibhijjmmagdcaaGreatDoorW.PrintWords Go.Proofs.YtibhijjmmagdcaaGreatDoorW.PrintLast
def P1 : Array Value := #[.string ⟨#[80, 85, 83, 72, 49]⟩, .int .i64 0, .int .i64 1, .int .u64 3, .int .i64 1]
theorem info96 (w : World) : Calls Tryz.prog 11 #[.int .u8 96] w fun e w' => e = .returned (.tuple #[.agg P1, .bool true]) ∧ Below w.heap.size w w' :=
  (info_any 96 w (by decide) (by decide)).mono fun e w' ⟨he, hb⟩ => ⟨he, hb⟩
theorem itoa0 (w : World) : Calls Tryz.prog 34 #[.int .i64 0] w fun e w' => e = .returned (.string ⟨#[48]⟩) ∧ w = w' :=
  (itoa_small 0 w (by decide) (by decide)).mono fun e w' ⟨he, hb⟩ => ⟨he, hb⟩
theorem P1_one : P1.all (·.oneCell') = true := by simp [P1, Value.oneCell']
def TEXT1 : List Int := [48, 32, 80, 85, 83, 72, 49, 32, 48, 120, 48, 49, 10]
theorem OwnI.range {w : World} {base : Nat} {v : Value} {l : List Int} (h : OwnI w base v l) (hn : 0 < l.length) : ∃ g c, v = .slice (some ⟨g, 0, none⟩) l.length c ∧ l.length ≤ c ∧ ∀ j (hj : j < l.length), w.cell? ⟨g, j, none⟩ = some (.int .i64 l[j]) := by
  obtain ⟨A, c, he, hc, hr⟩ := h.reads
  rcases h.2 with ⟨e, h0⟩ | ⟨g, cap, cur, e, hb, _, _, _⟩
  · omega
  · rw [he] at e
    injection e with e1 e2 e3
    subst e1; subst e3
    refine ⟨g, c, he, hc, fun j hj => ?_⟩
    obtain ⟨ad, ha, hcell⟩ := Kd.at_int hr (j : Int) (by omega) (by omega)
    injection ha with ha
    subst ha
    rw [Int.toNat_natCast, add_plain, rd_at hj] at hcell
    exact hcell
end Go.Proofs.YtibhijjmmagdcaaGreatDoor
