/- ops.data and ops.Dests, walked. -/
import Derived.Test.YtibhijjmmagdcaaGreatDoorDestsPlain
import Derived.Test.YtibhijjmmagdcaaGreatDoorOpsInfo2
import Derived.Test.YtibhijjmmagdcaaGreatDoorHexText
namespace Go.Proofs.YtibhijjmmagdcaaGreatDoor
set_option linter.unusedVariables false
set_option linter.unusedSimpArgs false
open Go.RowKit Go.Proofs.YtibhijjmmagdcaaGreatDoorW.PrintWords Go.Proofs.YtibhijjmmagdcaaGreatDoorW.PrintLast
theorem infoI : (Tryz.prog.info? 3).map (fun i => (i.zero, i.size, i.bytes)) = some (some (.int .i64 0), 1, 8) := by kernel_rfl
/-- A row of whole numbers of the call's own. -/
def OwnI (w : World) (base : Nat) (v : Value) (l : List Int) : Prop := w.ownsRow base 3 1 v l.length (nums .i64 l)
theorem OwnI.nil (w : World) (base : Nat) : OwnI w base (.slice none 0 0) [] := own_nil _ _ _ _
theorem OwnI.below {w w1 : World} {base : Nat} {v : Value} {l : List Int} (h : OwnI w base v l) (hb : Below w.heap.size w w1) : OwnI w1 base v l := pw_own_below h hb
theorem OwnI.reads {w : World} {base : Nat} {v : Value} {l : List Int} (h : OwnI w base v l) : ∃ A c, v = .slice A l.length c ∧ l.length ≤ c ∧ (Kd.int .i64).C w A l.length l := by
  obtain ⟨A, c, he, hr⟩ := own_reads h
  have hc : l.length ≤ c := by
    rcases h.2 with ⟨e, h0⟩ | ⟨g, cap, cur, e, _, _, hle, _⟩
    · rw [he] at e; injection e with _ e1 e2; omega
    · rw [he] at e; injection e with _ e1 e2; omega
  exact ⟨A, c, he, hc, Kd.C_of_reads (d := (0 : Int)) hr⟩
theorem dataF_le (c : Int) : dataF c ≤ 32 := by unfold dataF; split <;> omega
end Go.Proofs.YtibhijjmmagdcaaGreatDoor
