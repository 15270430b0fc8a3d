/- smithylaw04.HexTexts: the walk. -/
import Derived.Test.YtibhijjmmagdcaaGreatDoorFixed04
namespace Go.Proofs.YtibhijjmmagdcaaGreatDoor
set_option linter.unusedVariables false
set_option linter.unusedSimpArgs false
open Go.RowKit Go.Proofs.YtibhijjmmagdcaaGreatDoorW.PrintWords Go.Proofs.YtibhijjmmagdcaaGreatDoorW.PrintLast
/-- A row of the call's own, read. -/
theorem OwnB.reads {w : World} {base : Nat} {v : Value} {l : List Int} (h : OwnB w base v l) : ∃ A c, v = .slice A l.length c ∧ l.length ≤ c ∧ (Kd.int .u8).C w A l.length l := by
  obtain ⟨A, c, he, hr⟩ := own_reads h
  have hc : l.length ≤ c := by
    rcases h.2 with ⟨e, h0⟩ | ⟨g, cap, cur, e, _, _, hle, _⟩
    · rw [he] at e; injection e with _ e1 e2; omega
    · rw [he] at e; injection e with _ e1 e2; omega
  exact ⟨A, c, he, hc, Kd.C_of_reads (d := (0 : Int)) hr⟩
theorem conv_bytes {W : World} {A : Option Addr} {n c : Nat} {l : List Int} (h : (Kd.int .u8).C W A n l) : (convert 22 9 (.slice A n c)).run Tryz.prog W = .ok (.string (strOfNums l)) W :=
  Kd.C_string Tryz.underlying22 Tryz.underlying5 Tryz.underlying9 h
/-- The three calls, as the law asks them. -/
theorem law_bytes {l : List Int} (hl : ∀ c ∈ l, 0 ≤ c ∧ c < 256) (hn : l.length ≤ 3000) (w : World) :
    Calls Tryz.prog 51 #[.string (strOfNums (textL l))] w fun e w' => ∃ A c, e = .returned (.tuple #[.slice A l.length c, .int .i64 0]) ∧ l.length ≤ c ∧ (Kd.int .u8).C w' A l.length l ∧ Below w.heap.size w w' := by
  refine (bytes_hex _ (by rw [strOfNums_size, textL, List.length_cons, List.length_cons, hexOf_length]; omega) w).mono ?_
  rintro e w' ⟨v, rfl, hO, hB⟩
  rw [bytesOf_strOfNums (textL_byte hl), bytesOf_textL hl] at hO ⊢
  obtain ⟨A, c, rfl, hc, hr⟩ := hO.reads
  exact ⟨A, c, rfl, hc, hr, hB⟩
theorem eqN_refl (n : Nat) (f : Nat → Int) : eqN n f f = true := eqN_iff.2 fun _ _ => rfl
end Go.Proofs.YtibhijjmmagdcaaGreatDoor
