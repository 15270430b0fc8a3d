/- smithylaw11.fixed: the chapter's examples. -/
import Derived.Test.YtibhijjmmagdcaaDoorOpsDests
import Derived.Test.YtibhijjmmagdcaaDoorRefInfo
import Derived.Test.YtibhijjmmagdcaaDoorBuilder
import Derived.Test.YtibhijjmmagdcaaDoorLawTexts
namespace Go.Proofs.YtibhijjmmagdcaaDoor
set_option linter.unusedVariables false
set_option linter.unusedSimpArgs false
open Go.RowKit Go.Proofs.YtibhijjmmagdcaaDoorW.PrintWords Go.Proofs.YtibhijjmmagdcaaDoorW.PrintLast
def P1 : Array Value := #[.string ⟨#[80, 85, 83, 72, 49]⟩, .int .i64 0, .int .i64 1, .int .u64 3, .int .i64 1]
theorem info96 (w : World) : Calls Tryd.prog 24 #[.int .u8 96] w fun e w' => e = .returned (.tuple #[.agg P1, .bool true]) ∧ Below w.heap.size w w' :=
  (info_any 96 w (by decide) (by decide)).mono fun e w' ⟨he, hb⟩ => ⟨he, hb⟩
theorem itoa0 (w : World) : Calls Tryd.prog 47 #[.int .i64 0] w fun e w' => e = .returned (.string ⟨#[48]⟩) ∧ w = w' :=
  (itoa_small 0 w (by decide) (by decide)).mono fun e w' ⟨he, hb⟩ => ⟨he, hb⟩
theorem P1_one : P1.all (·.oneCell') = true := by simp [P1, Value.oneCell']
def TEXT1 : List Int := [48, 32, 80, 85, 83, 72, 49, 32, 48, 120, 48, 49, 10]
theorem text_one (w : World) (b c : Nat) (hr : (Kd.int .u8).C w (some ⟨b, 0, none⟩) 2 [96, 1]) (hc : 2 ≤ c) :
    Calls Tryd.prog 52 #[.slice (some ⟨b, 0, none⟩) 2 c] w fun e w' => e = .returned (.string (strOfNums TEXT1)) ∧ Below w.heap.size w w' := by
  have HC : Hid (∀ W, Below w.heap.size w W → W.cell? ⟨b, 0, none⟩ = some (.int .u8 96)) := fun W hb => by
    obtain ⟨ad', hA', hc⟩ := Kd.at_int (Kd.C_below hr hb) 0 (by decide) (by decide)
    injection hA' with hA'
    subst hA'
    exact hc
  have HT : Hid (∀ W, Below w.heap.size w W → Calls Tryd.prog 12 #[.slice (some ⟨b, 1, none⟩) 1 (c - 1)] W fun e w' => e = .returned (.string ⟨#[48, 120, 48, 49]⟩) ∧ Below W.heap.size W w') := fun W hb => by
    obtain ⟨ad', hA', hc1⟩ := Kd.at_int (Kd.C_below hr hb) 1 (by decide) (by decide)
    injection hA' with hA'
    subst hA'
    have hk : (Kd.int .u8).C W (some ⟨b, 1, none⟩) 1 [1] := Kd.C_of_reads (d := (0 : Int)) ⟨rfl, by decide, fun _ => ⟨_, rfl, fun j hj => by
      obtain rfl : j = 0 := by omega
      exact hc1⟩⟩
    exact text_hex (some ⟨b, 1, none⟩) (c - 1) [1] W hk (by simp; omega) (by decide) (by decide)
  clear hr
  go_enter Tryd.func52, Tryd.ntmps52
  go_wp2_with fail
  obtain ⟨w0, hw0⟩ : ∃ w0, w0 = w.alloc (.cells #[.pointer none, .slice none 0 0] 106) := ⟨_, rfl⟩
  have b0 : Bld w.heap.size w.heap.size [] w0 := hw0 ▸ Bld.new w
  have e0 : Below w.heap.size w w0 := hw0 ▸ below_alloc (Below.refl _ _) _
  rw [← hw0]
  clear hw0
  go_loopw [4] (fun i wr => Below w.heap.size w wr ∧ ((i = .int .i64 0 ∧ Bld w.heap.size w.heap.size [] wr) ∨ (i = .int .i64 2 ∧ Bld w.heap.size w.heap.size TEXT1 wr))) (fun i _ => 2 - (intOf i).toNat)
  case atStart => exact ⟨e0, .inl ⟨rfl, b0⟩⟩
  case round =>
    clear e0 b0
    obtain ⟨hB, ⟨rfl, hb⟩ | ⟨rfl, hb⟩⟩ := hrel
    · have c0 := HC.out wr hB
      go_wp2_with fail
      refine (info96 wr).mono ?_
      rintro e w1 ⟨rfl, hb1⟩
      go_wp2_with (first | (((with_reducible refine gate_op (.store 51 (.tmp 5) (.tmp 19)) rfl ?_); refine wpl_store_blk rfl 51 (.tmp 5) (.tmp 19) rfl _ rfl _ _ _ rfl (Blk.new _ _ _) 5 size51 rfl rfl P1_one ?_; intro w2 hO hB2); have f0 : w2.cell? ⟨w1.heap.size, 0, none⟩ = some (.string ⟨#[80, 85, 83, 72, 49]⟩) := hB2.cell 0) | (go_at_call 47; refine (itoa0 _).mono ?_; rintro e w3 ⟨rfl, rfl⟩))
      have e12 : Below w1.heap.size w1 w2 := Only.below (below_alloc (Below.refl _ _) _) hO (Nat.le_refl _)
      obtain ⟨g, hg⟩ : ∃ g, g = w1.heap.size := ⟨_, rfl⟩
      rw [← hg] at hB2 ⊢
      have hgb : g ≠ w.heap.size := by have := hb.lt; have := hb1.size; omega
      have k2 := (hb.below hb1).below e12
      have e2 := bel_then (bel_then hB hb1) e12
      clear f0 hO hg e12 hb1 hB hb c0
      refine (bld_write _ k2 (by decide) (by decide) e2.size).mono ?_
      rintro e w3 ⟨rfl, k3, hb3, kp3⟩
      have k3 : Bld w.heap.size w.heap.size [48, 32, 80, 85, 83, 72, 49] w3 := k3
      have e3 : Below w.heap.size w w3 := e2.trans hb3
      have B3 := kp3 g _ _ (by decide) hgb hB2
      have f4 : w3.cell? ⟨g, 4, none⟩ = some (.int .i64 1) := B3.cell 4
      clear k2 e2 hb3 kp3 hB2
      go_wp2_with (go_at_call 12; refine (HT.out _ e3).mono ?_; rintro e w4 ⟨rfl, hb4⟩)
      refine (bld_write _ (k3.below hb4) (by decide) (by decide) (bel_then e3 hb4).size).mono ?_
      rintro e w5 ⟨rfl, k5, hb5, kp5⟩
      have k5 : Bld w.heap.size w.heap.size [48, 32, 80, 85, 83, 72, 49, 32, 48, 120, 48, 49] w5 := k5
      have e5 : Below w.heap.size w w5 := (bel_then e3 hb4).trans hb5
      clear k3 e3 hb4 hb5 kp5 B3 f4
      go_wp2_with fail
      refine (bld_write _ k5 (by decide) (by decide) e5.size).mono ?_
      rintro e w6 ⟨rfl, k6, hb6, kp6⟩
      have k6 : Bld w.heap.size w.heap.size TEXT1 w6 := k6
      have e6 : Below w.heap.size w w6 := e5.trans hb6
      clear k5 e5 hb6 kp6
      go_wp2_with fail
      go_roundw
      case rel => exact ⟨e6, .inr ⟨rfl, k6⟩⟩
      case measure => simp [intOf]
    · go_wp2_with (go_at_call 67; refine (bld_string hb (by decide) hB.size).mono ?_; rintro e w1 ⟨rfl, hb1⟩)
      go_ret
      exact ⟨rfl, hB.trans hb1⟩
theorem fix_text1 (w : World) : Calls Tryd.prog 52 #[.slice (some ⟨w.heap.size, 0, none⟩) 2 2] (w.alloc (.cells #[.int .u8 96, .int .u8 1] 5)) fun e w' => e = .returned (.string ⟨#[48, 32, 80, 85, 83, 72, 49, 32, 48, 120, 48, 49, 10]⟩) ∧ Below w.heap.size w w' :=
  (text_one _ w.heap.size 2 (new_reads w [96, 1] _ (0, 0) (by decide)) (by decide)).mono fun e w' ⟨he, hb⟩ => ⟨he, bel_then (below_alloc (Below.refl _ _) _) hb⟩
theorem OwnI.range {w : World} {base : Nat} {v : Value} {l : List Int} (h : OwnI w base v l) (hn : 0 < l.length) : ∃ g c, v = .slice (some ⟨g, 0, none⟩) l.length c ∧ l.length ≤ c ∧ ∀ j (hj : j < l.length), w.cell? ⟨g, j, none⟩ = some (.int .i64 l[j]) := by
  obtain ⟨A, c, he, hc, hr⟩ := h.reads
  rcases h.2 with ⟨e, h0⟩ | ⟨g, cap, cur, e, hb, _, _, _⟩
  · omega
  · rw [he] at e
    injection e with e1 e2 e3
    subst e1; subst e3
    refine ⟨g, c, he, hc, fun j hj => ?_⟩
    obtain ⟨ad, ha, hcell⟩ := Kd.at_int hr (j : Int) (by omega) (by omega)
    injection ha with ha
    subst ha
    rw [Int.toNat_natCast, add_plain, rd_at hj] at hcell
    exact hcell
theorem fix_dests4 (w : World) : Calls Tryd.prog 27 #[.slice (some ⟨w.heap.size, 0, none⟩) 4 4] (w.alloc (.cells #[.int .u8 91, .int .u8 96, .int .u8 91, .int .u8 91] 5)) fun e w' => ∃ g c, e = .returned (.slice (some ⟨g, 0, none⟩) 2 c) ∧ w'.cell? ⟨g, 0, none⟩ = some (.int .i64 0) ∧ w'.cell? ⟨g, 1, none⟩ = some (.int .i64 3) ∧ Below w.heap.size w w' := by
  refine (dests_any (some ⟨w.heap.size, 0, none⟩) 4 [91, 96, 91, 91] _ (new_reads w [91, 96, 91, 91] _ (0, 0) (by decide)) (by decide) (by decide) (by decide)).mono ?_
  rintro e w' ⟨v, rfl, hO, hb⟩
  rw [fixed_dests] at hO
  obtain ⟨g, c, rfl, _, hc⟩ := hO.range (by decide)
  exact ⟨g, c, rfl, hc 0 (by decide), hc 1 (by decide), bel_then (below_alloc (Below.refl _ _) _) hb⟩
theorem fixed11 (w : World) : Calls Tryd.prog 26 #[] w fun e w' => e = .returned (.bool true) ∧ Below w.heap.size w w' := by
  go_enter Tryd.func26, Tryd.ntmps26
  go_wp2_with (first | (go_at_call 27; refine (fix_dests4 _).mono ?_; rintro e w1 ⟨g, c, rfl, hc0, hc1, hb1⟩) | (go_at_call 52; refine (fix_text1 _).mono ?_; rintro e w2 ⟨rfl, hb2⟩))
  go_ret
  exact ⟨rfl, bel_then hb1 hb2⟩
end Go.Proofs.YtibhijjmmagdcaaDoor
