/- smithyref02.N.Word and smithyref27.Number, walked. -/
import Derived.Test.YtibhijjmmagdcaaGreatDoorRef02b
import Derived.Test.YtibhijjmmagdcaaGreatDoorRefHex
import Derived.Test.YtibhijjmmagdcaaGreatDoorAsmBase
namespace Go.Proofs.YtibhijjmmagdcaaGreatDoor
set_option linter.unusedVariables false
set_option linter.unusedSimpArgs false
open Go.RowKit Go.Proofs.YtibhijjmmagdcaaGreatDoorW.PrintWords Go.Proofs.YtibhijjmmagdcaaGreatDoorW.PrintLast
set_option maxRecDepth 100000 in
theorem nword_any (A : Option Addr) (c : Nat) (l : List Int) (w : World) (hr : (Kd.int .i64).C w A l.length l) (hd : Dig l) :
    Calls Tryz.prog 33 #[.slice A l.length c] w fun e w' => e = .returned (wordF fun j => horn 256 (fun i => l.getD i 0) j 8) ∧ Below w.heap.size w w' := by
  have HA := Lib.hid fun (W : World) (h : Below w.heap.size w W) (i : Nat) (hi : i ≤ 100000) => at_any A c l i W (Kd.C_below hr h) hi
  have HW := Lib.hid fun (W : World) => word01_any (fun i => l.getD i 0) W hd.at
  have HD := Lib.hid hd
  have hz := zero25
  have hz2 := zero70
  clear hr hd
  go_enter Tryz.func33, Tryz.ntmps33
  go_wp2_with ((with_reducible refine gate_op (.store 108 (.tmp 3) (.tmp 5)) rfl ?_); refine wpl_store_blk rfl 108 (.tmp 3) (.tmp 5) rfl _ rfl _ _ _ rfl (Blk.new' _ _ _ (by simp)) 32 size70 (arrF_size _ _ _) (arrF_size _ _ _) (arrF_one _ _ _) ?_; intro W1 hO hB1)
  have hB : Below w.heap.size w W1 := Only.below (by repeat (first | exact Below.refl _ _ | assumption | refine below_alloc ?_ _ | refine bel_drewN ?_ _ | refine bel_drew ?_ | refine bel_set ?_ (by simp) _)) hO (by simp)
  have h2 : Blk W1 w.heap.size (arrF .u64 4 fun _ => 0) 31 := Only.blk ((Blk.new _ _ _).alloc _) hO (by simp)
  clear hO
  go_loopw [4] (fun i wr => ∃ k : Nat, k ≤ 32 ∧ i = .int .i64 k ∧ Below w.heap.size w wr ∧ Blk wr w.heap.size (arrF .u64 4 fun _ => 0) 31 ∧ Blk wr (w.heap.size + 1) (arrF .i64 32 fun i => if i < k then l.getD i 0 else 0) 108) (fun i _ => 32 - (intOf i).toNat)
  case atStart => exact ⟨0, by omega, rfl, hB, h2, hB1.congr (arrF_ext fun i _ => by rw [if_neg (by omega)])⟩
  case round =>
    clear hB h2 hB1
    obtain ⟨k, hk, rfl, hB, h2, h1⟩ := hrel
    by_cases hlt : k < 32
    · have p0 : (0 : Int) ≤ (k : Int) := by omega
      have p1 : (k : Int) < 32 := by omega
      have c1 := h1.cell k
      rw [arrF_get, if_pos (by omega)] at c1
      have f1 := h1.frozen k
      have HB := Lib.hid hB
      have H2 := Lib.hid h2
      have H1 := Lib.hid h1
      obtain ⟨x, hx⟩ : ∃ x, l.getD k 0 = x := ⟨_, rfl⟩
      have HX := Lib.hid hx
      have HAK := Lib.hid (HA.out wr hB k (by omega))
      rw [hx] at HAK
      clear hB h2 h1 hx
      go_wp2_with (go_at_call 62; refine HAK.out.mono ?_; rintro e w3 ⟨rfl, rfl⟩)
      go_roundw
      case rel =>
        refine ⟨k + 1, by omega, by go_num, bel_set HB.out (by simp) _, H2.out.far (by simp) _, (H1.out.set k _).congr ?_⟩
        rw [arrF_set]
        refine arrF_ext fun j hj => ?_
        by_cases e : j = k
        · subst e
          rw [if_pos rfl, if_pos (by omega), HX.out]
        · rw [if_neg e]
          by_cases h : j < k
          · rw [if_pos h, if_pos (by omega)]
          · rw [if_neg h, if_neg (by omega)]
      case measure => simp [intOf]; omega
    · obtain rfl : k = 32 := by omega
      have h1' : Blk wr (w.heap.size + 1) (arrF .i64 32 fun i => l.getD i 0) 108 := h1.congr (arrF_ext fun i hi => if_pos hi)
      have HB := Lib.hid hB
      clear h1 hB
      go_wp2_with (first | ((with_reducible refine gate_op (.load 108 (.tmp 3)) rfl ?_); refine wpl_load_blk rfl 108 (.tmp 3) rfl _ rfl _ _ _ h1' Tryz.underlying108 rfl 32 size70 (arrF_size _ _ _) ?_) | (go_at_call 63; refine (HW.out _).mono ?_; rintro e w3 ⟨rfl, hb3⟩; unfold wordF) | ((with_reducible refine gate_op (.store 31 (.tmp 2) (.tmp 16)) rfl ?_); refine wpl_store_blk rfl 31 (.tmp 2) (.tmp 16) rfl _ rfl _ _ _ rfl (h2.below hb3) 4 size25 (arrF_size _ _ _) (arrF_size _ _ _) (arrF_one _ _ _) ?_; intro W2 hO hB2))
      refine ret_blk Tryz.results33 _ _ _ _ rfl hB2 Tryz.underlying31 rfl 4 size25 (arrF_size _ _ _) rfl ⟨rfl, Only.below (bel_then HB.out hb3) hO (Nat.le_refl _)⟩
end Go.Proofs.YtibhijjmmagdcaaGreatDoor
