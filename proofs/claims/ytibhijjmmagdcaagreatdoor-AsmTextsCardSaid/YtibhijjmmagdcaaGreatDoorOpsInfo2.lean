/- ops.single and ops.Info: what is told of an instruction. -/
import Derived.Test.YtibhijjmmagdcaaGreatDoorOpsInfo
namespace Go.Proofs.YtibhijjmmagdcaaGreatDoor
set_option linter.unusedVariables false
set_option linter.unusedSimpArgs false
open Go.RowKit Go.Proofs.YtibhijjmmagdcaaGreatDoorW.PrintWords Go.Proofs.YtibhijjmmagdcaaGreatDoorW.PrintLast
theorem zero51 (w : World) : (zeroValue 41).run Tryz.prog w = .ok (.agg (opA zeroI)) w := by kernel_rfl
theorem opA_one (o : OpI) : (opA o).all (·.oneCell') = true := by simp [opA, Value.oneCell']
theorem single_any (c : Int) (w : World) (h0 : 0 ≤ c) (h1 : c < 256) :
    Calls Tryz.prog 35 #[.int .u8 c] w fun e w' => e = .returned (opR (singleF c)) ∧ Below w.heap.size w w' := by
  have hz := zero51
  have f0 : Blk (w.alloc (.cells (opA zeroI) 41)) w.heap.size (opA zeroI) 41 := Blk.new _ _ _
  have F0 := Lib.hid f0
  clear f0
  have HS : Hid (∀ {W W1 : World}, Below (w.alloc (.cells (opA zeroI) 41)).heap.size (w.alloc (.cells (opA zeroI) 41)) W → Only W W1 w.heap.size → Below w.heap.size w W1) := fun hb hO => Only.below (bel_then (below_alloc (Below.refl _ _) _) hb) hO (Nat.le_refl _)
  by_cases h48 : c < 48
  · have HN : Hid (singleF c = recF c) := by rw [Hid, singleF, if_pos h48]
    go_enter Tryz.func35, Tryz.ntmps35
    go_wp2_with (first | (go_at_call 65; refine (reckoning_any c _ h0 h1).mono ?_; rintro e w1 ⟨rfl, hb1⟩; unfold opR) | ((with_reducible refine gate_op (.store 41 (.tmp 2) (.tmp 9)) rfl ?_); refine wpl_store_blk rfl 41 (.tmp 2) (.tmp 9) rfl _ rfl _ _ _ rfl (F0.out.below hb1) 5 size51 rfl rfl (opA_one _) ?_; intro W hO hB))
    refine ret_blk2 Tryz.results35 _ _ _ _ rfl hB Tryz.underlying41 rfl 5 size51 rfl rfl ⟨by rw [HN.out]; rfl, HS.out hb1 hO⟩
  by_cases h80 : c < 80
  · have HN : Hid (singleF c = lookF c) := by rw [Hid, singleF, if_neg h48, if_pos h80]
    go_enter Tryz.func35, Tryz.ntmps35
    go_wp2_with (first | (go_at_call 66; refine (looking_any c _ h0 h1).mono ?_; rintro e w1 ⟨rfl, hb1⟩; unfold opR) | ((with_reducible refine gate_op (.store 41 (.tmp 2) (.tmp 16)) rfl ?_); refine wpl_store_blk rfl 41 (.tmp 2) (.tmp 16) rfl _ rfl _ _ _ rfl (F0.out.below hb1) 5 size51 rfl rfl (opA_one _) ?_; intro W hO hB))
    refine ret_blk2 Tryz.results35 _ _ _ _ rfl hB Tryz.underlying41 rfl 5 size51 rfl rfl ⟨by rw [HN.out]; rfl, HS.out hb1 hO⟩
  · have HN : Hid (singleF c = doF c) := by rw [Hid, singleF, if_neg h48, if_neg h80]
    go_enter Tryz.func35, Tryz.ntmps35
    go_wp2_with (first | (go_at_call 67; refine (doing_any c _ h0 h1).mono ?_; rintro e w1 ⟨rfl, hb1⟩; unfold opR) | ((with_reducible refine gate_op (.store 41 (.tmp 2) (.tmp 20)) rfl ?_); refine wpl_store_blk rfl 41 (.tmp 2) (.tmp 20) rfl _ rfl _ _ _ rfl (F0.out.below hb1) 5 size51 rfl rfl (opA_one _) ?_; intro W hO hB))
    refine ret_blk2 Tryz.results35 _ _ _ _ rfl hB Tryz.underlying41 rfl 5 size51 rfl rfl ⟨by rw [HN.out]; rfl, HS.out hb1 hO⟩
theorem itoa_small (n : Int) (w : World) (h0 : 0 ≤ n) (h1 : n < 40) : Calls Tryz.prog 34 #[.int .i64 n] w fun e w' => e = .returned (.string (strOfNums (decL n))) ∧ w = w' := by
  obtain ⟨k, rfl⟩ : ∃ k : Nat, n = k := ⟨n.toNat, by omega⟩
  refine (Tryz.strconv_Itoa_small k (by omega) w).mono ?_
  rintro e w' ⟨rfl, rfl⟩
  exact ⟨by rw [dec_same (by omega)], rfl⟩
theorem decL_len (n : Int) : (decL n).length ≤ 2 := by unfold decL; split <;> simp
theorem dec_size (n : Int) (k : Nat) (h : k ≤ 100) : ¬ 9223372036854775807 < k + (strOfNums (decL n)).size := by
  rw [strOfNums_size]
  have := decL_len n
  omega
theorem str_add {p l : List Int} {s : ByteArray} (h : strOfNums p = s) : s ++ strOfNums l = strOfNums (p ++ l) := by rw [strOfNums_app, h]
set_option maxHeartbeats 4000000 in
set_option maxRecDepth 100000 in
theorem info_any (c : Int) (w : World) (h0 : 0 ≤ c) (h1 : c < 256) :
    Calls Tryz.prog 11 #[.int .u8 c] w fun e w' => e = .returned (opR (infoF c)) ∧ Below w.heap.size w w' := by
  have b31 := and31 h0 h1
  have b15 := and15 h0 h1
  have s4 := dec_size (c % 32 + 1) 4 (by omega)
  have s3 := dec_size (c % 32 + 1) 3 (by omega)
  have t4 := dec_size (c % 16 + 1) 4 (by omega)
  have t3 := dec_size (c % 16) 3 (by omega)
  by_cases hp : 96 ≤ c ∧ c ≤ 127
  · have HN : Hid (infoF c = some ([80, 85, 83, 72] ++ decL (c % 32 + 1), 0, 1, 3, c % 32 + 1)) := by rw [Hid, infoF, if_pos hp]
    obtain ⟨a1, a2⟩ := hp
    go_enter Tryz.func11, Tryz.ntmps11
    go_wp2_with (go_at_call 34; refine (itoa_small _ _ (by omega) (by omega)).mono ?_; rintro e w1 ⟨rfl, rfl⟩)
    refine ret_blk2 Tryz.results11 _ _ _ _ rfl (Blk.new _ _ _) Tryz.underlying41 rfl 5 size51 rfl rfl ⟨?_, below_alloc (Below.refl _ _) _⟩
    rw [HN.out, opR]
    rw [str_add (s := ⟨#[80, 85, 83, 72]⟩) (p := [80, 85, 83, 72]) rfl]
    rfl
  by_cases hd : 128 ≤ c ∧ c ≤ 143
  · have HN : Hid (infoF c = some ([68, 85, 80] ++ decL (c % 32 + 1), c % 32 + 1, c % 32 + 2, 3, 0)) := by rw [Hid, infoF, if_neg hp, if_pos hd]
    obtain ⟨a1, a2⟩ := hd
    go_enter Tryz.func11, Tryz.ntmps11
    go_wp2_with (go_at_call 34; refine (itoa_small _ _ (by omega) (by omega)).mono ?_; rintro e w1 ⟨rfl, rfl⟩)
    refine ret_blk2 Tryz.results11 _ _ _ _ rfl (Blk.new _ _ _) Tryz.underlying41 rfl 5 size51 rfl rfl ⟨?_, below_alloc (Below.refl _ _) _⟩
    rw [HN.out, opR]
    rw [str_add (s := ⟨#[68, 85, 80]⟩) (p := [68, 85, 80]) rfl, show c % 32 + 1 + 1 = c % 32 + 2 by omega]
    rfl
  by_cases hs : 144 ≤ c ∧ c ≤ 159
  · have HN : Hid (infoF c = some ([83, 87, 65, 80] ++ decL (c % 16 + 1), c % 16 + 2, c % 16 + 2, 3, 0)) := by rw [Hid, infoF, if_neg hp, if_neg hd, if_pos hs]
    obtain ⟨a1, a2⟩ := hs
    go_enter Tryz.func11, Tryz.ntmps11
    go_wp2_with (go_at_call 34; refine (itoa_small _ _ (by omega) (by omega)).mono ?_; rintro e w1 ⟨rfl, rfl⟩)
    refine ret_blk2 Tryz.results11 _ _ _ _ rfl (Blk.new _ _ _) Tryz.underlying41 rfl 5 size51 rfl rfl ⟨?_, below_alloc (Below.refl _ _) _⟩
    rw [HN.out, opR]
    rw [str_add (s := ⟨#[83, 87, 65, 80]⟩) (p := [83, 87, 65, 80]) rfl, show c % 16 + 1 + 1 = c % 16 + 2 by omega]
    rfl
  by_cases hl : 160 ≤ c ∧ c ≤ 164
  · have HN : Hid (infoF c = some ([76, 79, 71] ++ decL (c % 16), c % 16 + 2, 0, 375 + 375 * (c % 16), 0)) := by rw [Hid, infoF, if_neg hp, if_neg hd, if_neg hs, if_pos hl]
    obtain ⟨a1, a2⟩ := hl
    go_enter Tryz.func11, Tryz.ntmps11
    go_wp2_with (go_at_call 34; refine (itoa_small _ _ (by omega) (by omega)).mono ?_; rintro e w1 ⟨rfl, rfl⟩)
    refine ret_blk2 Tryz.results11 _ _ _ _ rfl (Blk.new _ _ _) Tryz.underlying41 rfl 5 size51 rfl rfl ⟨?_, below_alloc (Below.refl _ _) _⟩
    rw [HN.out, opR]
    rw [str_add (s := ⟨#[76, 79, 71]⟩) (p := [76, 79, 71]) rfl]
    rfl
  have HN : Hid (infoF c = singleF c) := by rw [Hid, infoF, if_neg hp, if_neg hd, if_neg hs, if_neg hl]
  have hz := zero51
  have f0 : Blk (w.alloc (.cells (opA zeroI) 41)) w.heap.size (opA zeroI) 41 := Blk.new _ _ _
  have F0 := Lib.hid f0
  clear f0
  have HS : Hid (∀ {W W1 : World}, Below (w.alloc (.cells (opA zeroI) 41)).heap.size (w.alloc (.cells (opA zeroI) 41)) W → Only W W1 w.heap.size → Below w.heap.size w W1) := fun hb hO => Only.below (bel_then (below_alloc (Below.refl _ _) _) hb) hO (Nat.le_refl _)
  have g1 : ¬ (96 ≤ c ∧ c ≤ 127) := hp
  have key : c < 96 ∨ (127 < c ∧ c < 128) ∨ 164 < c := by omega
  rcases key with k | k | k
  · go_enter Tryz.func11, Tryz.ntmps11
    go_wp2_with (first | (go_at_call 35; refine (single_any c _ h0 h1).mono ?_; rintro e w1 ⟨rfl, hb1⟩; unfold opR) | ((with_reducible refine gate_op (.store 41 (.tmp 2) (.tmp 76)) rfl ?_); refine wpl_store_blk rfl 41 (.tmp 2) (.tmp 76) rfl _ rfl _ _ _ rfl (F0.out.below hb1) 5 size51 rfl rfl (opA_one _) ?_; intro W hO hB))
    refine ret_blk2 Tryz.results11 _ _ _ _ rfl hB Tryz.underlying41 rfl 5 size51 rfl rfl ⟨by rw [HN.out]; rfl, HS.out hb1 hO⟩
  · omega
  · go_enter Tryz.func11, Tryz.ntmps11
    go_wp2_with (first | (go_at_call 35; refine (single_any c _ h0 h1).mono ?_; rintro e w1 ⟨rfl, hb1⟩; unfold opR) | ((with_reducible refine gate_op (.store 41 (.tmp 2) (.tmp 76)) rfl ?_); refine wpl_store_blk rfl 41 (.tmp 2) (.tmp 76) rfl _ rfl _ _ _ rfl (F0.out.below hb1) 5 size51 rfl rfl (opA_one _) ?_; intro W hO hB))
    refine ret_blk2 Tryz.results11 _ _ _ _ rfl hB Tryz.underlying41 rfl 5 size51 rfl rfl ⟨by rw [HN.out]; rfl, HS.out hb1 hO⟩
end Go.Proofs.YtibhijjmmagdcaaGreatDoor
