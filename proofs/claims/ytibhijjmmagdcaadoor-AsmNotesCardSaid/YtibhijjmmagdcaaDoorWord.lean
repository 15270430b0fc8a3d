/- Words of 256 bits (package word): what its functions come to, by parts of 64 bits. -/
import Derived.Test.YtibhijjmmagdcaaDoorRef01
namespace Go.Proofs.YtibhijjmmagdcaaDoor
set_option linter.unusedVariables false
set_option linter.unusedSimpArgs false
open Go.RowKit Go.Proofs.YtibhijjmmagdcaaDoorW.PrintWords Go.Proofs.YtibhijjmmagdcaaDoorW.PrintLast
def partF (f : Nat → Int) (i : Int) : Int := if 0 ≤ i ∧ i ≤ 3 then f i.toNat else 0
theorem part_any (f : Nat → Int) (i : Int) (w : World) :
    Calls Tryd.prog 63 #[wordF f, .int .i64 i] w fun e w' => e = .returned (.int .u64 (partF f i)) ∧ Below w.heap.size w w' := by
  unfold wordF
  by_cases h0 : i < 0
  · go_enter Tryd.func63, Tryd.ntmps63
    go_wp2
    go_ret
    exact ⟨by rw [partF, if_neg (by omega)]; rfl, by repeat (first | exact Below.refl _ _ | assumption | refine below_alloc ?_ _ | refine bel_drewN ?_ _ | refine bel_drew ?_ | refine bel_set ?_ (by simp) _)⟩
  by_cases h3 : 3 < i
  · go_enter Tryd.func63, Tryd.ntmps63
    go_wp2
    go_ret
    exact ⟨by rw [partF, if_neg (by omega)]; rfl, by repeat (first | exact Below.refl _ _ | assumption | refine below_alloc ?_ _ | refine bel_drewN ?_ _ | refine bel_drew ?_ | refine bel_set ?_ (by simp) _)⟩
  obtain ⟨m, rfl⟩ := Int.eq_ofNat_of_zero_le (Int.not_lt.1 h0)
  have hm : m < 4 := by omega
  have hb : Blk (w.alloc (.cells (arrF .u64 4 f) 25)) w.heap.size (arrF .u64 4 f) 25 := Blk.new _ _ _
  have c0 := hb.cell m
  rw [arrF_get, if_pos hm] at c0
  have HFIN : Hid (partF f m = f m) := by unfold Hid; rw [partF, if_pos (by omega)]; rfl
  go_enter Tryd.func63, Tryd.ntmps63
  go_wp2
  go_ret
  exact ⟨by rw [HFIN.out]; rfl, by repeat (first | exact Below.refl _ _ | assumption | refine below_alloc ?_ _ | refine bel_drewN ?_ _ | refine bel_drew ?_ | refine bel_set ?_ (by simp) _)⟩
theorem of_any (n : Int) (w : World) :
    Calls Tryd.prog 36 #[.int .u64 n] w fun e w' => e = .returned (wordF fun i => if i = 0 then n else 0) ∧ Below w.heap.size w w' := by
  go_enter Tryd.func36, Tryd.ntmps36
  go_wp2
  exact bodyPost_ret (v := wordF fun i => if i = 0 then n else 0) (by simp [results, Tryd.results36, go_sem, wordF]; rfl) rfl ⟨rfl, by repeat (first | exact Below.refl _ _ | assumption | refine below_alloc ?_ _ | refine bel_drewN ?_ _ | refine bel_drew ?_ | refine bel_set ?_ (by simp) _)⟩
theorem or_any (f g : Nat → Int) (w : World) :
    Calls Tryd.prog 34 #[wordF f, wordF g] w fun e w' => e = .returned (wordF fun i => bits .or .u64 (f i) (g i)) ∧ Below w.heap.size w w' := by
  show Calls Tryd.prog 34 #[.agg #[.int .u64 (f 0), .int .u64 (f 1), .int .u64 (f 2), .int .u64 (f 3)], .agg #[.int .u64 (g 0), .int .u64 (g 1), .int .u64 (g 2), .int .u64 (g 3)]] w _
  go_enter Tryd.func34, Tryd.ntmps34
  go_wp2
  exact bodyPost_ret (v := wordF fun i => bits .or .u64 (f i) (g i)) (by simp [results, Tryd.results34, go_sem, wordF]; rfl) rfl ⟨rfl, by repeat (first | exact Below.refl _ _ | assumption | refine below_alloc ?_ _ | refine bel_drewN ?_ _ | refine bel_drew ?_ | refine bel_set ?_ (by simp) _)⟩
theorem u64_part (f : Nat → Int) (hf : ∀ i, 0 ≤ f i ∧ f i < 18446744073709551616) (i : Int) : 0 ≤ partF f i ∧ partF f i < 18446744073709551616 := by
  unfold partF
  have := hf i.toNat
  split <;> omega
/-- What a part of a word shifted up by four is. -/
def shl4F (f : Nat → Int) (i : Nat) : Int := bits .or .u64 (IntKind.u64.wrap (partF f i * 16)) (partF f ((i : Int) - 1) / 1152921504606846976)
def ShlS (w : World) (f : Nat → Int) (k : Nat) (W : World) : Prop :=
  Below w.heap.size w W ∧ Blk W w.heap.size (arrF .u64 4 f) 25 ∧ Blk W (w.heap.size + 1) (arrF .u64 4 fun _ => 0) 25 ∧ Blk W (w.heap.size + 1 + 1) (arrF .u64 4 fun i => if i < k then shl4F f i else 0) 25
theorem ShlS.below {w W W1 : World} {f : Nat → Int} {k : Nat} (h : ShlS w f k W) (hb : Below W.heap.size W W1) : ShlS w f k W1 := ⟨bel_then h.1 hb, h.2.1.below hb, h.2.2.1.below hb, h.2.2.2.below hb⟩
theorem shl4_any (f : Nat → Int) (w : World) (hf : ∀ i, 0 ≤ f i ∧ f i < 18446744073709551616) :
    Calls Tryd.prog 35 #[wordF f, .int .u64 4] w fun e w' => e = .returned (wordF (shl4F f)) ∧ Below w.heap.size w w' := by
  have HP := Lib.hid (fun i W => part_any f i W)
  have HR := Lib.hid (u64_part f hf)
  clear hf
  have hz := zero25
  unfold wordF at HP ⊢
  go_enter Tryd.func35, Tryd.ntmps35
  go_wp2_with fail
  refine wp_any_world (ShlS w f 0) ⟨by repeat (first | exact Below.refl _ _ | assumption | refine below_alloc ?_ _ | refine bel_drewN ?_ _ | refine bel_drew ?_ | refine bel_set ?_ (by simp) _), ((Blk.new _ _ _).alloc _).alloc _, (Blk.new' _ _ _ (by simp)).alloc _, (Blk.new' _ _ _ (by simp)).congr (arrF_ext fun i _ => by rw [if_neg (by omega)])⟩ ?_
  intro W hS
  go_loopw [17] (fun i wr => ∃ k : Nat, k ≤ 4 ∧ i = .int .i64 k ∧ ShlS w f k wr) (fun i _ => 4 - (intOf i).toNat)
  case atStart => exact ⟨0, by omega, rfl, hS⟩
  case round =>
    clear hS
    obtain ⟨k, hk, rfl, hS⟩ := hrel
    by_cases hlt : k < 4
    · have p0 : (0 : Int) ≤ (k : Int) := by omega
      have p1 : (k : Int) < 4 := by omega
      have r0 := HR.out k
      have r1 := HR.out ((k : Int) - 1)
      go_wp2_with fail
      refine start_ (n := 20) (S := ShlS w f k) (ds := [19]) #[false, false, false, false, false, false, false, false, false, false, false, false, false, false, false, false, false, false, false, false] (by kernel_rfl) rfl rfl (hS.below (bel_drew (Below.refl _ _))) (fun hHeld => ?_)
      refine gen_last hHeld ?_
      clear hHeld
      intro wd hHeld
      refine pure_ (i := 0) (N := some 20) (v := ?_) (a' := ?_) #[true, false, false, false, false, false, false, false, false, false, false, false, false, false, false, false, false, false, false, false] rfl rfl (by kernel_rfl) (fun _ _ _ h => h) (Or.inl ⟨by rfl, ?_⟩) ?_ ?_
      rotate_left
      · intro w2
        (go_simp; (try go_bits); with_reducible rfl)
      rotate_left
      · simp only [Act.put, List.setIfInBounds_toArray, List.set_cons_zero, List.set_cons_succ, i64_w, i32_w]
        rfl
      refine pure_ (i := 2) (N := some 22) (v := ?_) (a' := ?_) #[true, false, true, false, false, false, false, false, false, false, false, false, false, false, false, false, false, false, false, false] rfl rfl (by kernel_rfl) (fun _ _ _ h => h) (Or.inl ⟨by rfl, ?_⟩) ?_ ?_
      rotate_left
      · intro w2
        (go_simp; (try go_bits); with_reducible rfl)
      rotate_left
      · simp only [Act.put, List.setIfInBounds_toArray, List.set_cons_zero, List.set_cons_succ, i64_w, i32_w]
        rfl
      refine pure_ (i := 3) (N := some 23) (v := ?_) (a' := ?_) #[true, false, true, true, false, false, false, false, false, false, false, false, false, false, false, false, false, false, false, false] rfl rfl (by kernel_rfl) (fun _ _ _ h => h) (Or.inl ⟨by rfl, ?_⟩) ?_ ?_
      rotate_left
      · intro w2
        (go_simp; (try go_bits); with_reducible rfl)
      rotate_left
      · simp only [Act.put, List.setIfInBounds_toArray, List.set_cons_zero, List.set_cons_succ, i64_w, i32_w]
        rfl
      refine pure_ (i := 4) (N := some 24) (v := ?_) (a' := ?_) #[true, false, true, true, true, false, false, false, false, false, false, false, false, false, false, false, false, false, false, false] rfl rfl (by kernel_rfl) (fun _ _ _ h => h) (Or.inl ⟨by rfl, ?_⟩) ?_ ?_
      rotate_left
      · intro w2
        (go_simp; (try go_bits); with_reducible rfl)
      rotate_left
      · simp only [Act.put, List.setIfInBounds_toArray, List.set_cons_zero, List.set_cons_succ, i64_w, i32_w]
        rfl
      refine pure_ (i := 6) (N := some 26) (v := ?_) (a' := ?_) #[true, false, true, true, true, false, true, false, false, false, false, false, false, false, false, false, false, false, false, false] rfl rfl (by kernel_rfl) (fun _ _ _ h => h) (Or.inl ⟨by rfl, ?_⟩) ?_ ?_
      rotate_left
      · intro w2
        (go_simp; (try go_bits); with_reducible rfl)
      rotate_left
      · simp only [Act.put, List.setIfInBounds_toArray, List.set_cons_zero, List.set_cons_succ, i64_w, i32_w]
        rfl
      refine pure_ (i := 9) (N := some 29) (v := ?_) (a' := ?_) #[true, false, true, true, true, false, true, false, false, true, false, false, false, false, false, false, false, false, false, false] rfl rfl (by kernel_rfl) (fun _ _ _ h => h) (Or.inl ⟨by rfl, ?_⟩) ?_ ?_
      rotate_left
      · intro w2
        (go_simp; (try go_bits); with_reducible rfl)
      rotate_left
      · simp only [Act.put, List.setIfInBounds_toArray, List.set_cons_zero, List.set_cons_succ, i64_w, i32_w]
        rfl
      refine pure_ (i := 10) (N := some 30) (v := ?_) (a' := ?_) #[true, false, true, true, true, false, true, false, false, true, true, false, false, false, false, false, false, false, false, false] rfl rfl (by kernel_rfl) (fun _ _ _ h => h) (Or.inl ⟨by rfl, ?_⟩) ?_ ?_
      rotate_left
      · intro w2
        (go_simp; (try go_bits); with_reducible rfl)
      rotate_left
      · simp only [Act.put, List.setIfInBounds_toArray, List.set_cons_zero, List.set_cons_succ, i64_w, i32_w]
        rfl
      refine pure_ (i := 11) (N := some 31) (v := ?_) (a' := ?_) #[true, false, true, true, true, false, true, false, false, true, true, true, false, false, false, false, false, false, false, false] rfl rfl (by kernel_rfl) (fun _ _ _ h => h) (Or.inl ⟨by rfl, ?_⟩) ?_ ?_
      rotate_left
      · intro w2
        (go_simp; (try go_bits); with_reducible rfl)
      rotate_left
      · simp only [Act.put, List.setIfInBounds_toArray, List.set_cons_zero, List.set_cons_succ, i64_w, i32_w]
        rfl
      refine pure_ (i := 12) (N := some 32) (v := ?_) (a' := ?_) #[true, false, true, true, true, false, true, false, false, true, true, true, true, false, false, false, false, false, false, false] rfl rfl (by kernel_rfl) (fun _ _ _ h => h) (Or.inl ⟨by rfl, ?_⟩) ?_ ?_
      rotate_left
      · intro w2
        (go_simp; (try go_bits); with_reducible rfl)
      rotate_left
      · simp only [Act.put, List.setIfInBounds_toArray, List.set_cons_zero, List.set_cons_succ, i64_w, i32_w]
        rfl
      refine pure_ (i := 14) (N := some 34) (v := ?_) (a' := ?_) #[true, false, true, true, true, false, true, false, false, true, true, true, true, false, true, false, false, false, false, false] rfl rfl (by kernel_rfl) (fun _ _ _ h => h) (Or.inl ⟨by rfl, ?_⟩) ?_ ?_
      rotate_left
      · intro w2
        (go_simp; (try go_bits); with_reducible rfl)
      rotate_left
      · simp only [Act.put, List.setIfInBounds_toArray, List.set_cons_zero, List.set_cons_succ, i64_w, i32_w]
        rfl
      refine pure_ (i := 15) (N := some 35) (v := ?_) (a' := ?_) #[true, false, true, true, true, false, true, false, false, true, true, true, true, false, true, true, false, false, false, false] rfl rfl (by kernel_rfl) (fun _ _ _ h => h) (Or.inl ⟨by rfl, ?_⟩) ?_ ?_
      rotate_left
      · intro w2
        (go_simp; (try go_bits); with_reducible rfl)
      rotate_left
      · simp only [Act.put, List.setIfInBounds_toArray, List.set_cons_zero, List.set_cons_succ, i64_w, i32_w]
        rfl
      refine take_ (i := 1) (N := some 21) (v := ?_) (a' := ?_) #[true, true, true, true, true, false, true, false, false, true, true, true, true, false, true, true, false, false, false, false] rfl rfl (by kernel_rfl) (fun _ _ _ h => h) (Or.inl ⟨by rfl, ?_⟩) hHeld ?_ ?_
      rotate_left
      · intro w2 hS2
        skip
        (refine run_load_blk (x := .tmp 2) ?_ ?_ hS2.2.1 Tryd.underlying25 rfl 4 size25 (arrF_size _ _ _) <;> rfl)
      rotate_left
      · simp only [Act.put, List.setIfInBounds_toArray, List.set_cons_zero, List.set_cons_succ, i64_w, i32_w]
        rfl
      refine take_ (i := 8) (N := some 28) (v := ?_) (a' := ?_) #[true, true, true, true, true, false, true, false, true, true, true, true, true, false, true, true, false, false, false, false] rfl rfl (by kernel_rfl) (fun _ _ _ h => h) (Or.inl ⟨by rfl, ?_⟩) hHeld ?_ ?_
      rotate_left
      · intro w2 hS2
        skip
        (refine run_load_blk (x := .tmp 2) ?_ ?_ hS2.2.1 Tryd.underlying25 rfl 4 size25 (arrF_size _ _ _) <;> rfl)
      rotate_left
      · simp only [Act.put, List.setIfInBounds_toArray, List.set_cons_zero, List.set_cons_succ, i64_w, i32_w]
        rfl
      refine one_ (i := 5) (N := some 25) #[true, true, true, true, true, true, true, false, true, true, true, true, true, false, true, true, false, false, false, false] rfl rfl (by kernel_rfl) (by decide) (fun K hK => ?_)
      go_simp
      try go_bits
      refine (HP.out _ _).mono ?_
      rintro e w1 ⟨rfl, hb⟩
      refine hK.out _ _ (hHeld.below hb) (fun hHeld => ?_)
      clear hK K
      refine norm_ (a' := ?_) ?_ ?_
      rotate_left
      · first | rfl | (simp only [Act.put, List.setIfInBounds_toArray, List.set_cons_zero, List.set_cons_succ, i64_w, i32_w]; rfl)
      refine pure_ (i := 7) (N := some 27) (v := ?_) (a' := ?_) #[true, true, true, true, true, true, true, true, true, true, true, true, true, false, true, true, false, false, false, false] rfl rfl (by kernel_rfl) (fun _ _ _ h => h) (Or.inl ⟨by rfl, ?_⟩) ?_ ?_
      rotate_left
      · intro w2
        (go_simp; (try go_bits); with_reducible rfl)
      rotate_left
      · simp only [Act.put, List.setIfInBounds_toArray, List.set_cons_zero, List.set_cons_succ, i64_w, i32_w]
        rfl
      refine one_ (i := 13) (N := some 33) #[true, true, true, true, true, true, true, true, true, true, true, true, true, true, true, true, false, false, false, false] rfl rfl (by kernel_rfl) (by decide) (fun K hK => ?_)
      go_simp
      try go_bits
      refine (HP.out _ _).mono ?_
      rintro e w2 ⟨rfl, hb⟩
      refine hK.out _ _ (hHeld.below hb) (fun hHeld => ?_)
      clear hK K
      refine norm_ (a' := ?_) ?_ ?_
      rotate_left
      · first | rfl | (simp only [Act.put, List.setIfInBounds_toArray, List.set_cons_zero, List.set_cons_succ, i64_w, i32_w]; rfl)
      refine pure_ (i := 16) (N := some 36) (v := ?_) (a' := ?_) #[true, true, true, true, true, true, true, true, true, true, true, true, true, true, true, true, true, false, false, false] rfl rfl (by kernel_rfl) (fun _ _ _ h => h) (Or.inl ⟨by rfl, ?_⟩) ?_ ?_
      rotate_left
      · intro w2
        (go_simp; (try go_bits); with_reducible rfl)
      rotate_left
      · simp only [Act.put, List.setIfInBounds_toArray, List.set_cons_zero, List.set_cons_succ, i64_w, i32_w]
        rfl
      refine pure_ (i := 17) (N := some 37) (v := ?_) (a' := ?_) #[true, true, true, true, true, true, true, true, true, true, true, true, true, true, true, true, true, true, false, false] rfl rfl (by kernel_rfl) (fun _ _ _ h => h) (Or.inl ⟨by rfl, ?_⟩) ?_ ?_
      rotate_left
      · intro w2
        (go_simp; (try go_bits); with_reducible rfl)
      rotate_left
      · simp only [Act.put, List.setIfInBounds_toArray, List.set_cons_zero, List.set_cons_succ, i64_w, i32_w]
        rfl
      refine pure_ (i := 18) (N := some 38) (v := ?_) (a' := ?_) #[true, true, true, true, true, true, true, true, true, true, true, true, true, true, true, true, true, true, true, false] rfl rfl (by kernel_rfl) (fun _ _ _ h => h) (Or.inl ⟨by rfl, ?_⟩) ?_ ?_
      rotate_left
      · intro w2
        (go_simp; (try go_bits); with_reducible rfl)
      rotate_left
      · simp only [Act.put, List.setIfInBounds_toArray, List.set_cons_zero, List.set_cons_succ, i64_w, i32_w]
        rfl
      refine last_ (i := 19) (N := none) #[true, true, true, true, true, true, true, true, true, true, true, true, true, true, true, true, true, true, true, true] rfl rfl (by kernel_rfl) (by decide) (fun K hK => ?_)
      have c2 := hHeld.2.2.2.cell k
      rw [arrF_get, if_pos (by omega)] at c2
      have f2 := hHeld.2.2.2.frozen k
      go_simp
      refine hK.out _ _ ?_
      clear hK K
      refine norm_ (a' := ?_) ?_ ?_
      rotate_left
      · first | rfl | (simp only [Act.put, List.setIfInBounds_toArray, List.set_cons_zero, List.set_cons_succ, i64_w, i32_w]; rfl)
      refine done_ (by kernel_rfl) ?_
      go_wp2_with fail
      go_roundw
      case rel =>
        refine ⟨k + 1, by omega, by go_num, bel_set hHeld.1 (by simp; omega) _, hHeld.2.1.far (by simp; omega) _, hHeld.2.2.1.far (by simp) _, ?_⟩
        refine (hHeld.2.2.2.set k _).congr ?_
        rw [arrF_set]
        refine arrF_ext fun j hj => ?_
        by_cases e : j = k
        · subst e
          rw [if_pos rfl, if_pos (by omega), shl4F]
        · rw [if_neg e]
          by_cases l : j < k
          · rw [if_pos l, if_pos (by omega)]
          · rw [if_neg l, if_neg (by omega)]
      case measure => simp [intOf]; omega
    · obtain rfl : k = 4 := by omega
      obtain ⟨hB, h0, h2, h1⟩ := hS
      go_wp2_with (first | ((with_reducible refine gate_op (.load 25 (.tmp 7)) rfl ?_); refine wpl_load_blk rfl 25 (.tmp 7) rfl _ rfl _ _ _ h1 Tryd.underlying25 rfl 4 size25 (arrF_size _ _ _) ?_) | ((with_reducible refine gate_op (.store 25 (.tmp 4) (.tmp 40)) rfl ?_); refine wpl_store_blk rfl 25 (.tmp 4) (.tmp 40) rfl _ rfl _ _ _ rfl h2 4 size25 (arrF_size _ _ _) (arrF_size _ _ _) (arrF_one _ _ _) ?_; intro W2 hO hB2))
      refine ret_blk Tryd.results35 _ _ _ _ rfl hB2 Tryd.underlying25 rfl 4 size25 (arrF_size _ _ _) rfl ⟨ret_arr fun i hi => if_pos hi, Only.below hB hO (by omega)⟩
theorem size59 : (Tryd.prog.info? 59).map (·.size) = some 32 := by kernel_rfl
theorem zero59 (w : World) : (zeroValue 59).run Tryd.prog w = .ok (.agg (arrF .u8 32 fun _ => 0)) w := by kernel_rfl
/-- The byte at place p of a word's 32, the highest first. -/
def byteF (f : Nat → Int) (p : Nat) : Int := f ((31 - p) / 8) / 2 ^ (8 * ((31 - p) % 8)) % 256
def BytesS (w : World) (f : Nat → Int) (n : Nat) (W : World) : Prop :=
  Below w.heap.size w W ∧ Blk W w.heap.size (arrF .u64 4 f) 25 ∧ Blk W (w.heap.size + 1) (arrF .u8 32 fun _ => 0) 59 ∧ Blk W (w.heap.size + 1 + 1) (arrF .u8 32 fun p => if 31 - p < n then byteF f p else 0) 59
theorem bytes_any (f : Nat → Int) (w : World) (hf : ∀ i, 0 ≤ f i ∧ f i < 18446744073709551616) :
    Calls Tryd.prog 30 #[wordF f] w fun e w' => e = .returned (.agg (arrF .u8 32 (byteF f))) ∧ Below w.heap.size w w' := by
  have HF := Lib.hid hf
  clear hf
  have hz := zero59
  unfold wordF
  go_enter Tryd.func30, Tryd.ntmps30
  go_wp2_with ((with_reducible refine gate_op (.load 25 (.tmp 1)) rfl ?_); refine wpl_load_blk rfl 25 (.tmp 1) rfl _ rfl _ _ _ (((Blk.new _ _ _).alloc _).alloc _) Tryd.underlying25 rfl 4 size25 (arrF_size _ _ _) ?_)
  refine wp_any_world (BytesS w f 0) ⟨by repeat (first | exact Below.refl _ _ | assumption | refine below_alloc ?_ _ | refine bel_drewN ?_ _ | refine bel_drew ?_ | refine bel_set ?_ (by simp) _), (((Blk.new _ _ _).alloc _).alloc _), ((Blk.new' _ _ _ (by simp)).alloc _), (Blk.new' _ _ _ (by simp)).congr (arrF_ext fun i _ => by rw [if_neg (by omega)])⟩ ?_
  intro W hS
  go_loopw [8] (fun i wr => ∃ k : Nat, k ≤ 4 ∧ i = .int .i64 k ∧ BytesS w f (8 * k) wr) (fun i _ => 4 - (intOf i).toNat)
  case atStart => exact ⟨0, by omega, rfl, hS⟩
  case round =>
    clear hS
    obtain ⟨k, hk, rfl, hS⟩ := hrel
    by_cases hlt : k < 4
    · have hidx : ∀ W : World, (Instr.index 25 (.agg (arrF .u64 4 f)) (.int .i64 k)).run Tryd.prog W = .ok (.int .u64 (f k)) W := by
        intro W
        obtain rfl | rfl | rfl | rfl : k = 0 ∨ k = 1 ∨ k = 2 ∨ k = 3 := by omega
        all_goals kernel_rfl
      go_wp2_with fail
      obtain ⟨wo, rfl⟩ : ∃ wo : World, wo = wr := ⟨_, rfl⟩
      go_loopw [6, 12] (fun _ i wr => ∃ m : Nat, m ≤ 8 ∧ i = .int .i64 m ∧ BytesS w f (8 * k + m) wr) (fun _ i _ => 8 - (intOf i).toNat)
      case atStart => exact ⟨0, by omega, rfl, hS⟩
      case round =>
        clear hS
        obtain ⟨m, hm, rfl, hS⟩ := hrel
        by_cases hlm : m < 8
        · obtain ⟨hB, h0, h2, h1⟩ := hS
          have c1 := h1.cell (31 - 8 * k - m)
          rw [arrF_get, if_pos (by omega)] at c1
          have f1 := h1.frozen (31 - 8 * k - m)
          have p0 : (0 : Int) ≤ 31 - 8 * (k : Int) - (m : Int) := by omega
          have p1 : 31 - 8 * (k : Int) - (m : Int) < 32 := by omega
          go_wp2_with fail
          go_roundw
          case rel =>
            refine ⟨m + 1, by omega, by go_num, bel_set hB (by simp; omega) _, h0.far (by simp; omega) _, h2.far (by simp) _, ?_⟩
            refine (h1.set (31 - 8 * k - m) _).congr ?_
            rw [arrF_set]
            refine arrF_ext fun j hj => ?_
            by_cases e : j = 31 - 8 * k - m
            · subst e
              rw [if_pos rfl, if_pos (by omega), byteF, show (31 - (31 - 8 * k - m)) / 8 = k by omega, show (31 - (31 - 8 * k - m)) % 8 = m by omega]
            · rw [if_neg e]
              by_cases l : 31 - j < 8 * k + m
              · rw [if_pos l, if_pos (by omega)]
              · rw [if_neg l, if_neg (by omega)]
          case measure => simp [intOf]; omega
        · obtain rfl : m = 8 := by omega
          go_wp2_with fail
          go_roundw
          case rel => exact ⟨k + 1, by omega, by go_num, hS⟩
          case measure => simp [intOf]; omega
    · obtain rfl : k = 4 := by omega
      obtain ⟨hB, h0, h2, h1⟩ := hS
      go_wp2_with (first | ((with_reducible refine gate_op (.load 59 (.tmp 3)) rfl ?_); refine wpl_load_blk rfl 59 (.tmp 3) rfl _ rfl _ _ _ h1 Tryd.underlying59 rfl 32 size59 (arrF_size _ _ _) ?_) | ((with_reducible refine gate_op (.store 59 (.tmp 2) (.tmp 28)) rfl ?_); refine wpl_store_blk rfl 59 (.tmp 2) (.tmp 28) rfl _ rfl _ _ _ rfl h2 32 size59 (arrF_size _ _ _) (arrF_size _ _ _) (arrF_one _ _ _) ?_; intro W2 hO hB2))
      refine ret_blk Tryd.results30 _ _ _ _ rfl hB2 Tryd.underlying59 rfl 32 size59 (arrF_size _ _ _) rfl ⟨ret_arr fun i hi => if_pos (by omega), Only.below hB hO (by omega)⟩
end Go.Proofs.YtibhijjmmagdcaaDoor
