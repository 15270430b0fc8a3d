/- The reference's numbers of 32 digits (package smithyref01): what its functions come to, by digits. -/
import Derived.Test.YtibhijjmmagdcaaGreatDoorBase
namespace Go.Proofs.YtibhijjmmagdcaaGreatDoor
set_option linter.unusedVariables false
set_option linter.unusedSimpArgs false
open Go.RowKit Go.Proofs.YtibhijjmmagdcaaGreatDoorW.PrintWords Go.Proofs.YtibhijjmmagdcaaGreatDoorW.PrintLast
theorem size70 : (Tryz.prog.info? 108).map (·.size) = some 32 := by kernel_rfl
theorem size25 : (Tryz.prog.info? 31).map (·.size) = some 4 := by kernel_rfl
theorem zero70 (w : World) : (zeroValue 108).run Tryz.prog w = .ok (.agg (arrF .i64 32 fun _ => 0)) w := by kernel_rfl
theorem zero25 (w : World) : (zeroValue 31).run Tryz.prog w = .ok (.agg (arrF .u64 4 fun _ => 0)) w := by kernel_rfl
/-- A number of 32 digits. -/
def digV (f : Nat → Int) : Value := .agg (arrF .i64 32 f)
def wordF (f : Nat → Int) : Value := .agg (arrF .u64 4 f)
theorem tmod_byte {x : Int} {n : Nat} (hx : 0 ≤ x) : wrap64 ((x / 2 ^ n).tmod 256) = x / 2 ^ n % 256 := by
  have h : 0 ≤ x / 2 ^ n := Int.ediv_nonneg hx (Int.le_of_lt (Int.pow_pos (by omega)))
  rw [Int.tmod_eq_emod_of_nonneg h]
  exact IntWalk.wrap64_in _ (by omega)
/-- The carry into a digit of a sum. -/
def carryD (f g : Nat → Int) : Nat → Int
  | 0 => 0
  | i + 1 => (f i + g i + carryD f g i) / 256
theorem carryD_range {f g : Nat → Int} (hf : ∀ i, 0 ≤ f i ∧ f i < 256) (hg : ∀ i, 0 ≤ g i ∧ g i < 256) : ∀ i, 0 ≤ carryD f g i ∧ carryD f g i ≤ 1
  | 0 => ⟨Int.le_refl _, by simp [carryD]⟩
  | i + 1 => by
    have := carryD_range hf hg i
    have := hf i
    have := hg i
    simp only [carryD]
    omega
/-- A bit of a number. -/
def bitD (f : Nat → Int) (n : Int) : Int := if n < 0 ∨ 255 < n then 0 else f (n.toNat / 8) / 2 ^ (n.toNat % 8) % 2
/-- How many bits (digits) of place j have come in after k steps from the top. -/
def cntD (N k j : Nat) : Nat := min 8 (k - 8 * (N - 1 - j))
/-- The top m of eight, by Horner. -/
def horn (q : Int) (b : Nat → Int) (j : Nat) : Nat → Int
  | 0 => 0
  | m + 1 => horn q b j m * q + b (8 * j + 7 - m)
theorem horn_range {q : Int} {b : Nat → Int} (hq : 0 < q) (hb : ∀ i, 0 ≤ b i ∧ b i < q) (j : Nat) : ∀ m, 0 ≤ horn q b j m ∧ horn q b j m < q ^ m
  | 0 => by simp [horn]
  | m + 1 => by
    obtain ⟨h0, h1⟩ := horn_range hq hb j m
    obtain ⟨b0, b1⟩ := hb (8 * j + 7 - m)
    simp only [horn, Int.pow_succ]
    have h2 : horn q b j m * q ≤ (q ^ m - 1) * q := Int.mul_le_mul_of_nonneg_right (by omega) (by omega)
    have h3 : 0 ≤ horn q b j m * q := Int.mul_nonneg h0 (by omega)
    rw [Int.sub_mul] at h2
    omega
theorem int_pow_le {q m n : Nat} (hq : 0 < q) (h : m ≤ n) : (q : Int) ^ m ≤ (q : Int) ^ n := by
  have := Nat.pow_le_pow_right hq h
  exact_mod_cast this
theorem cnt_step {N k j i : Nat} (hk : k < 8 * N) (hi : i = 8 * N - 1 - k) (hj : j = i / 8) : cntD N (k + 1) j = cntD N k j + 1 ∧ 8 * j + 7 - cntD N k j = i ∧ cntD N k j < 8 := by
  unfold cntD; omega
theorem cnt_other {N k j i : Nat} (hk : k < 8 * N) (hi : i = 8 * N - 1 - k) (hj : j ≠ i / 8) (hjN : j < N) : cntD N (k + 1) j = cntD N k j := by
  unfold cntD; omega
theorem size40x : True := trivial
/-- The word whose digits these are. -/
theorem word01_any (d : Nat → Int) (w : World) (hd : ∀ i, 0 ≤ d i ∧ d i < 256) :
    Calls Tryz.prog 63 #[digV d] w fun e w' => e = .returned (wordF fun j => horn 256 d j 8) ∧ Below w.heap.size w w' := by
  have HR := Lib.hid (fun j m => horn_range (q := 256) (by omega) hd j m)
  have HB := Lib.hid hd
  clear hd
  have hz := zero25
  unfold digV
  go_enter Tryz.func63, Tryz.ntmps63
  go_wp2_with ((with_reducible refine gate_op (.store 31 (.tmp 3) (.tmp 5)) rfl ?_); refine wpl_store_blk rfl 31 (.tmp 3) (.tmp 5) rfl _ rfl _ _ _ rfl (Blk.new' _ _ _ (by simp)) 4 size25 (arrF_size _ _ _) (arrF_size _ _ _) (arrF_one _ _ _) ?_; intro W1 hO hB1)
  have hB : Below w.heap.size w W1 := Only.below (by repeat (first | exact Below.refl _ _ | assumption | refine below_alloc ?_ _ | refine bel_drewN ?_ _ | refine bel_drew ?_ | refine bel_set ?_ (by simp) _)) hO (by omega)
  have h0 : Blk W1 w.heap.size (arrF .i64 32 d) 108 := Only.blk (((Blk.new _ _ _).alloc _).alloc _) hO (by omega)
  have h2 : Blk W1 (w.heap.size + 1) (arrF .u64 4 fun _ => 0) 31 := Only.blk ((Blk.new' _ _ _ (by simp)).alloc _) hO (by omega)
  clear hO
  go_loopw [4] (fun i wr => ∃ k : Nat, k ≤ 32 ∧ i = .int .i64 (31 - (k : Int)) ∧ Below w.heap.size w wr ∧ Blk wr w.heap.size (arrF .i64 32 d) 108 ∧ Blk wr (w.heap.size + 1) (arrF .u64 4 fun _ => 0) 31 ∧ Blk wr (w.heap.size + 1 + 1) (arrF .u64 4 fun j => horn 256 d j (cntD 4 k j)) 31) (fun i _ => (intOf i + 1).toNat)
  case atStart => exact ⟨0, by omega, rfl, hB, h0, h2, hB1.congr (arrF_ext fun i _ => by simp [cntD, horn])⟩
  case round =>
    clear hB h0 h2 hB1
    obtain ⟨k, hk, rfl, hB, h0, h2, h1⟩ := hrel
    by_cases hlt : k < 32
    · obtain ⟨i, hi⟩ : ∃ i : Nat, i = 8 * 4 - 1 - k := ⟨_, rfl⟩
      have hi2 : (31 : Int) - (k : Int) = (i : Int) := by omega
      rw [hi2]
      have hi3 : i < 32 := by omega
      have c0 := h0.cell i
      rw [arrF_get, if_pos (by omega)] at c0
      have c1 := h1.cell (i / 8)
      rw [arrF_get, if_pos (by omega)] at c1
      have f1 := h1.frozen (i / 8)
      have hc := cnt_step (N := 4) (by omega) hi rfl
      have hr := HR.out (i / 8) (cntD 4 k (i / 8))
      have hp : (256 : Int) ^ (cntD 4 k (i / 8)) ≤ 256 ^ 7 := int_pow_le (q := 256) (by omega) (by omega)
      have p0 : (0 : Int) ≤ (i : Int) := by omega
      have p1 : (i : Int) < 32 := by omega
      have p2 : (0 : Int) ≤ (i : Int) / 8 := by omega
      have p3 : (i : Int) / 8 < 4 := by omega
      have hr0 := hr.1
      have hr1 : horn 256 d (i / 8) (cntD 4 k (i / 8)) < 72057594037927936 := by have := hr.2; omega
      have hb0 := HB.out i
      have HI := Lib.hid hi
      have HCN := Lib.hid hc
      clear hi hi2 hc hr hp
      go_wp2_with fail
      refine start_ (n := 14) (S := fun W' => Below w.heap.size w W' ∧ Blk W' w.heap.size (arrF .i64 32 d) 108 ∧ Blk W' (w.heap.size + 1) (arrF .u64 4 fun _ => 0) 31 ∧ Blk W' (w.heap.size + 1 + 1) (arrF .u64 4 fun j => horn 256 d j (cntD 4 k j)) 31) (ds := [13]) #[false, false, false, false, false, false, false, false, false, false, false, false, false, false] (by kernel_rfl) rfl rfl ⟨bel_drew hB, h0.drew, h2.drew, h1.drew⟩ (fun hHeld => ?_)
      refine gen_last hHeld ?_
      clear hHeld
      intro wd hHeld
      refine pure_ (i := 0) (N := some 10) (v := ?_) (a' := ?_) #[true, false, false, false, false, false, false, false, false, false, false, false, false, false] rfl rfl (by kernel_rfl) (fun _ _ _ h => h) (Or.inl ⟨by rfl, ?_⟩) ?_ ?_
      rotate_left
      · intro w2
        (go_simp; (try go_bits); with_reducible rfl)
      rotate_left
      · simp only [Act.put, List.setIfInBounds_toArray, List.set_cons_zero, List.set_cons_succ, i64_w, i32_w]
        rfl
      refine pure_ (i := 1) (N := some 11) (v := ?_) (a' := ?_) #[true, true, false, false, false, false, false, false, false, false, false, false, false, false] rfl rfl (by kernel_rfl) (fun _ _ _ h => h) (Or.inl ⟨by rfl, ?_⟩) ?_ ?_
      rotate_left
      · intro w2
        (go_simp; (try go_bits); with_reducible rfl)
      rotate_left
      · simp only [Act.put, List.setIfInBounds_toArray, List.set_cons_zero, List.set_cons_succ, i64_w, i32_w]
        rfl
      refine pure_ (i := 2) (N := some 12) (v := ?_) (a' := ?_) #[true, true, true, false, false, false, false, false, false, false, false, false, false, false] rfl rfl (by kernel_rfl) (fun _ _ _ h => h) (Or.inl ⟨by rfl, ?_⟩) ?_ ?_
      rotate_left
      · intro w2
        (go_simp; (try go_bits); with_reducible rfl)
      rotate_left
      · simp only [Act.put, List.setIfInBounds_toArray, List.set_cons_zero, List.set_cons_succ, i64_w, i32_w]
        rfl
      refine pure_ (i := 3) (N := some 13) (v := ?_) (a' := ?_) #[true, true, true, true, false, false, false, false, false, false, false, false, false, false] rfl rfl (by kernel_rfl) (fun _ _ _ h => h) (Or.inl ⟨by rfl, ?_⟩) ?_ ?_
      rotate_left
      · intro w2
        (go_simp; (try go_bits); with_reducible rfl)
      rotate_left
      · simp only [Act.put, List.setIfInBounds_toArray, List.set_cons_zero, List.set_cons_succ, i64_w, i32_w]
        rfl
      refine pure_ (i := 4) (N := some 14) (v := ?_) (a' := ?_) #[true, true, true, true, true, false, false, false, false, false, false, false, false, false] rfl rfl (by kernel_rfl) (fun _ _ _ h => h) (Or.inl ⟨by rfl, ?_⟩) ?_ ?_
      rotate_left
      · intro w2
        (go_simp; (try go_bits); with_reducible rfl)
      rotate_left
      · simp only [Act.put, List.setIfInBounds_toArray, List.set_cons_zero, List.set_cons_succ, i64_w, i32_w]
        rfl
      refine pure_ (i := 7) (N := some 17) (v := ?_) (a' := ?_) #[true, true, true, true, true, false, false, true, false, false, false, false, false, false] rfl rfl (by kernel_rfl) (fun _ _ _ h => h) (Or.inl ⟨by rfl, ?_⟩) ?_ ?_
      rotate_left
      · intro w2
        (go_simp; (try go_bits); with_reducible rfl)
      rotate_left
      · simp only [Act.put, List.setIfInBounds_toArray, List.set_cons_zero, List.set_cons_succ, i64_w, i32_w]
        rfl
      refine pure_ (i := 8) (N := some 18) (v := ?_) (a' := ?_) #[true, true, true, true, true, false, false, true, true, false, false, false, false, false] rfl rfl (by kernel_rfl) (fun _ _ _ h => h) (Or.inl ⟨by rfl, ?_⟩) ?_ ?_
      rotate_left
      · intro w2
        (go_simp; (try go_bits); with_reducible rfl)
      rotate_left
      · simp only [Act.put, List.setIfInBounds_toArray, List.set_cons_zero, List.set_cons_succ, i64_w, i32_w]
        rfl
      refine take_ (i := 5) (N := some 15) (v := ?_) (a' := ?_) #[true, true, true, true, true, true, false, true, true, false, false, false, false, false] rfl rfl (by kernel_rfl) (fun _ _ _ h => h) (Or.inl ⟨by rfl, ?_⟩) hHeld ?_ ?_
      rotate_left
      · intro w2 hS2
        have s0 := hS2.2.1.cell i
        rw [arrF_get, if_pos hi3] at s0
        have s1 := hS2.2.2.2.cell (i / 8)
        rw [arrF_get, if_pos (by omega)] at s1
        (go_simp; (try go_bits); with_reducible rfl)
      rotate_left
      · simp only [Act.put, List.setIfInBounds_toArray, List.set_cons_zero, List.set_cons_succ, i64_w, i32_w]
        rfl
      refine pure_ (i := 6) (N := some 16) (v := ?_) (a' := ?_) #[true, true, true, true, true, true, true, true, true, false, false, false, false, false] rfl rfl (by kernel_rfl) (fun _ _ _ h => h) (Or.inl ⟨by rfl, ?_⟩) ?_ ?_
      rotate_left
      · intro w2
        (go_simp; (try go_bits); with_reducible rfl)
      rotate_left
      · simp only [Act.put, List.setIfInBounds_toArray, List.set_cons_zero, List.set_cons_succ, i64_w, i32_w]
        rfl
      refine take_ (i := 9) (N := some 19) (v := ?_) (a' := ?_) #[true, true, true, true, true, true, true, true, true, true, false, false, false, false] rfl rfl (by kernel_rfl) (fun _ _ _ h => h) (Or.inl ⟨by rfl, ?_⟩) hHeld ?_ ?_
      rotate_left
      · intro w2 hS2
        have s0 := hS2.2.1.cell i
        rw [arrF_get, if_pos hi3] at s0
        have s1 := hS2.2.2.2.cell (i / 8)
        rw [arrF_get, if_pos (by omega)] at s1
        (go_simp; (try go_bits); with_reducible rfl)
      rotate_left
      · simp only [Act.put, List.setIfInBounds_toArray, List.set_cons_zero, List.set_cons_succ, i64_w, i32_w]
        rfl
      refine pure_ (i := 10) (N := some 20) (v := ?_) (a' := ?_) #[true, true, true, true, true, true, true, true, true, true, true, false, false, false] rfl rfl (by kernel_rfl) (fun _ _ _ h => h) (Or.inl ⟨by rfl, ?_⟩) ?_ ?_
      rotate_left
      · intro w2
        (go_simp; (try go_bits); with_reducible rfl)
      rotate_left
      · simp only [Act.put, List.setIfInBounds_toArray, List.set_cons_zero, List.set_cons_succ, i64_w, i32_w]
        rfl
      refine pure_ (i := 11) (N := some 21) (v := ?_) (a' := ?_) #[true, true, true, true, true, true, true, true, true, true, true, true, false, false] rfl rfl (by kernel_rfl) (fun _ _ _ h => h) (Or.inl ⟨by rfl, ?_⟩) ?_ ?_
      rotate_left
      · intro w2
        (go_simp; (try go_bits); with_reducible rfl)
      rotate_left
      · simp only [Act.put, List.setIfInBounds_toArray, List.set_cons_zero, List.set_cons_succ, i64_w, i32_w]
        rfl
      refine pure_ (i := 12) (N := some 22) (v := ?_) (a' := ?_) #[true, true, true, true, true, true, true, true, true, true, true, true, true, false] rfl rfl (by kernel_rfl) (fun _ _ _ h => h) (Or.inl ⟨by rfl, ?_⟩) ?_ ?_
      rotate_left
      · intro w2
        (go_simp; (try go_bits); with_reducible rfl)
      rotate_left
      · simp only [Act.put, List.setIfInBounds_toArray, List.set_cons_zero, List.set_cons_succ, i64_w, i32_w]
        rfl
      refine last_ (i := 13) (N := none) #[true, true, true, true, true, true, true, true, true, true, true, true, true, true] rfl rfl (by kernel_rfl) (by decide) (fun K hK => ?_)
      have s1 := hHeld.2.2.2.cell (i / 8)
      rw [arrF_get, if_pos (by omega)] at s1
      have f1 := hHeld.2.2.2.frozen (i / 8)
      go_simp
      refine hK.out _ _ ?_
      clear hK K
      refine norm_ (a' := ?_) ?_ ?_
      rotate_left
      · first | rfl | (simp only [Act.put, List.setIfInBounds_toArray, List.set_cons_zero, List.set_cons_succ, i64_w, i32_w]; rfl)
      refine done_ (by kernel_rfl) ?_
      go_wp2_with fail
      go_roundw
      case rel =>
        obtain ⟨d1, d2, d3⟩ := HCN.out
        have hi := HI.out
        refine ⟨k + 1, by omega, congrArg (Value.int .i64) (by omega), bel_set hHeld.1 (by simp; omega) _, hHeld.2.1.far (by simp; omega) _, hHeld.2.2.1.far (by simp) _, ?_⟩
        refine (hHeld.2.2.2.set (i / 8) _).congr ?_
        rw [arrF_set]
        refine arrF_ext fun j hj => ?_
        by_cases e : j = i / 8
        · subst e
          rw [if_pos rfl, d1, horn, d2]
        · rw [if_neg e, cnt_other (by omega) hi e hj]
      case measure => simp [intOf] <;> omega
    · obtain rfl : k = 32 := by omega
      go_wp2_with (first | ((with_reducible refine gate_op (.load 31 (.tmp 3)) rfl ?_); refine wpl_load_blk rfl 31 (.tmp 3) rfl _ rfl _ _ _ h1 Tryz.underlying31 rfl 4 size25 (arrF_size _ _ _) ?_) | ((with_reducible refine gate_op (.store 31 (.tmp 2) (.tmp 23)) rfl ?_); refine wpl_store_blk rfl 31 (.tmp 2) (.tmp 23) rfl _ rfl _ _ _ rfl h2 4 size25 (arrF_size _ _ _) (arrF_size _ _ _) (arrF_one _ _ _) ?_; intro W2 hO hB2))
      refine ret_blk Tryz.results63 _ _ _ _ rfl hB2 Tryz.underlying31 rfl 4 size25 (arrF_size _ _ _) rfl ⟨ret_arr fun j hj => ?_, Only.below hB hO (by omega)⟩
      rw [show cntD 4 32 j = 8 by unfold cntD; omega]
end Go.Proofs.YtibhijjmmagdcaaGreatDoor
