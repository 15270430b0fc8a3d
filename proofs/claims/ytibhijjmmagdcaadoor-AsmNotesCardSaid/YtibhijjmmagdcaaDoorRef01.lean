/- The reference's numbers of 32 digits (package smithyref01): what its functions come to, by digits. -/
import Derived.Test.YtibhijjmmagdcaaDoorBase
namespace Go.Proofs.YtibhijjmmagdcaaDoor
set_option linter.unusedVariables false
set_option linter.unusedSimpArgs false
open Go.RowKit Go.Proofs.YtibhijjmmagdcaaDoorW.PrintWords Go.Proofs.YtibhijjmmagdcaaDoorW.PrintLast
theorem size70 : (Tryd.prog.info? 70).map (·.size) = some 32 := by kernel_rfl
theorem size25 : (Tryd.prog.info? 25).map (·.size) = some 4 := by kernel_rfl
theorem zero70 (w : World) : (zeroValue 70).run Tryd.prog w = .ok (.agg (arrF .i64 32 fun _ => 0)) w := by kernel_rfl
theorem zero25 (w : World) : (zeroValue 25).run Tryd.prog w = .ok (.agg (arrF .u64 4 fun _ => 0)) w := by kernel_rfl
/-- A number of 32 digits. -/
def digV (f : Nat → Int) : Value := .agg (arrF .i64 32 f)
def wordF (f : Nat → Int) : Value := .agg (arrF .u64 4 f)
theorem tmod_byte {x : Int} {n : Nat} (hx : 0 ≤ x) : wrap64 ((x / 2 ^ n).tmod 256) = x / 2 ^ n % 256 := by
  have h : 0 ≤ x / 2 ^ n := Int.ediv_nonneg hx (Int.le_of_lt (Int.pow_pos (by omega)))
  rw [Int.tmod_eq_emod_of_nonneg h]
  exact IntWalk.wrap64_in _ (by omega)
theorem of01_any (f : Nat → Int) (w : World) (hf : ∀ i, 0 ≤ f i ∧ f i < 18446744073709551616) :
    Calls Tryd.prog 38 #[wordF f] w fun e w' => e = .returned (digV fun i => f (i / 8) / 2 ^ (8 * (i % 8)) % 256) ∧ Below w.heap.size w w' := by
  have HF := Lib.hid hf
  clear hf
  have hz := zero70
  unfold wordF
  go_enter Tryd.func38, Tryd.ntmps38
  go_wp2_with ((with_reducible refine gate_op (.store 70 (.tmp 3) (.tmp 5)) rfl ?_); refine wpl_store_blk rfl 70 (.tmp 3) (.tmp 5) rfl _ rfl _ _ _ rfl (Blk.new' _ _ _ (by simp)) 32 size70 (arrF_size _ _ _) (arrF_size _ _ _) (arrF_one _ _ _) ?_; intro W1 hO hB1)
  have hB : Below w.heap.size w W1 := Only.below (by repeat (first | exact Below.refl _ _ | assumption | refine below_alloc ?_ _ | refine bel_drewN ?_ _ | refine bel_drew ?_ | refine bel_set ?_ (by simp) _)) hO (by omega)
  have h0 : Blk W1 w.heap.size (arrF .u64 4 f) 25 := Only.blk (((Blk.new _ _ _).alloc _).alloc _) hO (by omega)
  have h2 : Blk W1 (w.heap.size + 1) (arrF .i64 32 fun _ => 0) 70 := Only.blk ((Blk.new' _ _ _ (by simp)).alloc _) hO (by omega)
  clear hO
  go_loopw [4] (fun i wr => ∃ k : Nat, k ≤ 32 ∧ i = .int .i64 k ∧ Below w.heap.size w wr ∧ Blk wr w.heap.size (arrF .u64 4 f) 25 ∧ Blk wr (w.heap.size + 1) (arrF .i64 32 fun _ => 0) 70 ∧ Blk wr (w.heap.size + 1 + 1) (arrF .i64 32 fun i => if i < k then f (i / 8) / 2 ^ (8 * (i % 8)) % 256 else 0) 70) (fun i _ => 32 - (intOf i).toNat)
  case atStart => exact ⟨0, by omega, rfl, hB, h0, h2, hB1.congr (arrF_ext fun i _ => by rw [if_neg (by omega)])⟩
  case round =>
    clear hB h0 h2 hB1
    obtain ⟨k, hk, rfl, hB, h0, h2, h1⟩ := hrel
    by_cases hlt : k < 32
    · have c0 := h0.cell (k / 8)
      rw [arrF_get, if_pos (by omega)] at c0
      have c1 := h1.cell k
      rw [arrF_get, if_pos (by omega)] at c1
      have f1 := h1.frozen k
      go_wp2_with fail
      go_roundw
      case rel =>
        refine ⟨k + 1, by omega, by go_num, bel_set hB (by simp; omega) _, h0.far (by simp; omega) _, h2.far (by simp) _, ?_⟩
        refine (h1.set k _).congr ?_
        rw [arrF_set]
        refine arrF_ext fun j hj => ?_
        have hb := HF.out (k / 8)
        by_cases e : j = k
        · subst e
          rw [if_pos rfl, if_pos (by omega), tmod_byte hb.1]
        · rw [if_neg e]
          by_cases l : j < k
          · rw [if_pos l, if_pos (by omega)]
          · rw [if_neg l, if_neg (by omega)]
      case measure => simp [intOf]; omega
    · obtain rfl : k = 32 := by omega
      go_wp2_with (first | ((with_reducible refine gate_op (.load 70 (.tmp 3)) rfl ?_); refine wpl_load_blk rfl 70 (.tmp 3) rfl _ rfl _ _ _ h1 Tryd.underlying70 rfl 32 size70 (arrF_size _ _ _) ?_) | ((with_reducible refine gate_op (.store 70 (.tmp 2) (.tmp 22)) rfl ?_); refine wpl_store_blk rfl 70 (.tmp 2) (.tmp 22) rfl _ rfl _ _ _ rfl h2 32 size70 (arrF_size _ _ _) (arrF_size _ _ _) (arrF_one _ _ _) ?_; intro W2 hO hB2))
      refine ret_blk Tryd.results38 _ _ _ _ rfl hB2 Tryd.underlying70 rfl 32 size70 (arrF_size _ _ _) rfl ⟨ret_arr fun i hi => if_pos hi, Only.below hB hO (by omega)⟩
/-- The carry into a digit of a sum. -/
def carryD (f g : Nat → Int) : Nat → Int
  | 0 => 0
  | i + 1 => (f i + g i + carryD f g i) / 256
theorem carryD_range {f g : Nat → Int} (hf : ∀ i, 0 ≤ f i ∧ f i < 256) (hg : ∀ i, 0 ≤ g i ∧ g i < 256) : ∀ i, 0 ≤ carryD f g i ∧ carryD f g i ≤ 1
  | 0 => ⟨Int.le_refl _, by simp [carryD]⟩
  | i + 1 => by
    have := carryD_range hf hg i
    have := hf i
    have := hg i
    simp only [carryD]
    omega
theorem add01_any (f g : Nat → Int) (w : World) (hf : ∀ i, 0 ≤ f i ∧ f i < 256) (hg : ∀ i, 0 ≤ g i ∧ g i < 256) :
    Calls Tryd.prog 40 #[digV f, digV g] w fun e w' => e = .returned (digV fun i => (f i + g i + carryD f g i) % 256) ∧ Below w.heap.size w w' := by
  have HF := Lib.hid hf
  have HG := Lib.hid hg
  have HC := Lib.hid (carryD_range hf hg)
  clear hf hg
  have hz := zero70
  unfold digV
  go_enter Tryd.func40, Tryd.ntmps40
  go_wp2_with ((with_reducible refine gate_op (.store 70 (.tmp 5) (.tmp 9)) rfl ?_); refine wpl_store_blk rfl 70 (.tmp 5) (.tmp 9) rfl _ rfl _ _ _ rfl (Blk.new' _ _ _ (by simp)) 32 size70 (arrF_size _ _ _) (arrF_size _ _ _) (arrF_one _ _ _) ?_; intro W1 hO hB1)
  have hB : Below w.heap.size w W1 := Only.below (by repeat (first | exact Below.refl _ _ | assumption | refine below_alloc ?_ _ | refine bel_drewN ?_ _ | refine bel_drew ?_ | refine bel_set ?_ (by simp) _)) hO (by omega)
  have h0 : Blk W1 w.heap.size (arrF .i64 32 f) 70 := Only.blk ((((Blk.new _ _ _).alloc _).alloc _).alloc _) hO (by omega)
  have h2 : Blk W1 (w.heap.size + 1) (arrF .i64 32 g) 70 := Only.blk (((Blk.new' _ _ _ (by simp)).alloc _).alloc _) hO (by omega)
  have h3 : Blk W1 (w.heap.size + 1 + 1) (arrF .i64 32 fun _ => 0) 70 := Only.blk ((Blk.new' _ _ _ (by simp)).alloc _) hO (by omega)
  clear hO
  go_loopw [6, 7] (fun c i wr => ∃ k : Nat, k ≤ 32 ∧ i = .int .i64 k ∧ c = .int .i64 (carryD f g k) ∧ Below w.heap.size w wr ∧ Blk wr w.heap.size (arrF .i64 32 f) 70 ∧ Blk wr (w.heap.size + 1) (arrF .i64 32 g) 70 ∧ Blk wr (w.heap.size + 1 + 1) (arrF .i64 32 fun _ => 0) 70 ∧ Blk wr (w.heap.size + 1 + 1 + 1) (arrF .i64 32 fun i => if i < k then (f i + g i + carryD f g i) % 256 else 0) 70) (fun _ i _ => 32 - (intOf i).toNat)
  case atStart => exact ⟨0, by omega, rfl, rfl, hB, h0, h2, h3, hB1.congr (arrF_ext fun i _ => by rw [if_neg (by omega)])⟩
  case round =>
    clear hB h0 h2 h3 hB1
    obtain ⟨k, hk, rfl, rfl, hB, h0, h2, h3, h1⟩ := hrel
    by_cases hlt : k < 32
    · have c0 := h0.cell k
      rw [arrF_get, if_pos (by omega)] at c0
      have c2 := h2.cell k
      rw [arrF_get, if_pos (by omega)] at c2
      have c1 := h1.cell k
      rw [arrF_get, if_pos (by omega)] at c1
      have f1 := h1.frozen k
      have b0 := HF.out k
      have b1 := HG.out k
      have b2 := HC.out k
      go_wp2_with fail
      go_quiet (fail)
      go_wp2_with fail
      go_roundw
      case rel =>
        refine ⟨k + 1, by omega, by go_num, by rw [carryD], bel_set (bel_drewN hB _) (by simp; omega) _, (h0.drewN _).far (by simp; omega) _, (h2.drewN _).far (by simp) _, (h3.drewN _).far (by simp) _, ?_⟩
        refine ((h1.drewN _).set k _).congr ?_
        rw [arrF_set]
        refine arrF_ext fun j hj => ?_
        by_cases e : j = k
        · subst e
          rw [if_pos rfl, if_pos (by omega)]
        · rw [if_neg e]
          by_cases l : j < k
          · rw [if_pos l, if_pos (by omega)]
          · rw [if_neg l, if_neg (by omega)]
      case measure => simp [intOf]; omega
    · obtain rfl : k = 32 := by omega
      go_wp2_with (first | ((with_reducible refine gate_op (.load 70 (.tmp 5)) rfl ?_); refine wpl_load_blk rfl 70 (.tmp 5) rfl _ rfl _ _ _ h1 Tryd.underlying70 rfl 32 size70 (arrF_size _ _ _) ?_) | ((with_reducible refine gate_op (.store 70 (.tmp 4) (.tmp 29)) rfl ?_); refine wpl_store_blk rfl 70 (.tmp 4) (.tmp 29) rfl _ rfl _ _ _ rfl h3 32 size70 (arrF_size _ _ _) (arrF_size _ _ _) (arrF_one _ _ _) ?_; intro W2 hO hB2))
      refine ret_blk Tryd.results40 _ _ _ _ rfl hB2 Tryd.underlying70 rfl 32 size70 (arrF_size _ _ _) rfl ⟨ret_arr fun i hi => if_pos hi, Only.below hB hO (by omega)⟩
/-- A bit of a number. -/
def bitD (f : Nat → Int) (n : Int) : Int := if n < 0 ∨ 255 < n then 0 else f (n.toNat / 8) / 2 ^ (n.toNat % 8) % 2
theorem bit01_any (f : Nat → Int) (n : Int) (w : World) (hf : ∀ i, 0 ≤ f i ∧ f i < 256) :
    Calls Tryd.prog 64 #[digV f, .int .i64 n] w fun e w' => e = .returned (.int .i64 (bitD f n)) ∧ Below w.heap.size w w' := by
  have HF := Lib.hid hf
  clear hf
  unfold digV
  by_cases hl : n < 0
  · go_enter Tryd.func64, Tryd.ntmps64
    go_wp2_with fail
    go_ret
    exact ⟨by rw [bitD, if_pos (.inl hl)]; rfl, by repeat (first | exact Below.refl _ _ | assumption | refine below_alloc ?_ _ | refine bel_drewN ?_ _ | refine bel_drew ?_ | refine bel_set ?_ (by simp) _)⟩
  by_cases hh : 255 < n
  · go_enter Tryd.func64, Tryd.ntmps64
    go_wp2_with fail
    go_ret
    exact ⟨by rw [bitD, if_pos (.inr hh)]; rfl, by repeat (first | exact Below.refl _ _ | assumption | refine below_alloc ?_ _ | refine bel_drewN ?_ _ | refine bel_drew ?_ | refine bel_set ?_ (by simp) _)⟩
  obtain ⟨m, rfl⟩ := Int.eq_ofNat_of_zero_le (Int.not_lt.1 hl)
  have hm : m < 256 := by omega
  have h0 : Blk (w.alloc (.cells (arrF .i64 32 f) 70)) w.heap.size (arrF .i64 32 f) 70 := Blk.new _ _ _
  have c0 := h0.cell (m / 8)
  rw [arrF_get, if_pos (by omega)] at c0
  have hfin : bitD f m = f (m / 8) / 2 ^ (m % 8) % 2 := by rw [bitD, if_neg (by omega)]; rfl
  have HFIN := Lib.hid hfin
  clear hfin
  go_enter Tryd.func64, Tryd.ntmps64
  go_wp2_with fail
  go_loop [5, 6] (fun x i => ∃ k : Nat, k ≤ m % 8 ∧ i = .int .i64 k ∧ x = .int .i64 (f (m / 8) / 2 ^ k)) (fun _ i => 8 - (intOf i).toNat)
  case atStart => exact ⟨0, by omega, rfl, by simp⟩
  case round =>
    obtain ⟨k, hk, rfl, rfl⟩ := hrel
    have hb := HF.out (m / 8)
    have h2 : 0 ≤ f (m / 8) / 2 ^ k := Int.ediv_nonneg hb.1 (Int.le_of_lt (Int.pow_pos (by omega)))
    have h3 : f (m / 8) / 2 ^ k ≤ f (m / 8) := Int.ediv_le_self _ hb.1
    by_cases hlt : k < m % 8
    · go_wp2_with fail
      go_round
      case rel =>
        refine ⟨k + 1, by omega, by go_num, ?_⟩
        rw [Int.pow_succ, Int.ediv_ediv_of_nonneg (Int.le_of_lt (Int.pow_pos (by omega)))]
      case measure => simp [intOf]; omega
    · obtain rfl : k = m % 8 := by omega
      go_wp2_with fail
      go_ret
      exact ⟨by rw [HFIN.out]; rfl, by repeat (first | exact Below.refl _ _ | assumption | refine below_alloc ?_ _ | refine bel_drewN ?_ _ | refine bel_drew ?_ | refine bel_set ?_ (by simp) _)⟩
/-- How many bits (digits) of place j have come in after k steps from the top. -/
def cntD (N k j : Nat) : Nat := min 8 (k - 8 * (N - 1 - j))
/-- The top m of eight, by Horner. -/
def horn (q : Int) (b : Nat → Int) (j : Nat) : Nat → Int
  | 0 => 0
  | m + 1 => horn q b j m * q + b (8 * j + 7 - m)
theorem horn_range {q : Int} {b : Nat → Int} (hq : 0 < q) (hb : ∀ i, 0 ≤ b i ∧ b i < q) (j : Nat) : ∀ m, 0 ≤ horn q b j m ∧ horn q b j m < q ^ m
  | 0 => by simp [horn]
  | m + 1 => by
    obtain ⟨h0, h1⟩ := horn_range hq hb j m
    obtain ⟨b0, b1⟩ := hb (8 * j + 7 - m)
    simp only [horn, Int.pow_succ]
    have h2 : horn q b j m * q ≤ (q ^ m - 1) * q := Int.mul_le_mul_of_nonneg_right (by omega) (by omega)
    have h3 : 0 ≤ horn q b j m * q := Int.mul_nonneg h0 (by omega)
    rw [Int.sub_mul] at h2
    omega
theorem int_pow_le {q m n : Nat} (hq : 0 < q) (h : m ≤ n) : (q : Int) ^ m ≤ (q : Int) ^ n := by
  have := Nat.pow_le_pow_right hq h
  exact_mod_cast this
theorem cnt_step {N k j i : Nat} (hk : k < 8 * N) (hi : i = 8 * N - 1 - k) (hj : j = i / 8) : cntD N (k + 1) j = cntD N k j + 1 ∧ 8 * j + 7 - cntD N k j = i ∧ cntD N k j < 8 := by
  unfold cntD; omega
theorem cnt_other {N k j i : Nat} (hk : k < 8 * N) (hi : i = 8 * N - 1 - k) (hj : j ≠ i / 8) (hjN : j < N) : cntD N (k + 1) j = cntD N k j := by
  unfold cntD; omega
theorem size101 : (Tryd.prog.info? 101).map (·.size) = some 256 := by kernel_rfl
theorem zero101 (w : World) : (zeroValue 101).run Tryd.prog w = .ok (.agg (arrF .i64 256 fun _ => 0)) w := by kernel_rfl
theorem bits01_any (b : Nat → Int) (w : World) (hb : ∀ i, 0 ≤ b i ∧ b i < 2) :
    Calls Tryd.prog 65 #[.agg (arrF .i64 256 b)] w fun e w' => e = .returned (digV fun j => horn 2 b j 8) ∧ Below w.heap.size w w' := by
  have HR := Lib.hid (fun j m => horn_range (q := 2) (by omega) hb j m)
  have HB := Lib.hid hb
  clear hb
  have hz := zero70
  go_enter Tryd.func65, Tryd.ntmps65
  go_wp2_with ((with_reducible refine gate_op (.store 70 (.tmp 3) (.tmp 5)) rfl ?_); refine wpl_store_blk rfl 70 (.tmp 3) (.tmp 5) rfl _ rfl _ _ _ rfl (Blk.new' _ _ _ (by simp)) 32 size70 (arrF_size _ _ _) (arrF_size _ _ _) (arrF_one _ _ _) ?_; intro W1 hO hB1)
  have hB : Below w.heap.size w W1 := Only.below (by repeat (first | exact Below.refl _ _ | assumption | refine below_alloc ?_ _ | refine bel_drewN ?_ _ | refine bel_drew ?_ | refine bel_set ?_ (by simp) _)) hO (by omega)
  have h0 : Blk W1 w.heap.size (arrF .i64 256 b) 101 := Only.blk (((Blk.new _ _ _).alloc _).alloc _) hO (by omega)
  have h2 : Blk W1 (w.heap.size + 1) (arrF .i64 32 fun _ => 0) 70 := Only.blk ((Blk.new' _ _ _ (by simp)).alloc _) hO (by omega)
  clear hO
  go_loopw [4] (fun i wr => ∃ k : Nat, k ≤ 256 ∧ i = .int .i64 (255 - (k : Int)) ∧ Below w.heap.size w wr ∧ Blk wr w.heap.size (arrF .i64 256 b) 101 ∧ Blk wr (w.heap.size + 1) (arrF .i64 32 fun _ => 0) 70 ∧ Blk wr (w.heap.size + 1 + 1) (arrF .i64 32 fun j => horn 2 b j (cntD 32 k j)) 70) (fun i _ => (intOf i + 1).toNat)
  case atStart => exact ⟨0, by omega, rfl, hB, h0, h2, hB1.congr (arrF_ext fun i _ => by simp [cntD, horn])⟩
  case round =>
    clear hB h0 h2 hB1
    obtain ⟨k, hk, rfl, hB, h0, h2, h1⟩ := hrel
    by_cases hlt : k < 256
    · obtain ⟨i, hi⟩ : ∃ i : Nat, i = 8 * 32 - 1 - k := ⟨_, rfl⟩
      have hi2 : (255 : Int) - (k : Int) = (i : Int) := by omega
      rw [hi2]
      have hi3 : i < 256 := by omega
      have c0 := h0.cell i
      rw [arrF_get, if_pos (by omega)] at c0
      have c1 := h1.cell (i / 8)
      rw [arrF_get, if_pos (by omega)] at c1
      have f1 := h1.frozen (i / 8)
      have hc := cnt_step (N := 32) (by omega) hi rfl
      have hr := HR.out (i / 8) (cntD 32 k (i / 8))
      have hp : (2 : Int) ^ (cntD 32 k (i / 8)) ≤ 2 ^ 8 := int_pow_le (q := 2) (by omega) (by omega)
      have p0 : (0 : Int) ≤ (i : Int) := by omega
      have p1 : (i : Int) < 256 := by omega
      have p2 : (0 : Int) ≤ (i : Int) / 8 := by omega
      have p3 : (i : Int) / 8 < 32 := by omega
      have hr0 := hr.1
      have hr1 : horn 2 b (i / 8) (cntD 32 k (i / 8)) < 256 := by have := hr.2; omega
      have hb0 := HB.out i
      have HI := Lib.hid hi
      have HCN := Lib.hid hc
      clear hi hi2 hc hr hp
      go_wp2_with fail
      refine start_ (n := 13) (S := fun W' => Below w.heap.size w W' ∧ Blk W' w.heap.size (arrF .i64 256 b) 101 ∧ Blk W' (w.heap.size + 1) (arrF .i64 32 fun _ => 0) 70 ∧ Blk W' (w.heap.size + 1 + 1) (arrF .i64 32 fun j => horn 2 b j (cntD 32 k j)) 70) (ds := [12]) #[false, false, false, false, false, false, false, false, false, false, false, false, false] (by kernel_rfl) rfl rfl ⟨bel_drew hB, h0.drew, h2.drew, h1.drew⟩ (fun hHeld => ?_)
      refine gen_last hHeld ?_
      clear hHeld
      intro wd hHeld
      refine pure_ (i := 0) (N := some 10) (v := ?_) (a' := ?_) #[true, false, false, false, false, false, false, false, false, false, false, false, false] rfl rfl (by kernel_rfl) (fun _ _ _ h => h) (Or.inl ⟨by rfl, ?_⟩) ?_ ?_
      rotate_left
      · intro w2
        (go_simp; (try go_bits); with_reducible rfl)
      rotate_left
      · simp only [Act.put, List.setIfInBounds_toArray, List.set_cons_zero, List.set_cons_succ, i64_w, i32_w]
        rfl
      refine pure_ (i := 1) (N := some 11) (v := ?_) (a' := ?_) #[true, true, false, false, false, false, false, false, false, false, false, false, false] rfl rfl (by kernel_rfl) (fun _ _ _ h => h) (Or.inl ⟨by rfl, ?_⟩) ?_ ?_
      rotate_left
      · intro w2
        (go_simp; (try go_bits); with_reducible rfl)
      rotate_left
      · simp only [Act.put, List.setIfInBounds_toArray, List.set_cons_zero, List.set_cons_succ, i64_w, i32_w]
        rfl
      refine pure_ (i := 2) (N := some 12) (v := ?_) (a' := ?_) #[true, true, true, false, false, false, false, false, false, false, false, false, false] rfl rfl (by kernel_rfl) (fun _ _ _ h => h) (Or.inl ⟨by rfl, ?_⟩) ?_ ?_
      rotate_left
      · intro w2
        (go_simp; (try go_bits); with_reducible rfl)
      rotate_left
      · simp only [Act.put, List.setIfInBounds_toArray, List.set_cons_zero, List.set_cons_succ, i64_w, i32_w]
        rfl
      refine pure_ (i := 3) (N := some 13) (v := ?_) (a' := ?_) #[true, true, true, true, false, false, false, false, false, false, false, false, false] rfl rfl (by kernel_rfl) (fun _ _ _ h => h) (Or.inl ⟨by rfl, ?_⟩) ?_ ?_
      rotate_left
      · intro w2
        (go_simp; (try go_bits); with_reducible rfl)
      rotate_left
      · simp only [Act.put, List.setIfInBounds_toArray, List.set_cons_zero, List.set_cons_succ, i64_w, i32_w]
        rfl
      refine pure_ (i := 4) (N := some 14) (v := ?_) (a' := ?_) #[true, true, true, true, true, false, false, false, false, false, false, false, false] rfl rfl (by kernel_rfl) (fun _ _ _ h => h) (Or.inl ⟨by rfl, ?_⟩) ?_ ?_
      rotate_left
      · intro w2
        (go_simp; (try go_bits); with_reducible rfl)
      rotate_left
      · simp only [Act.put, List.setIfInBounds_toArray, List.set_cons_zero, List.set_cons_succ, i64_w, i32_w]
        rfl
      refine pure_ (i := 7) (N := some 17) (v := ?_) (a' := ?_) #[true, true, true, true, true, false, false, true, false, false, false, false, false] rfl rfl (by kernel_rfl) (fun _ _ _ h => h) (Or.inl ⟨by rfl, ?_⟩) ?_ ?_
      rotate_left
      · intro w2
        (go_simp; (try go_bits); with_reducible rfl)
      rotate_left
      · simp only [Act.put, List.setIfInBounds_toArray, List.set_cons_zero, List.set_cons_succ, i64_w, i32_w]
        rfl
      refine pure_ (i := 8) (N := some 18) (v := ?_) (a' := ?_) #[true, true, true, true, true, false, false, true, true, false, false, false, false] rfl rfl (by kernel_rfl) (fun _ _ _ h => h) (Or.inl ⟨by rfl, ?_⟩) ?_ ?_
      rotate_left
      · intro w2
        (go_simp; (try go_bits); with_reducible rfl)
      rotate_left
      · simp only [Act.put, List.setIfInBounds_toArray, List.set_cons_zero, List.set_cons_succ, i64_w, i32_w]
        rfl
      refine take_ (i := 5) (N := some 15) (v := ?_) (a' := ?_) #[true, true, true, true, true, true, false, true, true, false, false, false, false] rfl rfl (by kernel_rfl) (fun _ _ _ h => h) (Or.inl ⟨by rfl, ?_⟩) hHeld ?_ ?_
      rotate_left
      · intro w2 hS2
        have s0 := hS2.2.1.cell i
        rw [arrF_get, if_pos hi3] at s0
        have s1 := hS2.2.2.2.cell (i / 8)
        rw [arrF_get, if_pos (by omega)] at s1
        (go_simp; (try go_bits); with_reducible rfl)
      rotate_left
      · simp only [Act.put, List.setIfInBounds_toArray, List.set_cons_zero, List.set_cons_succ, i64_w, i32_w]
        rfl
      refine pure_ (i := 6) (N := some 16) (v := ?_) (a' := ?_) #[true, true, true, true, true, true, true, true, true, false, false, false, false] rfl rfl (by kernel_rfl) (fun _ _ _ h => h) (Or.inl ⟨by rfl, ?_⟩) ?_ ?_
      rotate_left
      · intro w2
        (go_simp; (try go_bits); with_reducible rfl)
      rotate_left
      · simp only [Act.put, List.setIfInBounds_toArray, List.set_cons_zero, List.set_cons_succ, i64_w, i32_w]
        rfl
      refine take_ (i := 9) (N := some 19) (v := ?_) (a' := ?_) #[true, true, true, true, true, true, true, true, true, true, false, false, false] rfl rfl (by kernel_rfl) (fun _ _ _ h => h) (Or.inl ⟨by rfl, ?_⟩) hHeld ?_ ?_
      rotate_left
      · intro w2 hS2
        have s0 := hS2.2.1.cell i
        rw [arrF_get, if_pos hi3] at s0
        have s1 := hS2.2.2.2.cell (i / 8)
        rw [arrF_get, if_pos (by omega)] at s1
        (go_simp; (try go_bits); with_reducible rfl)
      rotate_left
      · simp only [Act.put, List.setIfInBounds_toArray, List.set_cons_zero, List.set_cons_succ, i64_w, i32_w]
        rfl
      refine pure_ (i := 10) (N := some 20) (v := ?_) (a' := ?_) #[true, true, true, true, true, true, true, true, true, true, true, false, false] rfl rfl (by kernel_rfl) (fun _ _ _ h => h) (Or.inl ⟨by rfl, ?_⟩) ?_ ?_
      rotate_left
      · intro w2
        (go_simp; (try go_bits); with_reducible rfl)
      rotate_left
      · simp only [Act.put, List.setIfInBounds_toArray, List.set_cons_zero, List.set_cons_succ, i64_w, i32_w]
        rfl
      refine pure_ (i := 11) (N := some 21) (v := ?_) (a' := ?_) #[true, true, true, true, true, true, true, true, true, true, true, true, false] rfl rfl (by kernel_rfl) (fun _ _ _ h => h) (Or.inl ⟨by rfl, ?_⟩) ?_ ?_
      rotate_left
      · intro w2
        (go_simp; (try go_bits); with_reducible rfl)
      rotate_left
      · simp only [Act.put, List.setIfInBounds_toArray, List.set_cons_zero, List.set_cons_succ, i64_w, i32_w]
        rfl
      refine last_ (i := 12) (N := none) #[true, true, true, true, true, true, true, true, true, true, true, true, true] rfl rfl (by kernel_rfl) (by decide) (fun K hK => ?_)
      have s1 := hHeld.2.2.2.cell (i / 8)
      rw [arrF_get, if_pos (by omega)] at s1
      have f1 := hHeld.2.2.2.frozen (i / 8)
      go_simp
      refine hK.out _ _ ?_
      clear hK K
      refine norm_ (a' := ?_) ?_ ?_
      rotate_left
      · first | rfl | (simp only [Act.put, List.setIfInBounds_toArray, List.set_cons_zero, List.set_cons_succ, i64_w, i32_w]; rfl)
      refine done_ (by kernel_rfl) ?_
      go_wp2_with fail
      go_roundw
      case rel =>
        obtain ⟨d1, d2, d3⟩ := HCN.out
        have hi := HI.out
        refine ⟨k + 1, by omega, congrArg (Value.int .i64) (by omega), bel_set hHeld.1 (by simp; omega) _, hHeld.2.1.far (by simp; omega) _, hHeld.2.2.1.far (by simp) _, ?_⟩
        refine (hHeld.2.2.2.set (i / 8) _).congr ?_
        rw [arrF_set]
        refine arrF_ext fun j hj => ?_
        by_cases e : j = i / 8
        · subst e
          rw [if_pos rfl, d1, horn, d2]
        · rw [if_neg e, cnt_other (by omega) hi e hj]
      case measure => simp [intOf] <;> omega
    · obtain rfl : k = 256 := by omega
      go_wp2_with (first | ((with_reducible refine gate_op (.load 70 (.tmp 3)) rfl ?_); refine wpl_load_blk rfl 70 (.tmp 3) rfl _ rfl _ _ _ h1 Tryd.underlying70 rfl 32 size70 (arrF_size _ _ _) ?_) | ((with_reducible refine gate_op (.store 70 (.tmp 2) (.tmp 22)) rfl ?_); refine wpl_store_blk rfl 70 (.tmp 2) (.tmp 22) rfl _ rfl _ _ _ rfl h2 32 size70 (arrF_size _ _ _) (arrF_size _ _ _) (arrF_one _ _ _) ?_; intro W2 hO hB2))
      refine ret_blk Tryd.results65 _ _ _ _ rfl hB2 Tryd.underlying70 rfl 32 size70 (arrF_size _ _ _) rfl ⟨ret_arr fun j hj => ?_, Only.below hB hO (by omega)⟩
      rw [show cntD 32 256 j = 8 by unfold cntD; omega]
theorem size40x : True := trivial
/-- The word whose digits these are. -/
theorem word01_any (d : Nat → Int) (w : World) (hd : ∀ i, 0 ≤ d i ∧ d i < 256) :
    Calls Tryd.prog 42 #[digV d] w fun e w' => e = .returned (wordF fun j => horn 256 d j 8) ∧ Below w.heap.size w w' := by
  have HR := Lib.hid (fun j m => horn_range (q := 256) (by omega) hd j m)
  have HB := Lib.hid hd
  clear hd
  have hz := zero25
  unfold digV
  go_enter Tryd.func42, Tryd.ntmps42
  go_wp2_with ((with_reducible refine gate_op (.store 25 (.tmp 3) (.tmp 5)) rfl ?_); refine wpl_store_blk rfl 25 (.tmp 3) (.tmp 5) rfl _ rfl _ _ _ rfl (Blk.new' _ _ _ (by simp)) 4 size25 (arrF_size _ _ _) (arrF_size _ _ _) (arrF_one _ _ _) ?_; intro W1 hO hB1)
  have hB : Below w.heap.size w W1 := Only.below (by repeat (first | exact Below.refl _ _ | assumption | refine below_alloc ?_ _ | refine bel_drewN ?_ _ | refine bel_drew ?_ | refine bel_set ?_ (by simp) _)) hO (by omega)
  have h0 : Blk W1 w.heap.size (arrF .i64 32 d) 70 := Only.blk (((Blk.new _ _ _).alloc _).alloc _) hO (by omega)
  have h2 : Blk W1 (w.heap.size + 1) (arrF .u64 4 fun _ => 0) 25 := Only.blk ((Blk.new' _ _ _ (by simp)).alloc _) hO (by omega)
  clear hO
  go_loopw [4] (fun i wr => ∃ k : Nat, k ≤ 32 ∧ i = .int .i64 (31 - (k : Int)) ∧ Below w.heap.size w wr ∧ Blk wr w.heap.size (arrF .i64 32 d) 70 ∧ Blk wr (w.heap.size + 1) (arrF .u64 4 fun _ => 0) 25 ∧ Blk wr (w.heap.size + 1 + 1) (arrF .u64 4 fun j => horn 256 d j (cntD 4 k j)) 25) (fun i _ => (intOf i + 1).toNat)
  case atStart => exact ⟨0, by omega, rfl, hB, h0, h2, hB1.congr (arrF_ext fun i _ => by simp [cntD, horn])⟩
  case round =>
    clear hB h0 h2 hB1
    obtain ⟨k, hk, rfl, hB, h0, h2, h1⟩ := hrel
    by_cases hlt : k < 32
    · obtain ⟨i, hi⟩ : ∃ i : Nat, i = 8 * 4 - 1 - k := ⟨_, rfl⟩
      have hi2 : (31 : Int) - (k : Int) = (i : Int) := by omega
      rw [hi2]
      have hi3 : i < 32 := by omega
      have c0 := h0.cell i
      rw [arrF_get, if_pos (by omega)] at c0
      have c1 := h1.cell (i / 8)
      rw [arrF_get, if_pos (by omega)] at c1
      have f1 := h1.frozen (i / 8)
      have hc := cnt_step (N := 4) (by omega) hi rfl
      have hr := HR.out (i / 8) (cntD 4 k (i / 8))
      have hp : (256 : Int) ^ (cntD 4 k (i / 8)) ≤ 256 ^ 7 := int_pow_le (q := 256) (by omega) (by omega)
      have p0 : (0 : Int) ≤ (i : Int) := by omega
      have p1 : (i : Int) < 32 := by omega
      have p2 : (0 : Int) ≤ (i : Int) / 8 := by omega
      have p3 : (i : Int) / 8 < 4 := by omega
      have hr0 := hr.1
      have hr1 : horn 256 d (i / 8) (cntD 4 k (i / 8)) < 72057594037927936 := by have := hr.2; omega
      have hb0 := HB.out i
      have HI := Lib.hid hi
      have HCN := Lib.hid hc
      clear hi hi2 hc hr hp
      go_wp2_with fail
      refine start_ (n := 14) (S := fun W' => Below w.heap.size w W' ∧ Blk W' w.heap.size (arrF .i64 32 d) 70 ∧ Blk W' (w.heap.size + 1) (arrF .u64 4 fun _ => 0) 25 ∧ Blk W' (w.heap.size + 1 + 1) (arrF .u64 4 fun j => horn 256 d j (cntD 4 k j)) 25) (ds := [13]) #[false, false, false, false, false, false, false, false, false, false, false, false, false, false] (by kernel_rfl) rfl rfl ⟨bel_drew hB, h0.drew, h2.drew, h1.drew⟩ (fun hHeld => ?_)
      refine gen_last hHeld ?_
      clear hHeld
      intro wd hHeld
      refine pure_ (i := 0) (N := some 10) (v := ?_) (a' := ?_) #[true, false, false, false, false, false, false, false, false, false, false, false, false, false] rfl rfl (by kernel_rfl) (fun _ _ _ h => h) (Or.inl ⟨by rfl, ?_⟩) ?_ ?_
      rotate_left
      · intro w2
        (go_simp; (try go_bits); with_reducible rfl)
      rotate_left
      · simp only [Act.put, List.setIfInBounds_toArray, List.set_cons_zero, List.set_cons_succ, i64_w, i32_w]
        rfl
      refine pure_ (i := 1) (N := some 11) (v := ?_) (a' := ?_) #[true, true, false, false, false, false, false, false, false, false, false, false, false, false] rfl rfl (by kernel_rfl) (fun _ _ _ h => h) (Or.inl ⟨by rfl, ?_⟩) ?_ ?_
      rotate_left
      · intro w2
        (go_simp; (try go_bits); with_reducible rfl)
      rotate_left
      · simp only [Act.put, List.setIfInBounds_toArray, List.set_cons_zero, List.set_cons_succ, i64_w, i32_w]
        rfl
      refine pure_ (i := 2) (N := some 12) (v := ?_) (a' := ?_) #[true, true, true, false, false, false, false, false, false, false, false, false, false, false] rfl rfl (by kernel_rfl) (fun _ _ _ h => h) (Or.inl ⟨by rfl, ?_⟩) ?_ ?_
      rotate_left
      · intro w2
        (go_simp; (try go_bits); with_reducible rfl)
      rotate_left
      · simp only [Act.put, List.setIfInBounds_toArray, List.set_cons_zero, List.set_cons_succ, i64_w, i32_w]
        rfl
      refine pure_ (i := 3) (N := some 13) (v := ?_) (a' := ?_) #[true, true, true, true, false, false, false, false, false, false, false, false, false, false] rfl rfl (by kernel_rfl) (fun _ _ _ h => h) (Or.inl ⟨by rfl, ?_⟩) ?_ ?_
      rotate_left
      · intro w2
        (go_simp; (try go_bits); with_reducible rfl)
      rotate_left
      · simp only [Act.put, List.setIfInBounds_toArray, List.set_cons_zero, List.set_cons_succ, i64_w, i32_w]
        rfl
      refine pure_ (i := 4) (N := some 14) (v := ?_) (a' := ?_) #[true, true, true, true, true, false, false, false, false, false, false, false, false, false] rfl rfl (by kernel_rfl) (fun _ _ _ h => h) (Or.inl ⟨by rfl, ?_⟩) ?_ ?_
      rotate_left
      · intro w2
        (go_simp; (try go_bits); with_reducible rfl)
      rotate_left
      · simp only [Act.put, List.setIfInBounds_toArray, List.set_cons_zero, List.set_cons_succ, i64_w, i32_w]
        rfl
      refine pure_ (i := 7) (N := some 17) (v := ?_) (a' := ?_) #[true, true, true, true, true, false, false, true, false, false, false, false, false, false] rfl rfl (by kernel_rfl) (fun _ _ _ h => h) (Or.inl ⟨by rfl, ?_⟩) ?_ ?_
      rotate_left
      · intro w2
        (go_simp; (try go_bits); with_reducible rfl)
      rotate_left
      · simp only [Act.put, List.setIfInBounds_toArray, List.set_cons_zero, List.set_cons_succ, i64_w, i32_w]
        rfl
      refine pure_ (i := 8) (N := some 18) (v := ?_) (a' := ?_) #[true, true, true, true, true, false, false, true, true, false, false, false, false, false] rfl rfl (by kernel_rfl) (fun _ _ _ h => h) (Or.inl ⟨by rfl, ?_⟩) ?_ ?_
      rotate_left
      · intro w2
        (go_simp; (try go_bits); with_reducible rfl)
      rotate_left
      · simp only [Act.put, List.setIfInBounds_toArray, List.set_cons_zero, List.set_cons_succ, i64_w, i32_w]
        rfl
      refine take_ (i := 5) (N := some 15) (v := ?_) (a' := ?_) #[true, true, true, true, true, true, false, true, true, false, false, false, false, false] rfl rfl (by kernel_rfl) (fun _ _ _ h => h) (Or.inl ⟨by rfl, ?_⟩) hHeld ?_ ?_
      rotate_left
      · intro w2 hS2
        have s0 := hS2.2.1.cell i
        rw [arrF_get, if_pos hi3] at s0
        have s1 := hS2.2.2.2.cell (i / 8)
        rw [arrF_get, if_pos (by omega)] at s1
        (go_simp; (try go_bits); with_reducible rfl)
      rotate_left
      · simp only [Act.put, List.setIfInBounds_toArray, List.set_cons_zero, List.set_cons_succ, i64_w, i32_w]
        rfl
      refine pure_ (i := 6) (N := some 16) (v := ?_) (a' := ?_) #[true, true, true, true, true, true, true, true, true, false, false, false, false, false] rfl rfl (by kernel_rfl) (fun _ _ _ h => h) (Or.inl ⟨by rfl, ?_⟩) ?_ ?_
      rotate_left
      · intro w2
        (go_simp; (try go_bits); with_reducible rfl)
      rotate_left
      · simp only [Act.put, List.setIfInBounds_toArray, List.set_cons_zero, List.set_cons_succ, i64_w, i32_w]
        rfl
      refine take_ (i := 9) (N := some 19) (v := ?_) (a' := ?_) #[true, true, true, true, true, true, true, true, true, true, false, false, false, false] rfl rfl (by kernel_rfl) (fun _ _ _ h => h) (Or.inl ⟨by rfl, ?_⟩) hHeld ?_ ?_
      rotate_left
      · intro w2 hS2
        have s0 := hS2.2.1.cell i
        rw [arrF_get, if_pos hi3] at s0
        have s1 := hS2.2.2.2.cell (i / 8)
        rw [arrF_get, if_pos (by omega)] at s1
        (go_simp; (try go_bits); with_reducible rfl)
      rotate_left
      · simp only [Act.put, List.setIfInBounds_toArray, List.set_cons_zero, List.set_cons_succ, i64_w, i32_w]
        rfl
      refine pure_ (i := 10) (N := some 20) (v := ?_) (a' := ?_) #[true, true, true, true, true, true, true, true, true, true, true, false, false, false] rfl rfl (by kernel_rfl) (fun _ _ _ h => h) (Or.inl ⟨by rfl, ?_⟩) ?_ ?_
      rotate_left
      · intro w2
        (go_simp; (try go_bits); with_reducible rfl)
      rotate_left
      · simp only [Act.put, List.setIfInBounds_toArray, List.set_cons_zero, List.set_cons_succ, i64_w, i32_w]
        rfl
      refine pure_ (i := 11) (N := some 21) (v := ?_) (a' := ?_) #[true, true, true, true, true, true, true, true, true, true, true, true, false, false] rfl rfl (by kernel_rfl) (fun _ _ _ h => h) (Or.inl ⟨by rfl, ?_⟩) ?_ ?_
      rotate_left
      · intro w2
        (go_simp; (try go_bits); with_reducible rfl)
      rotate_left
      · simp only [Act.put, List.setIfInBounds_toArray, List.set_cons_zero, List.set_cons_succ, i64_w, i32_w]
        rfl
      refine pure_ (i := 12) (N := some 22) (v := ?_) (a' := ?_) #[true, true, true, true, true, true, true, true, true, true, true, true, true, false] rfl rfl (by kernel_rfl) (fun _ _ _ h => h) (Or.inl ⟨by rfl, ?_⟩) ?_ ?_
      rotate_left
      · intro w2
        (go_simp; (try go_bits); with_reducible rfl)
      rotate_left
      · simp only [Act.put, List.setIfInBounds_toArray, List.set_cons_zero, List.set_cons_succ, i64_w, i32_w]
        rfl
      refine last_ (i := 13) (N := none) #[true, true, true, true, true, true, true, true, true, true, true, true, true, true] rfl rfl (by kernel_rfl) (by decide) (fun K hK => ?_)
      have s1 := hHeld.2.2.2.cell (i / 8)
      rw [arrF_get, if_pos (by omega)] at s1
      have f1 := hHeld.2.2.2.frozen (i / 8)
      go_simp
      refine hK.out _ _ ?_
      clear hK K
      refine norm_ (a' := ?_) ?_ ?_
      rotate_left
      · first | rfl | (simp only [Act.put, List.setIfInBounds_toArray, List.set_cons_zero, List.set_cons_succ, i64_w, i32_w]; rfl)
      refine done_ (by kernel_rfl) ?_
      go_wp2_with fail
      go_roundw
      case rel =>
        obtain ⟨d1, d2, d3⟩ := HCN.out
        have hi := HI.out
        refine ⟨k + 1, by omega, congrArg (Value.int .i64) (by omega), bel_set hHeld.1 (by simp; omega) _, hHeld.2.1.far (by simp; omega) _, hHeld.2.2.1.far (by simp) _, ?_⟩
        refine (hHeld.2.2.2.set (i / 8) _).congr ?_
        rw [arrF_set]
        refine arrF_ext fun j hj => ?_
        by_cases e : j = i / 8
        · subst e
          rw [if_pos rfl, d1, horn, d2]
        · rw [if_neg e, cnt_other (by omega) hi e hj]
      case measure => simp [intOf] <;> omega
    · obtain rfl : k = 32 := by omega
      go_wp2_with (first | ((with_reducible refine gate_op (.load 25 (.tmp 3)) rfl ?_); refine wpl_load_blk rfl 25 (.tmp 3) rfl _ rfl _ _ _ h1 Tryd.underlying25 rfl 4 size25 (arrF_size _ _ _) ?_) | ((with_reducible refine gate_op (.store 25 (.tmp 2) (.tmp 23)) rfl ?_); refine wpl_store_blk rfl 25 (.tmp 2) (.tmp 23) rfl _ rfl _ _ _ rfl h2 4 size25 (arrF_size _ _ _) (arrF_size _ _ _) (arrF_one _ _ _) ?_; intro W2 hO hB2))
      refine ret_blk Tryd.results42 _ _ _ _ rfl hB2 Tryd.underlying25 rfl 4 size25 (arrF_size _ _ _) rfl ⟨ret_arr fun j hj => ?_, Only.below hB hO (by omega)⟩
      rw [show cntD 4 32 j = 8 by unfold cntD; omega]
set_option maxRecDepth 100000 in
theorem shift01_any (f : Nat → Int) (w : World) (hf : ∀ i, 0 ≤ f i ∧ f i < 256) :
    Calls Tryd.prog 41 #[digV f, .int .i64 4] w fun e w' => e = .returned (digV fun j => horn 2 (fun i => bitD f ((i : Int) - 4)) j 8) ∧ Below w.heap.size w w' := by
  have HBT := Lib.hid (fun n W => bit01_any f n W hf)
  have HBS := Lib.hid (fun W => bits01_any (fun i => bitD f ((i : Int) - 4)) W fun i => by unfold bitD; split <;> omega)
  clear hf
  have hz := zero70
  have hz2 := zero101
  unfold digV at HBT HBS ⊢
  go_enter Tryd.func41, Tryd.ntmps41
  go_wp2_with ((with_reducible refine gate_op (.store 101 (.tmp 5) (.tmp 7)) rfl ?_); refine wpl_store_blk rfl 101 (.tmp 5) (.tmp 7) rfl _ rfl _ _ _ rfl (Blk.new' _ _ _ (by simp)) 256 size101 (arrF_size _ _ _) (arrF_size _ _ _) (arrF_one _ _ _) ?_; intro W1 hO hB1)
  have hB : Below w.heap.size w W1 := Only.below (by repeat (first | exact Below.refl _ _ | assumption | refine below_alloc ?_ _ | refine bel_drewN ?_ _ | refine bel_drew ?_ | refine bel_set ?_ (by simp) _)) hO (by omega)
  have h0 : Blk W1 w.heap.size (arrF .i64 32 f) 70 := Only.blk (((Blk.new _ _ _).alloc _).alloc _) hO (by omega)
  have h2 : Blk W1 (w.heap.size + 1) (arrF .i64 32 fun _ => 0) 70 := Only.blk ((Blk.new' _ _ _ (by simp)).alloc _) hO (by omega)
  clear hO
  go_loopw [6] (fun i wr => ∃ k : Nat, k ≤ 256 ∧ i = .int .i64 k ∧ Below w.heap.size w wr ∧ Blk wr w.heap.size (arrF .i64 32 f) 70 ∧ Blk wr (w.heap.size + 1) (arrF .i64 32 fun _ => 0) 70 ∧ Blk wr (w.heap.size + 1 + 1) (arrF .i64 256 fun i => if i < k then bitD f ((i : Int) - 4) else 0) 101) (fun i _ => 256 - (intOf i).toNat)
  case atStart => exact ⟨0, by omega, rfl, hB, h0, h2, hB1.congr (arrF_ext fun i _ => by rw [if_neg (by omega)])⟩
  case round =>
    clear hB h0 h2 hB1
    obtain ⟨k, hk, rfl, hB, h0, h2, h1⟩ := hrel
    by_cases hlt : k < 256
    · go_wp2_with ((with_reducible refine gate_op (.load 70 (.tmp 2)) rfl ?_); refine wpl_load_blk rfl 70 (.tmp 2) rfl _ rfl _ _ _ h0 Tryd.underlying70 rfl 32 size70 (arrF_size _ _ _) ?_)
      refine (HBT.out ((k : Int) - 4) _).mono ?_
      rintro e w1 ⟨rfl, hb⟩
      have h1' := h1.below hb
      have c1 := h1'.cell k
      rw [arrF_get, if_pos (by omega)] at c1
      have f1 := h1'.frozen k
      go_wp2_with fail
      go_roundw
      case rel =>
        refine ⟨k + 1, by omega, by go_num, bel_set (bel_then hB hb) (by simp; omega) _, (h0.below hb).far (by simp; omega) _, (h2.below hb).far (by simp) _, ?_⟩
        refine (h1'.set k _).congr ?_
        rw [arrF_set]
        refine arrF_ext fun j hj => ?_
        by_cases e : j = k
        · subst e
          rw [if_pos rfl, if_pos (by omega)]
        · rw [if_neg e]
          by_cases l : j < k
          · rw [if_pos l, if_pos (by omega)]
          · rw [if_neg l, if_neg (by omega)]
      case measure => simp [intOf]; omega
    · obtain rfl : k = 256 := by omega
      have h1' := h1.congr (arrF_ext fun i hi => if_pos hi)
      go_wp2_with ((with_reducible refine gate_op (.load 101 (.tmp 5)) rfl ?_); refine wpl_load_blk rfl 101 (.tmp 5) rfl _ rfl _ _ _ h1' Tryd.underlying101 rfl 256 size101 (arrF_size _ _ _) ?_)
      refine (HBS.out _).mono ?_
      rintro e w1 ⟨rfl, hb⟩
      have h2' := h2.below hb
      go_wp2_with ((with_reducible refine gate_op (.store 70 (.tmp 4) (.tmp 20)) rfl ?_); refine wpl_store_blk rfl 70 (.tmp 4) (.tmp 20) rfl _ rfl _ _ _ rfl h2' 32 size70 (arrF_size _ _ _) (arrF_size _ _ _) (arrF_one _ _ _) ?_; intro W2 hO hB2)
      refine ret_blk Tryd.results41 _ _ _ _ rfl hB2 Tryd.underlying70 rfl 32 size70 (arrF_size _ _ _) rfl ⟨rfl, Only.below (bel_then hB hb) hO (by omega)⟩
end Go.Proofs.YtibhijjmmagdcaaDoor
