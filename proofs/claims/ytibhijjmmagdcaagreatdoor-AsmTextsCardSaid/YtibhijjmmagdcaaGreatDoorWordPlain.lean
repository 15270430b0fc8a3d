/- Words and numbers of 32 digits as values: plain arithmetic; no program in sight. -/
import Derived.Test.YtibhijjmmagdcaaGreatDoorWord
import Derived.Laws.BitsLemmas
namespace Go.Proofs.YtibhijjmmagdcaaGreatDoor
set_option linter.unusedVariables false
set_option linter.unusedSimpArgs false
open Go.RowKit Go.Proofs.YtibhijjmmagdcaaGreatDoorW.PrintWords
def U64 (F : Nat → Int) : Prop := ∀ i, 0 ≤ F i ∧ F i < 18446744073709551616
def wval (F : Nat → Int) : Int := F 0 + 18446744073709551616 * F 1 + 340282366920938463463374607431768211456 * F 2 + 6277101735386680763835789423207666416102355444464034512896 * F 3
def M256 : Int := 115792089237316195423570985008687907853269984665640564039457584007913129639936
theorem wval_range {F : Nat → Int} (h : U64 F) : 0 ≤ wval F ∧ wval F < M256 := by
  have h0 := h 0
  have h1 := h 1
  have h2 := h 2
  have h3 := h 3
  unfold wval M256
  omega
theorem wval_inj {F G : Nat → Int} (hF : U64 F) (hG : U64 G) (h : wval F = wval G) : ∀ i, i < 4 → F i = G i := by
  have h0 := hF 0
  have h1 := hF 1
  have h2 := hF 2
  have h3 := hF 3
  have g0 := hG 0
  have g1 := hG 1
  have g2 := hG 2
  have g3 := hG 3
  unfold wval at h
  intro i hi
  obtain rfl | rfl | rfl | rfl : i = 0 ∨ i = 1 ∨ i = 2 ∨ i = 3 := by omega
  all_goals omega
theorem wordF_eq {F G : Nat → Int} (hF : U64 F) (hG : U64 G) (h : wval F = wval G) : wordF F = wordF G := by
  unfold wordF
  rw [arrF_ext (wval_inj hF hG h)]
theorem wraps_u64 (n : Int) (h₀ : 0 ≤ n) (h₁ : n < 2 ^ 64) : IntKind.u64.wrap n = n := IntWalk.u64_in n ⟨h₀, by omega⟩
theorem or_low {x z : Int} (h0 : 0 ≤ x) (h1 : x < 18446744073709551616) (hx : x % 16 = 0) (hz : 0 ≤ z) (hz1 : z < 16) : bits .or .u64 x z = x + z :=
  bits_join .u64 64 (by decide) wraps_u64 4 x z h0 hx h1 hz hz1 (by omega)
theorem or_zero {x : Int} (h0 : 0 ≤ x) (h1 : x < 18446744073709551616) : bits .or .u64 x 0 = x := by
  have := bits_join .u64 64 (by decide) wraps_u64 0 x 0 h0 (by omega) h1 (by omega) (by omega) (by omega)
  simpa using this
theorem wrap_u64 (n : Int) : IntKind.u64.wrap n = n % 18446744073709551616 := by simp [IntKind.wrap, IntKind.bits, IntKind.signed]
/-- A word shifted up by a digit to the base 16, and that digit brought in. -/
def stepF (F : Nat → Int) (d : Int) (i : Nat) : Int := bits .or .u64 (shl4F F i) (if i = 0 then d else 0)
theorem shl4F_eq {F : Nat → Int} (hF : U64 F) (i : Nat) (hi : i < 4) : shl4F F i = F i * 16 % 18446744073709551616 + (if i = 0 then 0 else F (i - 1)) / 1152921504606846976 := by
  have h1 : partF F i = F i := by rw [partF, if_pos (by omega)]; rfl
  have hr := hF i
  unfold shl4F
  rw [h1, wrap_u64]
  by_cases h0 : i = 0
  · subst h0
    rw [if_pos rfl, show partF F ((0 : Nat) - 1 : Int) = 0 by rw [partF, if_neg (by omega)]]
    rw [show (0 : Int) / 1152921504606846976 = 0 by decide, or_zero (by omega) (by omega)]
    omega
  · rw [if_neg h0, show partF F ((i : Int) - 1) = F (i - 1) by rw [partF, if_pos (by omega)]; congr 1; omega]
    have hr1 := hF (i - 1)
    rw [or_low (by omega) (by omega) (by omega) (by omega) (by omega)]
theorem stepF_eq {F : Nat → Int} (hF : U64 F) {d : Int} (hd : 0 ≤ d ∧ d < 16) (i : Nat) (hi : i < 4) : stepF F d i = F i * 16 % 18446744073709551616 + (if i = 0 then d else F (i - 1) / 1152921504606846976) := by
  unfold stepF
  rw [shl4F_eq hF i hi]
  have hr := hF i
  have hr1 := hF (i - 1)
  by_cases h0 : i = 0
  · subst h0
    simp only [if_true]
    rw [show (0 : Int) / 1152921504606846976 = 0 by decide, Int.add_zero, or_low (by omega) (by omega) (by omega) hd.1 hd.2]
  · rw [if_neg h0, if_neg h0, if_neg h0, or_zero (by omega) (by omega)]
theorem stepF_val {F : Nat → Int} (hF : U64 F) {d : Int} (hd : 0 ≤ d ∧ d < 16) : wval (stepF F d) = (16 * wval F + d) % M256 := by
  have h0 := hF 0
  have h1 := hF 1
  have h2 := hF 2
  have h3 := hF 3
  unfold wval
  rw [stepF_eq hF hd 0 (by omega), stepF_eq hF hd 1 (by omega), stepF_eq hF hd 2 (by omega), stepF_eq hF hd 3 (by omega)]
  simp only [M256, if_true, show ¬ (1 : Nat) = 0 by omega, show ¬ (2 : Nat) = 0 by omega, show ¬ (3 : Nat) = 0 by omega, if_false]
  simp only [show 1 - 1 = 0 from rfl, show 2 - 1 = 1 from rfl, show 3 - 1 = 2 from rfl]
  omega
theorem stepF_range {F : Nat → Int} (hF : U64 F) {d : Int} (hd : 0 ≤ d ∧ d < 16) (i : Nat) (hi : i < 4) : 0 ≤ stepF F d i ∧ stepF F d i < 18446744073709551616 := by
  rw [stepF_eq hF hd i hi]
  have := hF i
  have := hF (i - 1)
  split <;> omega
/-- The digits' range; their value. -/
def U8 (f : Nat → Int) : Prop := ∀ i, 0 ≤ f i ∧ f i < 256
def dval (f : Nat → Int) : Nat → Int
  | 0 => 0
  | n + 1 => dval f n + f n * 256 ^ n
theorem pow256_pos (n : Nat) : (0 : Int) < 256 ^ n := Int.pow_pos (by omega)
theorem dval_range {f : Nat → Int} (hf : U8 f) : ∀ n, 0 ≤ dval f n ∧ dval f n < 256 ^ n
  | 0 => by simp [dval]
  | n + 1 => by
    have ih := dval_range hf n
    have h := hf n
    have hp := pow256_pos n
    simp only [dval, Int.pow_succ]
    have h1 : 0 ≤ f n * 256 ^ n := Int.mul_nonneg h.1 (by omega)
    have h2 : f n * 256 ^ n ≤ 255 * 256 ^ n := Int.mul_le_mul_of_nonneg_right (by omega) (by omega)
    omega
theorem M256_pow : (256 : Int) ^ 32 = M256 := by decide
/-- A sum, digit by digit. -/
def addD (f g : Nat → Int) (i : Nat) : Int := (f i + g i + carryD f g i) % 256
theorem addD_val (f g : Nat → Int) : ∀ n, dval (addD f g) n + carryD f g n * 256 ^ n = dval f n + dval g n
  | 0 => by simp [dval, carryD]
  | n + 1 => by
    have ih := addD_val f g n
    simp only [dval, carryD, addD, Int.pow_succ]
    have h := Int.emod_add_mul_ediv (f n + g n + carryD f g n) 256
    generalize (f n + g n + carryD f g n) % 256 = r at *
    generalize (f n + g n + carryD f g n) / 256 = q at *
    have e : r * 256 ^ n + q * (256 ^ n * 256) = (f n + g n + carryD f g n) * 256 ^ n := by
      rw [← h, Int.add_mul, Int.mul_comm 256 q, Int.mul_assoc, Int.mul_comm 256 (256 ^ n)]
    rw [Int.add_mul, Int.add_mul] at e
    omega
theorem addD_range {f g : Nat → Int} : U8 (addD f g) := fun i => by unfold addD; omega
theorem addD_mod {f g : Nat → Int} (hf : U8 f) (hg : U8 g) : dval (addD f g) 32 = (dval f 32 + dval g 32) % M256 := by
  have h := addD_val f g 32
  have hr := dval_range (addD_range (f := f) (g := g)) 32
  have hc := carryD_range hf hg 32
  rw [M256_pow] at h hr
  unfold M256 at *
  omega
/-- Shifted up by four bits, digit by digit. -/
def shD (f : Nat → Int) (j : Nat) : Int := (f j % 16) * 16 + (if j = 0 then 0 else f (j - 1)) / 16
theorem shD_range {f : Nat → Int} (hf : U8 f) : U8 (shD f) := fun i => by
  have := hf i
  have := hf (i - 1)
  unfold shD
  split <;> omega
theorem shD_val (f : Nat → Int) : ∀ n, dval (shD f) n + (if n = 0 then 0 else f (n - 1)) / 16 * 256 ^ n = 16 * dval f n
  | 0 => by simp [dval]
  | n + 1 => by
    have ih := shD_val f n
    simp only [dval, shD, Int.pow_succ, Nat.add_sub_cancel, show ¬ n + 1 = 0 by omega, if_false]
    have h := Int.emod_add_mul_ediv (f n) 16
    generalize hq : f n / 16 = q at *
    generalize hr : f n % 16 = r at *
    generalize (if n = 0 then 0 else f (n - 1)) / 16 = s at *
    have e : r * 16 * 256 ^ n + q * (256 ^ n * 256) = 16 * (f n * 256 ^ n) := by
      rw [← h]
      generalize (256 : Int) ^ n = p
      rw [Int.add_mul, Int.mul_add, Int.mul_comm r 16, Int.mul_assoc, Int.mul_assoc 16 q p]
      have e2 : q * (p * 256) = 256 * (q * p) := by rw [← Int.mul_assoc, Int.mul_comm]
      rw [e2]
      omega
    rw [Int.add_mul]
    omega
theorem shD_mod {f : Nat → Int} (hf : U8 f) : dval (shD f) 32 = (16 * dval f 32) % M256 := by
  have h := shD_val f 32
  have hr := dval_range (shD_range hf) 32
  have h31 := hf 31
  rw [M256_pow] at h hr
  simp only [show ¬ (32 : Nat) = 0 by omega, if_false, show 32 - 1 = 31 from rfl] at h
  unfold M256 at *
  omega
theorem bits_shD {f : Nat → Int} (hf : U8 f) (j : Nat) (hj : j < 32) : horn 2 (fun i => bitD f ((i : Int) - 4)) j 8 = shD f j := by
  have bit : ∀ n : Nat, n < 256 → bitD f (n : Int) = f (n / 8) / 2 ^ (n % 8) % 2 := fun n hn => by rw [bitD, if_neg (by omega)]; rfl
  have up : ∀ t, t < 4 → bitD f (((8 * j + (4 + t) : Nat) : Int) - 4) = f j / 2 ^ t % 2 := fun t ht => by
    rw [show (((8 * j + (4 + t) : Nat) : Int) - 4) = ((8 * j + t : Nat) : Int) by omega, bit _ (by omega), show (8 * j + t) / 8 = j by omega, show (8 * j + t) % 8 = t by omega]
  have lo : ∀ t, t < 4 → bitD f (((8 * j + t : Nat) : Int) - 4) = (if j = 0 then 0 else f (j - 1)) / 2 ^ (4 + t) % 2 := fun t ht => by
    by_cases h0 : j = 0
    · subst h0
      rw [bitD, if_pos (by omega), if_pos rfl, Int.zero_ediv]
      rfl
    · rw [if_neg h0, show (((8 * j + t : Nat) : Int) - 4) = ((8 * (j - 1) + (4 + t) : Nat) : Int) by omega, bit _ (by omega), show (8 * (j - 1) + (4 + t)) / 8 = j - 1 by omega, show (8 * (j - 1) + (4 + t)) % 8 = 4 + t by omega]
  have e7 := up 3 (by omega)
  have e6 := up 2 (by omega)
  have e5 := up 1 (by omega)
  have e4 := up 0 (by omega)
  have e3 := lo 3 (by omega)
  have e2 := lo 2 (by omega)
  have e1 := lo 1 (by omega)
  have e0 := lo 0 (by omega)
  simp only [Nat.add_zero] at e0 e4
  simp only [horn, show 8 * j + 7 - 0 = 8 * j + (4 + 3) by omega, show 8 * j + 7 - 1 = 8 * j + (4 + 2) by omega, show 8 * j + 7 - 2 = 8 * j + (4 + 1) by omega, show 8 * j + 7 - 3 = 8 * j + 4 by omega,
    show 8 * j + 7 - 4 = 8 * j + 3 by omega, show 8 * j + 7 - 5 = 8 * j + 2 by omega, show 8 * j + 7 - 6 = 8 * j + 1 by omega, show 8 * j + 7 - 7 = 8 * j by omega, e7, e6, e5, e4, e3, e2, e1, e0]
  unfold shD
  have r0 := hf j
  have r1 := hf (j - 1)
  generalize hx : (if j = 0 then 0 else f (j - 1)) = x
  have hx2 : 0 ≤ x ∧ x < 256 := by subst hx; split <;> omega
  generalize f j = y at *
  simp only [show (2 : Int) ^ 0 = 1 by decide, show (2 : Int) ^ 1 = 2 by decide, show (2 : Int) ^ 2 = 4 by decide, show (2 : Int) ^ 3 = 8 by decide, show (2 : Int) ^ (4 + 3) = 128 by decide, show (2 : Int) ^ (4 + 2) = 64 by decide, show (2 : Int) ^ (4 + 1) = 32 by decide, show (2 : Int) ^ (4 + 0) = 16 by decide, show (2 : Int) ^ 4 = 16 by decide, show (2 : Int) ^ 7 = 128 by decide, show (2 : Int) ^ 6 = 64 by decide, show (2 : Int) ^ 5 = 32 by decide]
  omega
/-- The parts of the word whose digits these are. -/
def wordD (d : Nat → Int) (j : Nat) : Int := horn 256 d j 8
theorem wordD_range {d : Nat → Int} (hd : U8 d) : U64 (wordD d) := fun i => by
  have := horn_range (q := 256) (by omega) hd i 8
  unfold wordD
  omega
theorem wordD_val (d : Nat → Int) : wval (wordD d) = dval d 32 := by
  simp [wval, wordD, horn, dval]
  omega
/-- A word's digits. -/
def ofD (F : Nat → Int) (i : Nat) : Int := F (i / 8) / 2 ^ (8 * (i % 8)) % 256
theorem ofD_range (F : Nat → Int) : U8 (ofD F) := fun i => by unfold ofD; omega
theorem ofD_val {F : Nat → Int} (hF : U64 F) : dval (ofD F) 32 = wval F := by
  have h0 := hF 0
  have h1 := hF 1
  have h2 := hF 2
  have h3 := hF 3
  simp [wval, ofD, dval]
  omega
/-- The same parts, nothing behind them. -/
def clip (F : Nat → Int) (i : Nat) : Int := if i < 4 then F i else 0
theorem clip_wordF (F : Nat → Int) : wordF (clip F) = wordF F := by
  unfold wordF
  rw [arrF_ext (g := F)]
  intro i hi
  rw [clip, if_pos hi]
theorem clip_arr (F : Nat → Int) : arrF .u64 4 F = arrF .u64 4 (clip F) := arrF_ext fun i hi => by rw [clip, if_pos hi]
theorem clip_val (F : Nat → Int) : wval (clip F) = wval F := by simp [wval, clip]
theorem clip_step {F : Nat → Int} (hF : U64 F) {d : Int} (hd : 0 ≤ d ∧ d < 16) : U64 (clip (stepF F d)) := fun i => by
  unfold clip
  split
  · exact stepF_range hF hd i (by assumption)
  · omega
theorem zero_U64 : U64 fun _ => 0 := fun _ => ⟨Int.le_refl _, by show (0 : Int) < 18446744073709551616; decide⟩
theorem zero_val : wval (fun _ => 0) = 0 := by decide
end Go.Proofs.YtibhijjmmagdcaaGreatDoor
