/- AsmNums: AsmWord, AsmProduct, AsmFrom, AsmSixteen in one text. -/
import Derived.Test.YtibhijjmmagdcaaGreatDoorWordPlain
import Derived.Test.YtibhijjmmagdcaaGreatDoorQuantPlain
import Derived.Test.YtibhijjmmagdcaaGreatDoorQuant
import Derived.Test.YtibhijjmmagdcaaGreatDoorAsmBase
import Derived.Test.YtibhijjmmagdcaaGreatDoorShelf
import Derived.Shelf.Spec.BitsCarry
import Derived.Test.YtibhijjmmagdcaaGreatDoorRefDests
import Derived.Laws.CopyOwn
import Derived.Test.YtibhijjmmagdcaaGreatDoorHexWord
/- word.Add, Compare, Len, Size, Byte, walked. -/
namespace Go.Proofs.YtibhijjmmagdcaaGreatDoor
set_option linter.unusedVariables false
set_option linter.unusedSimpArgs false
open Go.RowKit Go.Proofs.YtibhijjmmagdcaaGreatDoorW.PrintWords Go.Proofs.YtibhijjmmagdcaaGreatDoorW.PrintLast
theorem add64_run (x y c : Int) (hx : 0 ≤ x ∧ x < 18446744073709551616) (hy : 0 ≤ y ∧ y < 18446744073709551616) (hc : 0 ≤ c ∧ c ≤ 1) (w : World) :
    (callFunc 61 #[.int .u64 x, .int .u64 y, .int .u64 c]).run Tryz.prog w = .ok (.value (.tuple #[.int .u64 ((x + y + c) % 18446744073709551616), .int .u64 ((x + y + c) / 18446744073709551616)])) w := by
  obtain ⟨a, rfl⟩ : ∃ a : Nat, x = a := ⟨x.toNat, by omega⟩
  obtain ⟨b, rfl⟩ : ∃ b : Nat, y = b := ⟨y.toNat, by omega⟩
  obtain ⟨d, rfl⟩ : ∃ d : Nat, c = d := ⟨c.toNat, by omega⟩
  rw [run_callFunc_extern Tryz.func61 (by kernel_rfl) (by kernel_rfl) (by kernel_rfl) (e := add64Entry) (by kernel_rfl), run_add64 a b d (by omega) (by omega) (by omega) (by omega)]
  simp only [Result.andThen]
def carryW (f g : Nat → Int) : Nat → Int
  | 0 => 0
  | i + 1 => (f i + g i + carryW f g i) / 18446744073709551616
theorem carryW_range {f g : Nat → Int} (hf : U64 f) (hg : U64 g) : ∀ i, 0 ≤ carryW f g i ∧ carryW f g i ≤ 1
  | 0 => ⟨Int.le_refl _, by simp [carryW]⟩
  | i + 1 => by
    have := carryW_range hf hg i
    have := hf i
    have := hg i
    simp only [carryW]
    omega
def addW (f g : Nat → Int) (i : Nat) : Int := (f i + g i + carryW f g i) % 18446744073709551616
theorem addW_range (f g : Nat → Int) : U64 (addW f g) := fun i => by unfold addW; omega
theorem addW_val {f g : Nat → Int} (hf : U64 f) (hg : U64 g) : wval (addW f g) = (wval f + wval g) % M256 := by
  have h0 := hf 0; have h1 := hf 1; have h2 := hf 2; have h3 := hf 3
  have k0 := hg 0; have k1 := hg 1; have k2 := hg 2; have k3 := hg 3
  unfold wval addW M256
  simp only [carryW]
  omega
set_option maxRecDepth 100000 in
theorem add_word (f g : Nat → Int) (w : World) (hf : U64 f) (hg : U64 g) :
    Calls Tryz.prog 26 #[wordF f, wordF g] w fun e w' => e = .returned (wordF (addW f g)) ∧ Below w.heap.size w w' := by
  have HF := Lib.hid hf
  have HG := Lib.hid hg
  have HC := Lib.hid (carryW_range hf hg)
  clear hf hg
  have hz := zero25
  unfold wordF
  go_enter Tryz.func26, Tryz.ntmps26
  go_wp2_with fail
  refine wp_any_world (fun W => Below w.heap.size w W ∧ Blk W w.heap.size (arrF .u64 4 f) 31 ∧ Blk W (w.heap.size + 1) (arrF .u64 4 g) 31 ∧ Blk W (w.heap.size + 1 + 1) (arrF .u64 4 fun _ => 0) 31 ∧ Blk W (w.heap.size + 1 + 1 + 1) (arrF .u64 4 fun _ => 0) 31) ⟨by repeat (first | exact Below.refl _ _ | assumption | refine below_alloc ?_ _ | refine bel_drewN ?_ _ | refine bel_drew ?_ | refine bel_set ?_ (by simp) _), (((Blk.new _ _ _).alloc _).alloc _).alloc _, ((Blk.new' _ _ _ (by simp)).alloc _).alloc _, (Blk.new' _ _ _ (by simp)).alloc _, Blk.new' _ _ _ (by simp)⟩ ?_
  intro W hS
  go_loopw [6, 10] (fun c i wr => ∃ k : Nat, k ≤ 4 ∧ i = .int .i64 k ∧ c = .int .u64 (carryW f g k) ∧ Below w.heap.size w wr ∧ Blk wr w.heap.size (arrF .u64 4 f) 31 ∧ Blk wr (w.heap.size + 1) (arrF .u64 4 g) 31 ∧ Blk wr (w.heap.size + 1 + 1) (arrF .u64 4 fun _ => 0) 31 ∧ Blk wr (w.heap.size + 1 + 1 + 1) (arrF .u64 4 fun i => if i < k then addW f g i else 0) 31) (fun _ i _ => 4 - (intOf i).toNat)
  case atStart =>
    obtain ⟨hB, h0, h2, h3, h1⟩ := hS
    exact ⟨0, by omega, rfl, rfl, hB, h0, h2, h3, h1.congr (arrF_ext fun i _ => by rw [if_neg (by omega)])⟩
  case round =>
    clear hS
    obtain ⟨k, hk, rfl, rfl, hB, h0, h2, h3, h1⟩ := hrel
    by_cases hlt : k < 4
    · have c0 := h0.cell k
      rw [arrF_get, if_pos (by omega)] at c0
      have c2 := h2.cell k
      rw [arrF_get, if_pos (by omega)] at c2
      have c1 := h1.cell k
      rw [arrF_get, if_pos (by omega)] at c1
      have f1 := h1.frozen k
      have a64 := add64_run (f k) (g k) (carryW f g k) (HF.out k) (HG.out k) (HC.out k)
      go_wp2_with fail
      go_quiet (fail)
      go_wp2_with fail
      go_roundw
      case rel =>
        refine ⟨k + 1, by omega, by go_num, by rw [carryW], bel_set (bel_drewN hB _) (by simp; omega) _, (h0.drewN _).far (by simp; omega) _, (h2.drewN _).far (by simp) _, (h3.drewN _).far (by simp) _, ?_⟩
        refine ((h1.drewN _).set k _).congr ?_
        rw [arrF_set]
        refine arrF_ext fun j hj => ?_
        by_cases e : j = k
        · subst e
          rw [if_pos rfl, if_pos (by omega)]; rfl
        · rw [if_neg e]
          by_cases l : j < k
          · rw [if_pos l, if_pos (by omega)]
          · rw [if_neg l, if_neg (by omega)]
      case measure => simp [intOf]; omega
    · obtain rfl : k = 4 := by omega
      go_wp2_with (first | ((with_reducible refine gate_op (.load 31 (.tmp 5)) rfl ?_); refine wpl_load_blk rfl 31 (.tmp 5) rfl _ rfl _ _ _ h1 Tryz.underlying31 rfl 4 size25 (arrF_size _ _ _) ?_) | ((with_reducible refine gate_op (.store 31 (.tmp 4) (.tmp 29)) rfl ?_); refine wpl_store_blk rfl 31 (.tmp 4) (.tmp 29) rfl _ rfl _ _ _ rfl h3 4 size25 (arrF_size _ _ _) (arrF_size _ _ _) (arrF_one _ _ _) ?_; intro W2 hO hB2))
      refine ret_blk Tryz.results26 _ _ _ _ rfl hB2 Tryz.underlying31 rfl 4 size25 (arrF_size _ _ _) rfl ⟨ret_arr fun i hi => if_pos hi, Only.below hB hO (by omega)⟩
def cmpF (f g : Nat → Int) : Int := if eqN 4 f g = true then 0 else if wval f < wval g then -1 else 1
set_option maxRecDepth 100000 in
theorem compare_any (f g : Nat → Int) (w : World) (hf : U64 f) (hg : U64 g) :
    Calls Tryz.prog 27 #[wordF f, wordF g] w fun e w' => e = .returned (.int .i64 (cmpF f g)) ∧ Below w.heap.size w w' := by
  have heq := eql25 f g
  obtain ⟨z, hz⟩ : ∃ z, eqN 4 f g = z := ⟨_, rfl⟩
  unfold wordF
  cases z with
  | true =>
    have HC : Hid (cmpF f g = 0) := if_pos hz
    rw [hz] at heq
    clear hz hf hg
    go_enter Tryz.func27, Tryz.ntmps27
    go_wp2_with (first | ((with_reducible refine gate_op (.load 31 (.tmp 2)) rfl ?_); refine wpl_load_blk rfl 31 (.tmp 2) rfl _ rfl _ _ _ ((Blk.new _ _ _).alloc _) Tryz.underlying31 rfl 4 size25 (arrF_size _ _ _) ?_) | ((with_reducible refine gate_op (.load 31 (.tmp 3)) rfl ?_); refine wpl_load_blk rfl 31 (.tmp 3) rfl _ rfl _ _ _ (Blk.new' _ _ _ (by simp)) Tryz.underlying31 rfl 4 size25 (arrF_size _ _ _) ?_))
    go_ret
    exact ⟨by rw [HC.out]; rfl, by repeat (first | exact Below.refl _ _ | assumption | refine below_alloc ?_ _ | refine bel_drewN ?_ _ | refine bel_drew ?_ | refine bel_set ?_ (by simp) _)⟩
  | false =>
    have HC : Hid (cmpF f g = if wval f < wval g then -1 else 1) := if_neg (by rw [hz]; decide)
    have HN : Hid (¬ ∀ i, i < 4 → f i = g i) := fun h => by rw [eqN_iff.2 h] at hz; cases hz
    rw [hz] at heq
    have HF := Lib.hid hf
    have HG := Lib.hid hg
    clear hz hf hg
    go_enter Tryz.func27, Tryz.ntmps27
    go_wp2_with (first | ((with_reducible refine gate_op (.load 31 (.tmp 2)) rfl ?_); refine wpl_load_blk rfl 31 (.tmp 2) rfl _ rfl _ _ _ ((Blk.new _ _ _).alloc _) Tryz.underlying31 rfl 4 size25 (arrF_size _ _ _) ?_) | ((with_reducible refine gate_op (.load 31 (.tmp 3)) rfl ?_); refine wpl_load_blk rfl 31 (.tmp 3) rfl _ rfl _ _ _ (Blk.new' _ _ _ (by simp)) Tryz.underlying31 rfl 4 size25 (arrF_size _ _ _) ?_))
    refine wp_any_world (fun W => Below w.heap.size w W ∧ Blk W w.heap.size (arrF .u64 4 f) 31 ∧ Blk W (w.heap.size + 1) (arrF .u64 4 g) 31) ⟨by repeat (first | exact Below.refl _ _ | assumption | refine below_alloc ?_ _ | refine bel_drewN ?_ _ | refine bel_drew ?_ | refine bel_set ?_ (by simp) _), (Blk.new _ _ _).alloc _, Blk.new' _ _ _ (by simp)⟩ ?_
    intro W hS
    clear heq
    go_loopw [5] (fun i wr => ∃ k : Nat, k ≤ 3 ∧ i = .int .i64 k ∧ (∀ j, k < j → j < 4 → f j = g j) ∧ Below w.heap.size w wr ∧ Blk wr w.heap.size (arrF .u64 4 f) 31 ∧ Blk wr (w.heap.size + 1) (arrF .u64 4 g) 31) (fun i _ => (intOf i).toNat)
    case atStart => exact ⟨3, by omega, rfl, fun j h1 h2 => by omega, hS.1, hS.2.1, hS.2.2⟩
    case round =>
      clear hS
      obtain ⟨k, hk, rfl, he, hB, h0, h1⟩ := hrel
      have HE := Lib.hid he
      clear he
      have c0 := h0.cell k
      rw [arrF_get, if_pos (by omega)] at c0
      have c1 := h1.cell k
      rw [arrF_get, if_pos (by omega)] at c1
      have b0 := HF.out k
      have b1 := HG.out k
      by_cases hq : f k = g k
      · have hk0 : 0 < k := by
          rcases Nat.eq_zero_or_pos k with h | h
          · subst h
            exact absurd (fun i hi => by
              rcases Nat.eq_zero_or_pos i with h | h
              · subst h; exact hq
              · exact HE.out i h hi) HN.out
          · exact h
        have HQ := Lib.hid hq
        have q1 : (f k == g k) = true := by simpa using hq
        clear hq
        go_wp2_with fail
        go_quiet (fail)
        go_wp2_with fail
        go_roundw
        case rel => exact ⟨k - 1, by omega, by go_num, fun j h1 h2 => by
          by_cases e : j = k
          · subst e; exact HQ.out
          · exact HE.out j (by omega) h2, bel_drewN hB _, h0.drewN _, h1.drewN _⟩
        case measure => simp [intOf]; omega
      · have q1 : (f k == g k) = false := by simpa using hq
        have HV : Hid (wval f < wval g ↔ f k < g k) := by
          have e1 := HE.out 1; have e2 := HE.out 2; have e3 := HE.out 3
          have r0 := HF.out 0; have r1 := HF.out 1; have r2 := HF.out 2; have r3 := HF.out 3
          have s0 := HG.out 0; have s1 := HG.out 1; have s2 := HG.out 2; have s3 := HG.out 3
          unfold Hid wval
          obtain rfl | rfl | rfl | rfl : k = 0 ∨ k = 1 ∨ k = 2 ∨ k = 3 := by omega
          · have := e1 (by omega) (by omega); have := e2 (by omega) (by omega); have := e3 (by omega) (by omega); omega
          · have := e2 (by omega) (by omega); have := e3 (by omega) (by omega); omega
          · have := e3 (by omega) (by omega); omega
          · omega
        have HQ := Lib.hid hq
        clear hq
        go_wp2_with fail
        go_quiet (fail)
        go_wp2_with fail
        by_cases hl : f k < g k
        · have HL := Lib.hid hl
          go_quiet (fail)
          go_wp2_with fail
          go_ret
          exact ⟨by rw [HC.out, if_pos (HV.out.2 HL.out)]; rfl, by first | exact bel_drewN hB _ | exact bel_drewN (bel_drewN hB _) _⟩
        · have HL := Lib.hid hl
          go_quiet (fail)
          go_wp2_with fail
          go_ret
          exact ⟨by rw [HC.out, if_neg (fun h => by have h1 := HV.out.1 h; have h2 := HL.out; omega)]; rfl, by first | exact bel_drewN hB _ | exact bel_drewN (bel_drewN hB _) _⟩
theorem bitLenAux_le : ∀ (f x k : Nat), x < 2 ^ f → (Lib.bitLenAux f x ≤ k ↔ x < 2 ^ k)
  | 0, x, k, h => by
    have : x = 0 := by simpa using h
    subst this
    simp [Lib.bitLenAux, Nat.two_pow_pos]
  | f + 1, x, k, h => by
    rw [Lib.bitLenAux]
    by_cases hx : x = 0
    · subst hx; simp [Nat.two_pow_pos]
    · rw [if_neg hx]
      cases k with
      | zero => simp; omega
      | succ k =>
        have := bitLenAux_le f (x / 2) k (by rw [Nat.pow_succ] at h; omega)
        rw [Nat.pow_succ]
        omega
theorem bitLen_le {x : Nat} (k : Nat) (h : x < 18446744073709551616) : Lib.bitLen x ≤ k ↔ x < 2 ^ k := bitLenAux_le 64 x k (by omega)
def lenF (f : Nat → Int) : Nat := if f 3 ≠ 0 then 192 + Lib.bitLen (f 3).toNat else if f 2 ≠ 0 then 128 + Lib.bitLen (f 2).toNat else if f 1 ≠ 0 then 64 + Lib.bitLen (f 1).toNat else Lib.bitLen (f 0).toNat
theorem limb_len (E a low k : Nat) (ha : a < 18446744073709551616) (h0 : a ≠ 0) (hlow : low < 2 ^ E) : E + Lib.bitLen a ≤ k ↔ a * 2 ^ E + low < 2 ^ k := by
  rcases Nat.lt_or_ge k E with h | h
  · have h1 : 2 ^ k ≤ 2 ^ E := Nat.pow_le_pow_right (by decide) (by omega)
    have h2 : 1 * 2 ^ E ≤ a * 2 ^ E := Nat.mul_le_mul_right _ (by omega)
    omega
  · obtain ⟨m, rfl⟩ : ∃ m, k = E + m := ⟨k - E, by omega⟩
    have hb := bitLen_le m ha
    rw [Nat.pow_add, Nat.mul_comm (2 ^ E)]
    constructor
    · intro h1
      have h2 : (a + 1) * 2 ^ E ≤ 2 ^ m * 2 ^ E := Nat.mul_le_mul_right _ (hb.1 (by omega))
      rw [Nat.add_mul] at h2
      omega
    · intro h1
      have : a < 2 ^ m := by
        rcases Nat.lt_or_ge a (2 ^ m) with h2 | h2
        · exact h2
        · have := Nat.mul_le_mul_right (2 ^ E) h2
          omega
      have := hb.2 this
      omega
theorem len_le {f : Nat → Int} (hf : U64 f) (k : Nat) : lenF f ≤ k ↔ (wval f).toNat < 2 ^ k := by
  have h0 := hf 0; have h1 := hf 1; have h2 := hf 2; have h3 := hf 3
  unfold lenF wval
  by_cases c3 : f 3 = 0
  · by_cases c2 : f 2 = 0
    · by_cases c1 : f 1 = 0
      · simp only [c3, c2, c1, ne_eq, not_true_eq_false, if_false]
        rw [bitLen_le k (by omega)]
        simp
      · simp only [c3, c2, c1, ne_eq, not_true_eq_false, not_false_eq_true, if_true, if_false]
        rw [limb_len 64 (f 1).toNat (f 0).toNat k (by omega) (by omega) (by omega), show (f 1).toNat * 2 ^ 64 + (f 0).toNat = (f 0 + 18446744073709551616 * f 1 + 340282366920938463463374607431768211456 * 0 + 6277101735386680763835789423207666416102355444464034512896 * 0).toNat by omega]
    · simp only [c3, c2, ne_eq, not_true_eq_false, not_false_eq_true, if_true, if_false]
      rw [limb_len 128 (f 2).toNat (f 0 + 18446744073709551616 * f 1).toNat k (by omega) (by omega) (by omega), show (f 2).toNat * 2 ^ 128 + (f 0 + 18446744073709551616 * f 1).toNat = (f 0 + 18446744073709551616 * f 1 + 340282366920938463463374607431768211456 * f 2 + 6277101735386680763835789423207666416102355444464034512896 * 0).toNat by omega]
  · simp only [c3, ne_eq, not_false_eq_true, if_true]
    rw [limb_len 192 (f 3).toNat (f 0 + 18446744073709551616 * f 1 + 340282366920938463463374607431768211456 * f 2).toNat k (by omega) (by omega) (by omega), show (f 3).toNat * 2 ^ 192 + (f 0 + 18446744073709551616 * f 1 + 340282366920938463463374607431768211456 * f 2).toNat = (f 0 + 18446744073709551616 * f 1 + 340282366920938463463374607431768211456 * f 2 + 6277101735386680763835789423207666416102355444464034512896 * f 3).toNat by omega]
theorem sizeN_le (n : Int) (h : 0 ≤ n) (m : Nat) : sizeN n ≤ m ↔ n.toNat < 2 ^ (8 * m) := by
  unfold sizeN
  by_cases h0 : n = 0
  · subst h0; simp [Nat.two_pow_pos]
  · rw [if_neg h0]
    have := Nat.log2_lt (n := n.toNat) (k := 8 * m) (by omega)
    omega
theorem size_len {f : Nat → Int} (hf : U64 f) : (lenF f + 7) / 8 = sizeN (wval f) := by
  have h0 := (wval_range hf).1
  have key : ∀ m, (lenF f + 7) / 8 ≤ m ↔ sizeN (wval f) ≤ m := fun m => by
    rw [sizeN_le _ h0, ← len_le hf]
    omega
  have a := (key ((lenF f + 7) / 8)).1 (Nat.le_refl _)
  have b := (key (sizeN (wval f))).2 (Nat.le_refl _)
  omega
theorem sizeN_32 {n : Int} (h : 0 ≤ n) (h1 : n < M256) : sizeN n ≤ 32 := (sizeN_le n h 32).2 (by unfold M256 at h1; omega)
set_option maxRecDepth 100000 in
theorem len_any (f : Nat → Int) (w : World) (hf : U64 f) :
    Calls Tryz.prog 90 #[wordF f] w fun e w' => e = .returned (.int .i64 (lenF f)) ∧ Below w.heap.size w w' := by
  have HF := Lib.hid hf
  clear hf
  unfold wordF
  go_enter Tryz.func90, Tryz.ntmps90
  go_wp2_with fail
  refine wp_any_world (fun W => Below w.heap.size w W ∧ Blk W w.heap.size (arrF .u64 4 f) 31) ⟨by repeat (first | exact Below.refl _ _ | assumption | refine below_alloc ?_ _ | refine bel_drewN ?_ _ | refine bel_drew ?_ | refine bel_set ?_ (by simp) _), Blk.new _ _ _⟩ ?_
  intro W hS
  go_loop [3] (fun i => ∃ k : Nat, k ≤ 4 ∧ i = .int .i64 ((k : Int) - 1) ∧ (∀ j, k ≤ j → j < 4 → f j = 0)) (fun i => (intOf i + 1).toNat)
  case atStart => exact ⟨4, by omega, rfl, fun j h1 h2 => by omega⟩
  case round =>
    obtain ⟨k, hk, rfl, he⟩ := hrel
    have HE := Lib.hid he
    clear he
    by_cases hk0 : k = 0
    · subst hk0
      have HL : Hid (lenF f = 0) := by
        have e0 := HE.out 0 (by omega) (by omega); have e1 := HE.out 1 (by omega) (by omega); have e2 := HE.out 2 (by omega) (by omega); have e3 := HE.out 3 (by omega) (by omega)
        simp only [Hid, lenF, e0, e1, e2, e3, ne_eq, not_true_eq_false, if_false]
        rfl
      go_wp2_with fail
      go_ret
      exact ⟨by rw [HL.out]; try rfl, hS.1⟩
    · obtain ⟨m, rfl⟩ : ∃ m, k = m + 1 := ⟨k - 1, by omega⟩
      have e1 : ((m + 1 : Nat) : Int) - 1 = (m : Int) := by omega
      rw [e1]
      clear e1
      have p0 : (0 : Int) ≤ (m : Int) := by omega
      have p1 : (m : Int) < 4 := by omega
      have c0 := hS.2.cell m
      rw [arrF_get, if_pos (by omega)] at c0
      have b0 := HF.out m
      by_cases hz : f m = 0
      · have HZ := Lib.hid hz
        have z1 : (f m != 0) = false := by simpa using hz
        clear hz
        go_wp2_with fail
        go_round
        case rel => exact ⟨m, by omega, by go_num, fun j h1 h2 => by
          by_cases e : j = m
          · subst e; exact HZ.out
          · exact HE.out j (by omega) h2⟩
        case measure => simp [intOf] <;> omega
      · have z1 : (f m != 0) = true := by simpa using hz
        have HL : Hid (lenF f = 64 * m + Lib.bitLen (f m).toNat) := by
          unfold Hid lenF
          have e1 := HE.out 1; have e2 := HE.out 2; have e3 := HE.out 3
          obtain rfl | rfl | rfl | rfl : m = 0 ∨ m = 1 ∨ m = 2 ∨ m = 3 := by omega
          · simp [e1 (by omega) (by omega), e2 (by omega) (by omega), e3 (by omega) (by omega)]
          · simp [hz, e2 (by omega) (by omega), e3 (by omega) (by omega)]
          · simp [hz, e3 (by omega) (by omega)]
          · simp [hz]
        have hbl := (bitLen_le (x := (f m).toNat) 64 (by omega)).2 (by omega)
        have hcl := fun W => Tryz.bits_Len64 (f m) W (by omega) (by omega)
        clear hz
        go_wp2_with (go_at_call 104; refine (hcl _).mono ?_; rintro e w1 ⟨rfl, rfl⟩)
        go_ret
        exact ⟨by rw [HL.out]; try go_num, hS.1⟩
theorem size_any (f : Nat → Int) (w : World) (hf : U64 f) :
    Calls Tryz.prog 77 #[wordF f] w fun e w' => e = .returned (.int .i64 (sizeN (wval f))) ∧ Below w.heap.size w w' := by
  have HL := Lib.hid (fun W => len_any f W hf)
  have HS := Lib.hid (size_len hf)
  have h256 : lenF f ≤ 256 := (len_le hf 256).2 (by have := wval_range hf; unfold M256 at this; omega)
  have p0 : (0 : Int) ≤ (lenF f : Int) := by omega
  have p1 : (lenF f : Int) ≤ 256 := by omega
  clear hf h256
  unfold wordF at HL ⊢
  go_enter Tryz.func77, Tryz.ntmps77
  go_wp2_with (first | ((with_reducible refine gate_op (.load 31 (.tmp 1)) rfl ?_); refine wpl_load_blk rfl 31 (.tmp 1) rfl _ rfl _ _ _ (Blk.new _ _ _) Tryz.underlying31 rfl 4 size25 (arrF_size _ _ _) ?_) | (go_at_call 90; refine (HL.out _).mono ?_; rintro e w1 ⟨rfl, hb1⟩))
  go_ret
  exact ⟨by rw [← HS.out]; go_num, bel_then (by repeat (first | exact Below.refl _ _ | assumption | refine below_alloc ?_ _ | refine bel_drewN ?_ _ | refine bel_drew ?_ | refine bel_set ?_ (by simp) _)) hb1⟩
set_option maxRecDepth 100000 in
theorem byte31_any (f : Nat → Int) (w : World) (hf : U64 f) :
    Calls Tryz.prog 78 #[wordF f, .int .u64 31] w fun e w' => e = .returned (.int .u8 (f 0 % 256)) ∧ Below w.heap.size w w' := by
  have HB := Lib.hid (fun W => bytes_any f W hf)
  have HV : Hid (byteF f 31 = f 0 % 256) := by
    unfold Hid byteF
    simp
  clear hf
  have hz := zero59
  unfold wordF at HB ⊢
  go_enter Tryz.func78, Tryz.ntmps78
  go_wp2_with (first | ((with_reducible refine gate_op (.load 31 (.tmp 2)) rfl ?_); refine wpl_load_blk rfl 31 (.tmp 2) rfl _ rfl _ _ _ (Blk.new _ _ _) Tryz.underlying31 rfl 4 size25 (arrF_size _ _ _) ?_) | (go_at_call 91; refine (HB.out _).mono ?_; rintro e w1 ⟨rfl, hb1⟩) | (((with_reducible refine gate_op (.store 121 (.tmp 5) (.tmp 9)) rfl ?_); refine wpl_store_blk rfl 121 (.tmp 5) (.tmp 9) rfl _ rfl _ _ _ rfl (Blk.new _ _ _) 32 size59 (arrF_size _ _ _) (arrF_size _ _ _) (arrF_one _ _ _) ?_; intro w2 hO hB2); have c0 := hB2.cell 31; rw [arrF_get, if_pos (by omega)] at c0))
  go_ret
  exact ⟨by rw [← HV.out]; rfl, bel_then (bel_then (by repeat (first | exact Below.refl _ _ | assumption | refine below_alloc ?_ _ | refine bel_drewN ?_ _ | refine bel_drew ?_ | refine bel_set ?_ (by simp) _)) hb1) (Only.below (by repeat (first | exact Below.refl _ _ | assumption | refine below_alloc ?_ _ | refine bel_drewN ?_ _ | refine bel_drew ?_ | refine bel_set ?_ (by simp) _)) hO (Nat.le_refl _))⟩
end Go.Proofs.YtibhijjmmagdcaaGreatDoor

/- wide.Product, walked. -/
namespace Go.Proofs.YtibhijjmmagdcaaGreatDoor
set_option linter.unusedVariables false
set_option linter.unusedSimpArgs false
open Go.RowKit Go.Proofs.YtibhijjmmagdcaaGreatDoorW.PrintWords Go.Proofs.YtibhijjmmagdcaaGreatDoorW.PrintLast
section
variable {P : Program} {o : Oper} {a : Act} {w : World} {K : Act → World → Prop} {Q : Exit → Act → World → Prop}
/-- A whole array into its block, as an operation. -/
theorem op_store_blk (ty : TypeId) (x y : Operand) (ho : o.op = .store ty x y) (g : Nat) (hx : a.eval x = .pointer (some ⟨g, 0, none⟩)) (t : TypeId) (cs cs' : Array Value) (hy : a.eval y = .agg cs') (hg : Blk w g cs t)
    (n : Nat) (hi : (P.info? ty).map (·.size) = some n) (hn : cs.size = n) (hn' : cs'.size = n) (h1 : cs'.all (·.oneCell') = true)
    (h : ∀ W1, Only w W1 g → Blk W1 g cs' t → K (a.put o.dst undef) W1) : o.wp P a w K Q := by
  have hs := setCells_only g cs'.toList w cs t 0 hg (by simp; omega)
  refine wp_store_mid ty x y ho g 0 cs' hx hy (fun j hj => ?_) (by rw [hn']; exact hi) h1 (h _ hs.1 (by simpa using hs.2))
  have hlt : j < cs.size := by omega
  exact ⟨by rw [Nat.zero_add, hg.cell, Array.getElem?_eq_getElem hlt]; rfl, by rw [Nat.zero_add]; exact hg.frozen j⟩
/-- An array out of the midst of a block, by itself. -/
theorem run_load_mid {ty : TypeId} {x : Operand} (ho : o.op = .load ty x) {b off : Nat} (hx : a.eval x = .pointer (some ⟨b, off, none⟩)) {cs : List Value} {d : TypeDesc} (hc : w.rangeAt b off cs)
    (hu : P.underlying ty = some d) (hd : d.isRow = true) (hi : (P.info? ty).map (·.size) = some cs.length) : (execOp a.eval o).run P w = .ok (.value (.agg cs.toArray)) w := by
  unfold execOp
  simp only [ho, hx, Instr.loadAt, Instr.sureAddr, Sem.run_bind, Sem.run_pure, Result.andThen_ok, run_loadVar_mid w b off ty cs d hc hu hd hi]
end
theorem arrF_list (k : IntKind) (n : Nat) (f : Nat → Int) : ((List.range n).map fun i => Value.int k (f i)).toArray = arrF k n f := rfl
/-- Part of a row of numbers. -/
theorem arr_range {W : World} {g n t : Nat} {k : IntKind} {f : Nat → Int} (h : Blk W g (arrF k n f) t) (off m : Nat) (hm : off + m ≤ n) : W.rangeAt g off ((List.range m).map fun i => Value.int k (f (off + i))) := by
  intro j v hj
  have hjm : j < m := by
    rcases Nat.lt_or_ge j m with h' | h'
    · exact h'
    · rw [List.getElem?_eq_none (by simpa using h')] at hj; cases hj
  rw [List.getElem?_map, List.getElem?_range hjm] at hj
  rw [h.cell, arrF_get, if_pos (by omega)]
  exact hj
/-- The value of the lowest n parts. -/
def dvB (A : Nat → Int) : Nat → Int
  | 0 => 0
  | n + 1 => dvB A n + A n * 18446744073709551616 ^ n
theorem dvB_four (A : Nat → Int) : dvB A 4 = wval A := by
  simp only [dvB, wval]
  omega
theorem dvB_eight (A : Nat → Int) : dvB A 8 = wval A + M256 * wval (fun i => A (4 + i)) := by
  simp only [dvB, wval, M256, Nat.reduceAdd]
  omega
theorem dvB_set (A : Nat → Int) (i : Nat) (x : Int) : ∀ n, i < n → dvB (fun j => if j = i then x else A j) n = dvB A n + (x - A i) * 18446744073709551616 ^ i
  | n + 1, h => by
    rw [dvB, dvB]
    by_cases e : i = n
    · subst e
      have : dvB (fun j => if j = i then x else A j) i = dvB A i := by
        clear h
        have key : ∀ m, m ≤ i → dvB (fun j => if j = i then x else A j) m = dvB A m := by
          intro m
          induction m with
          | zero => intro _; rfl
          | succ m ih => intro hm; rw [dvB, dvB, ih (by omega)]; simp only [if_neg (show m ≠ i by omega)]
        exact key i (Nat.le_refl _)
      rw [this]
      simp only [if_true]
      grind
    · rw [dvB_set A i x n (by omega)]
      simp only [if_neg (show n ≠ i by omega)]
      grind
theorem mul_bound {x y : Int} (hx : 0 ≤ x ∧ x < 18446744073709551616) (hy : 0 ≤ y ∧ y < 18446744073709551616) : 0 ≤ x * y ∧ x * y ≤ 340282366920938463426481119284349108225 := by
  refine ⟨Int.mul_nonneg hx.1 hy.1, ?_⟩
  have := Int.mul_le_mul (show x ≤ 18446744073709551615 by omega) (show y ≤ 18446744073709551615 by omega) hy.1 (by omega)
  omega
/-- One step of the product. -/
theorem mul_step {p z c : Int} (hp : 0 ≤ p ∧ p ≤ 340282366920938463426481119284349108225) (hz : 0 ≤ z ∧ z < 18446744073709551616) (hc : 0 ≤ c ∧ c < 18446744073709551616) :
    p + z + c = ((p % 18446744073709551616 + z) % 18446744073709551616 + c) % 18446744073709551616 + (p / 18446744073709551616 + (p % 18446744073709551616 + z) / 18446744073709551616 + ((p % 18446744073709551616 + z) % 18446744073709551616 + c) / 18446744073709551616) * 18446744073709551616 ∧
    0 ≤ p / 18446744073709551616 + (p % 18446744073709551616 + z) / 18446744073709551616 + ((p % 18446744073709551616 + z) % 18446744073709551616 + c) / 18446744073709551616 ∧ p / 18446744073709551616 + (p % 18446744073709551616 + z) / 18446744073709551616 + ((p % 18446744073709551616 + z) % 18446744073709551616 + c) / 18446744073709551616 < 18446744073709551616 := by omega
theorem mul64_run (x y : Int) (hx : 0 ≤ x ∧ x < 18446744073709551616) (hy : 0 ≤ y ∧ y < 18446744073709551616) (w : World) :
    Calls Tryz.prog 60 #[.int .u64 x, .int .u64 y] w fun e w' => e = .returned (.tuple #[.int .u64 (x * y / 18446744073709551616), .int .u64 (x * y % 18446744073709551616)]) ∧ w' = w := by
  obtain ⟨a, rfl⟩ : ∃ a : Nat, x = a := ⟨x.toNat, by omega⟩
  obtain ⟨b, rfl⟩ : ∃ b : Nat, y = b := ⟨y.toNat, by omega⟩
  exact Tryz.bits_Mul64 a b (by omega) (by omega) w
theorem size153 : (Tryz.prog.info? 101).map (·.size) = some 8 := by kernel_rfl
theorem zero153 (w : World) : (zeroValue 101).run Tryz.prog w = .ok (.agg (arrF .u64 8 fun _ => 0)) w := by kernel_rfl
theorem toarr_low (W : World) (g : Nat) : (Instr.arrayAt 31 (.slice (some ⟨g, 0, none⟩) 4 8)).run Tryz.prog W = .ok (.pointer (some ⟨g, 0, none⟩)) W := by kernel_rfl
theorem toarr_high (W : World) (g : Nat) : (Instr.arrayAt 31 (.slice (some ⟨g, 4, none⟩) 4 4)).run Tryz.prog W = .ok (.pointer (some ⟨g, 4, none⟩)) W := by kernel_rfl
def ProdS (w : World) (f g A : Nat → Int) (W : World) : Prop :=
  Below w.heap.size w W ∧ Blk W w.heap.size (arrF .u64 4 f) 31 ∧ Blk W (w.heap.size + 1) (arrF .u64 4 g) 31 ∧ Blk W (w.heap.size + 1 + 1) (arrF .u64 4 fun _ => 0) 31 ∧ Blk W (w.heap.size + 1 + 1 + 1) (arrF .u64 4 fun _ => 0) 31 ∧ Blk W (w.heap.size + 1 + 1 + 1 + 1) (arrF .u64 8 A) 101
theorem ProdS.drewN {w : World} {f g A : Nat → Int} {W : World} (h : ProdS w f g A W) (n : Nat) : ProdS w f g A (W.drewN n) := ⟨bel_drewN h.1 n, h.2.1.drewN n, h.2.2.1.drewN n, h.2.2.2.1.drewN n, h.2.2.2.2.1.drewN n, h.2.2.2.2.2.drewN n⟩
theorem ProdS.put {w : World} {f g A : Nat → Int} {W : World} (h : ProdS w f g A W) (i : Nat) (x : Int) : ProdS w f g (fun j => if j = i then x else A j) (W.setCell ⟨w.heap.size + 1 + 1 + 1 + 1, i, none⟩ (.int .u64 x)) :=
  ⟨bel_set h.1 (by simp; omega) _, h.2.1.far (by simp; omega) _, h.2.2.1.far (by simp) _, h.2.2.2.1.far (by simp) _, h.2.2.2.2.1.far (by simp) _, (h.2.2.2.2.2.set i _).congr (arrF_set _)⟩
theorem U64.set {A : Nat → Int} (h : U64 A) (i : Nat) {x : Int} (hx : 0 ≤ x ∧ x < 18446744073709551616) : U64 (fun j => if j = i then x else A j) := fun j => by
  by_cases e : j = i
  · simp only [e, if_true]; exact hx
  · simp only [e, if_false]; exact h j
theorem set_zero {A : Nat → Int} {n i : Nat} (h : ∀ j, n ≤ j → A j = 0) (hi : i < n) (x : Int) : ∀ j, n ≤ j → (fun j => if j = i then x else A j) j = 0 := fun j hj => by
  have : j ≠ i := by omega
  simp only [this, if_false]
  exact h j hj
theorem alg_inner {V q P R D W x G lo z hh y p B : Int} (h1 : V + q * (P * R) = D * W + x * G * P) (h2 : x * y = p) (h3 : p + z + q = lo + hh * B) : V + (lo - z) * (P * R) + hh * (P * (R * B)) = D * W + x * (G + y * R) * P := by grind
theorem alg_outer {V q P R D W x : Int} (h1 : V + q * (P * R) = D * W + x * W * P) : V + (q - 0) * (P * R) = (D + x * P) * W := by grind
theorem prod_inner {A f g : Nat → Int} {k m : Nat} {q x y z p l2 hh : Int} (hv : dvB A 8 + q * (18446744073709551616 ^ k * 18446744073709551616 ^ m) = dvB f k * wval g + f k * dvB g m * 18446744073709551616 ^ k)
    (hx : f k = x) (hy : g m = y) (hz : A (k + m) = z) (hp : x * y = p) (hs : p + z + q = l2 + hh * 18446744073709551616) (hlt : k + m < 8) :
    dvB (fun j => if j = k + m then l2 else A j) 8 + hh * (18446744073709551616 ^ k * 18446744073709551616 ^ (m + 1)) = dvB f k * wval g + f k * dvB g (m + 1) * 18446744073709551616 ^ k := by
  rw [dvB_set A (k + m) l2 8 hlt, hz, show dvB g (m + 1) = dvB g m + g m * 18446744073709551616 ^ m from rfl, hx, hy, Int.pow_add, Int.pow_succ]
  rw [hx] at hv
  exact alg_inner hv hp hs
theorem prod_outer {A f g : Nat → Int} {k : Nat} {q : Int} (hv : dvB A 8 + q * (18446744073709551616 ^ k * 18446744073709551616 ^ 4) = dvB f k * wval g + f k * dvB g 4 * 18446744073709551616 ^ k) (hz : A (k + 4) = 0) (hlt : k + 4 < 8) :
    dvB (fun j => if j = k + 4 then q else A j) 8 = dvB f (k + 1) * wval g := by
  rw [dvB_set A (k + 4) q 8 hlt, hz, show dvB f (k + 1) = dvB f k + f k * 18446744073709551616 ^ k from rfl, Int.pow_add]
  rw [dvB_four] at hv
  exact alg_outer hv
set_option maxRecDepth 100000 in
theorem product_any (f g : Nat → Int) (w : World) (hf : U64 f) (hg : U64 g) :
    Calls Tryz.prog 24 #[wordF f, wordF g] w fun e w' => ∃ L H, U64 L ∧ U64 H ∧ wval L + M256 * wval H = wval f * wval g ∧ e = .returned (.tuple #[wordF L, wordF H]) ∧ Below w.heap.size w w' := by
  have HF := Lib.hid hf
  have HG := Lib.hid hg
  clear hf hg
  have hz := zero25
  have hz8 := zero153
  unfold wordF
  go_enter Tryz.func24, Tryz.ntmps24
  go_wp2_with fail
  refine wp_any_world (ProdS w f g fun _ => 0) ⟨by repeat (first | exact Below.refl _ _ | assumption | refine below_alloc ?_ _ | refine bel_drewN ?_ _ | refine bel_drew ?_ | refine bel_set ?_ (by simp) _), ((((Blk.new _ _ _).alloc _).alloc _).alloc _).alloc _, (((Blk.new' _ _ _ (by simp)).alloc _).alloc _).alloc _, ((Blk.new' _ _ _ (by simp)).alloc _).alloc _, (Blk.new' _ _ _ (by simp)).alloc _, Blk.new' _ _ _ (by simp)⟩ ?_
  intro W hS
  clear hz hz8
  go_loopw [13] (fun i wr => ∃ (k : Nat) (A : Nat → Int), k ≤ 4 ∧ i = .int .i64 k ∧ U64 A ∧ (∀ j, k + 4 ≤ j → A j = 0) ∧ dvB A 8 = dvB f k * wval g ∧ ProdS w f g A wr) (fun i _ => 4 - (intOf i).toNat)
  case atStart => exact ⟨0, _, by omega, rfl, zero_U64, fun _ _ => rfl, by simp [dvB], hS⟩
  case round =>
    clear hS
    obtain ⟨k, A, hk, rfl, hA, hA0, hv, hS⟩ := hrel
    by_cases hlt : k < 4
    · have HA := Lib.hid hA
      have HA0 := Lib.hid hA0
      have HV := Lib.hid hv
      clear hA hA0 hv
      go_wp2_with fail
      obtain ⟨wo, rfl⟩ : ∃ wo : World, wo = wr := ⟨_, rfl⟩
      go_loopw [8, 16] (fun c i wr => ∃ (m : Nat) (A : Nat → Int) (q : Int), m ≤ 4 ∧ i = .int .i64 m ∧ c = .int .u64 q ∧ 0 ≤ q ∧ q < 18446744073709551616 ∧ U64 A ∧ (∀ j, k + 4 ≤ j → A j = 0) ∧ dvB A 8 + q * (18446744073709551616 ^ k * 18446744073709551616 ^ m) = dvB f k * wval g + f k * dvB g m * 18446744073709551616 ^ k ∧ ProdS w f g A wr) (fun _ i _ => 4 - (intOf i).toNat)
      case atStart => exact ⟨0, A, 0, by omega, rfl, rfl, by omega, by omega, HA.out, HA0.out, by rw [HV.out]; simp [dvB], hS⟩
      case round =>
        clear hS HA HA0 HV A
        obtain ⟨m, A, q, hm, rfl, rfl, hq0, hq1, hA, hA0, hv, hS⟩ := hrel
        have HA := Lib.hid hA
        have HA0 := Lib.hid hA0
        have HV := Lib.hid hv
        clear hA hA0 hv
        by_cases hlm : m < 4
        · have c0 := hS.2.1.cell k
          rw [arrF_get, if_pos (by omega)] at c0
          have c1 := hS.2.2.1.cell m
          rw [arrF_get, if_pos (by omega)] at c1
          have b0 := HF.out k
          have b1 := HG.out m
          have b2 := HA.out (k + m)
          have hml := fun W => mul64_run (f k) (g m) b0 b1 W
          have hmb := mul_bound b0 b1
          obtain ⟨x, hx⟩ : ∃ x, f k = x := ⟨_, rfl⟩
          obtain ⟨y, hy⟩ : ∃ y, g m = y := ⟨_, rfl⟩
          obtain ⟨z, hzz⟩ : ∃ z, A (k + m) = z := ⟨_, rfl⟩
          rw [hx] at c0 b0 hml hmb
          rw [hy] at c1 b1 hml hmb
          rw [hzz] at b2
          obtain ⟨p, hp⟩ : ∃ p, x * y = p := ⟨_, rfl⟩
          rw [hp] at hml hmb
          have HST := Lib.hid (mul_step hmb b2 ⟨hq0, hq1⟩)
          have a1 := add64_run (p % 18446744073709551616) z 0 (by omega) b2 (by omega)
          have a2 := add64_run ((p % 18446744073709551616 + z) % 18446744073709551616) q 0 (by omega) ⟨hq0, hq1⟩ (by omega)
          rw [Int.add_zero] at a1 a2
          have HML := Lib.hid hml
          have HX := Lib.hid hx
          have HY := Lib.hid hy
          have HZ := Lib.hid hzz
          have HP := Lib.hid hp
          clear hx hy hzz hp hml
          have c2 := hS.2.2.2.2.2.cell (k + m)
          rw [arrF_get, if_pos (by omega), HZ.out] at c2
          have f2 := hS.2.2.2.2.2.frozen (k + m)
          have hb := hmb
          obtain ⟨hi, hhi⟩ : ∃ hi, p / 18446744073709551616 = hi := ⟨_, rfl⟩
          obtain ⟨lo, hlo⟩ : ∃ lo, p % 18446744073709551616 = lo := ⟨_, rfl⟩
          have i1 : 0 ≤ hi ∧ hi < 18446744073709551615 := by omega
          have i2 : 0 ≤ lo ∧ lo < 18446744073709551616 := by omega
          rw [hhi, hlo] at HML HST
          rw [hlo] at a1 a2
          clear hmb hb hhi hlo
          obtain ⟨d1, hd1⟩ : ∃ d1, (lo + z) / 18446744073709551616 = d1 := ⟨_, rfl⟩
          obtain ⟨l1, hl1⟩ : ∃ l1, (lo + z) % 18446744073709551616 = l1 := ⟨_, rfl⟩
          have i3 : 0 ≤ d1 ∧ d1 ≤ 1 := by omega
          have i4 : 0 ≤ l1 ∧ l1 < 18446744073709551616 := by omega
          rw [hd1, hl1] at HST a1
          rw [hl1] at a2
          clear hd1 hl1
          obtain ⟨d2, hd2⟩ : ∃ d2, (l1 + q) / 18446744073709551616 = d2 := ⟨_, rfl⟩
          obtain ⟨l2, hl2⟩ : ∃ l2, (l1 + q) % 18446744073709551616 = l2 := ⟨_, rfl⟩
          have i5 : 0 ≤ d2 ∧ d2 ≤ 1 := by omega
          have i6 : 0 ≤ l2 ∧ l2 < 18446744073709551616 := by omega
          rw [hd2, hl2] at HST a2
          clear hd2 hl2
          have i7 := HST.out.2
          have p0 : (0 : Int) ≤ (k : Int) + (m : Int) := by omega
          have p1 : (k : Int) + (m : Int) < 8 := by omega
          go_wp2_with fail
          go_quiet ((go_at_call 60; exact Calls.quiet_of_same (HML.out _)))
          go_wp2_with fail
          go_roundw
          case rel =>
            exact ⟨m + 1, _, hi + d1 + d2, by omega, by go_num, rfl, i7.1, i7.2, HA.out.set (k + m) i6, set_zero HA0.out (by omega) l2, prod_inner HV.out HX.out HY.out HZ.out HP.out HST.out.1 (by omega), (hS.drewN _).put (k + m) l2⟩
          case measure => simp [intOf]; omega
        · obtain rfl : m = 4 := by omega
          have c2 := hS.2.2.2.2.2.cell (k + 4)
          rw [arrF_get, if_pos (by omega)] at c2
          have f2 := hS.2.2.2.2.2.frozen (k + 4)
          go_wp2_with fail
          go_roundw
          case rel =>
            exact ⟨k + 1, _, by omega, by go_num, HA.out.set (k + 4) ⟨hq0, hq1⟩, set_zero (fun j hj => HA0.out j (by omega)) (by omega) q, prod_outer HV.out (HA0.out _ (Nat.le_refl _)) (by omega), hS.put (k + 4) q⟩
          case measure => simp [intOf]; omega
    · obtain rfl : k = 4 := by omega
      have HV : Hid (wval A + M256 * wval (fun i => A (4 + i)) = wval f * wval g) := by rw [Hid, ← dvB_eight, hv, dvB_four]
      have HA := Lib.hid hA
      have t0 := toarr_low
      have t1 := toarr_high
      clear hv hA hA0
      go_wp2_with fail
      refine start_ (n := 8) (S := fun W => Below w.heap.size w W ∧ Blk W (w.heap.size + 1 + 1 + 1 + 1) (arrF .u64 8 A) 101 ∧ Blk W (w.heap.size + 1 + 1 + 1) (arrF .u64 4 fun _ => 0) 31 ∧ ∃ f0, Blk W (w.heap.size + 1 + 1) (arrF .u64 4 f0) 31) (ds := [7]) #[false, false, false, false, false, false, false, false] (by kernel_rfl) rfl rfl ⟨bel_drew hS.1, hS.2.2.2.2.2.drew, hS.2.2.2.2.1.drew, _, hS.2.2.2.1.drew⟩ (fun hHeld => ?_)
      refine gen_last hHeld ?_
      clear hHeld
      intro wd hHeld
      refine pure_ (i := 0) (N := some 62) (v := ?_) (a' := ?_) #[true, false, false, false, false, false, false, false] rfl rfl (by kernel_rfl) (fun _ _ _ h => h) (Or.inl ⟨by rfl, ?_⟩) ?_ ?_
      rotate_left
      · intro w2
        (go_simp; (try go_bits); with_reducible rfl)
      rotate_left
      · simp only [Act.put, List.setIfInBounds_toArray, List.set_cons_zero, List.set_cons_succ, i64_w, i32_w]
        rfl
      refine pure_ (i := 3) (N := some 65) (v := ?_) (a' := ?_) #[true, false, false, true, false, false, false, false] rfl rfl (by kernel_rfl) (fun _ _ _ h => h) (Or.inl ⟨by rfl, ?_⟩) ?_ ?_
      rotate_left
      · intro w2
        (go_simp; (try go_bits); with_reducible rfl)
      rotate_left
      · simp only [Act.put, List.setIfInBounds_toArray, List.set_cons_zero, List.set_cons_succ, i64_w, i32_w]
        rfl
      refine take_ (i := 1) (N := some 63) (v := ?_) (a' := ?_) #[true, true, false, true, false, false, false, false] rfl rfl (by kernel_rfl) (fun _ _ _ h => h) (Or.inl ⟨by rfl, ?_⟩) hHeld ?_ ?_
      rotate_left
      · intro w2 hS2
        skip
        exact (by go_simp; with_reducible rfl)
      rotate_left
      · simp only [Act.put, List.setIfInBounds_toArray, List.set_cons_zero, List.set_cons_succ, i64_w, i32_w]
        rfl
      refine take_ (i := 2) (N := some 64) (v := ?_) (a' := ?_) #[true, true, true, true, false, false, false, false] rfl rfl (by kernel_rfl) (fun _ _ _ h => h) (Or.inl ⟨by rfl, ?_⟩) hHeld ?_ ?_
      rotate_left
      · intro w2 hS2
        skip
        (refine run_load_mid (x := .tmp 63) ?_ ?_ (arr_range hS2.2.1 0 4 (by omega)) Tryz.underlying31 rfl size25 <;> rfl)
      rotate_left
      · simp only [Act.put, List.setIfInBounds_toArray, List.set_cons_zero, List.set_cons_succ, i64_w, i32_w]
        rfl
      refine take_ (i := 4) (N := some 66) (v := ?_) (a' := ?_) #[true, true, true, true, true, false, false, false] rfl rfl (by kernel_rfl) (fun _ _ _ h => h) (Or.inl ⟨by rfl, ?_⟩) hHeld ?_ ?_
      rotate_left
      · intro w2 hS2
        skip
        (go_simp; (try go_bits); with_reducible rfl)
      rotate_left
      · simp only [Act.put, List.setIfInBounds_toArray, List.set_cons_zero, List.set_cons_succ, i64_w, i32_w]
        rfl
      refine take_ (i := 5) (N := some 67) (v := ?_) (a' := ?_) #[true, true, true, true, true, true, false, false] rfl rfl (by kernel_rfl) (fun _ _ _ h => h) (Or.inl ⟨by rfl, ?_⟩) hHeld ?_ ?_
      rotate_left
      · intro w2 hS2
        skip
        (refine run_load_mid (x := .tmp 66) ?_ ?_ (arr_range hS2.2.1 4 4 (by omega)) Tryz.underlying31 rfl size25 <;> rfl)
      rotate_left
      · simp only [Act.put, List.setIfInBounds_toArray, List.set_cons_zero, List.set_cons_succ, i64_w, i32_w]
        rfl
      refine one_ (i := 6) (N := none) #[true, true, true, true, true, true, true, false] rfl rfl (by kernel_rfl) (by decide) (fun K hK => ?_)
      refine ifw rfl ?_
      obtain ⟨f0, hb0⟩ := hHeld.2.2.2
      refine op_store_blk 31 (.tmp 4) (.tmp 64) rfl _ rfl _ _ (arrF .u64 4 fun i => A (0 + i)) rfl hb0 4 size25 (arrF_size _ _ _) (arrF_size _ _ _) (arrF_one _ _ _) ?_
      intro W1 hO1 hB1
      refine hK.out _ _ ⟨Only.below hHeld.1 hO1 (by omega), Only.blk hHeld.2.1 hO1 (by omega), Only.blk hHeld.2.2.1 hO1 (by omega), _, hB1⟩ (fun hHeld => ?_)
      clear hK K
      refine norm_ (a' := ?_) ?_ ?_
      rotate_left
      · first | rfl | (simp only [Act.put, List.setIfInBounds_toArray, List.set_cons_zero, List.set_cons_succ, i64_w, i32_w]; rfl)
      refine last_ (i := 7) (N := none) #[true, true, true, true, true, true, true, true] rfl rfl (by kernel_rfl) (by decide) (fun K hK => ?_)
      refine ifw rfl ?_
      refine op_store_blk 31 (.tmp 5) (.tmp 67) rfl _ rfl _ _ (arrF .u64 4 fun i => A (4 + i)) rfl hHeld.2.2.1 4 size25 (arrF_size _ _ _) (arrF_size _ _ _) (arrF_one _ _ _) ?_
      intro W2 hO2 hB2
      refine hK.out _ _ ?_
      clear hK K
      refine norm_ (a' := ?_) ?_ ?_
      rotate_left
      · first | rfl | (simp only [Act.put, List.setIfInBounds_toArray, List.set_cons_zero, List.set_cons_succ, i64_w, i32_w]; rfl)
      refine done_ (by kernel_rfl) ?_
      have hb1 : Blk W2 (w.heap.size + 1 + 1) (arrF .u64 4 A) 31 := (Only.blk hB1 hO2 (by omega)).congr (arrF_ext fun i _ => by rw [Nat.zero_add])
      have e2 : Below w.heap.size w W2 := Only.below hHeld.1 hO2 (by omega)
      go_wp2_with fail
      refine bodyPost_ret (results_cc Tryz.results24 _ _ _ _ _ _ _ _ (0, 0) (0, 0) _ _ rfl hb1 Tryz.underlying31 rfl (by rw [arrF_size]; exact size25) rfl hB2 Tryz.underlying31 rfl (by rw [arrF_size]; exact size25)) rfl ⟨A, _, HA.out, fun i => HA.out (4 + i), HV.out, rfl, e2⟩
end Go.Proofs.YtibhijjmmagdcaaGreatDoor

/- word.From at 32 bytes at most, walked. -/
namespace Go.Proofs.YtibhijjmmagdcaaGreatDoor
set_option linter.unusedVariables false
set_option linter.unusedSimpArgs false
open Go.RowKit Go.Proofs.YtibhijjmmagdcaaGreatDoorW.PrintWords Go.Proofs.YtibhijjmmagdcaaGreatDoorW.PrintLast
/-- The byte at place p of 32, of a list's bytes at the end. -/
def padF (l : List Int) (p : Nat) : Int := if p < 32 - l.length then 0 else l.getD (p - (32 - l.length)) 0
/-- The digits, the lowest first. -/
def digL (l : List Int) (m : Nat) : Int := if m < 32 then padF l (31 - m) else 0
theorem padF_range {l : List Int} (h : ∀ c ∈ l, 0 ≤ c ∧ c < 256) (p : Nat) : 0 ≤ padF l p ∧ padF l p < 256 := by
  unfold padF
  split
  · omega
  · rw [List.getD_eq_getElem?_getD]
    rcases Nat.lt_or_ge (p - (32 - l.length)) l.length with hp | hp
    · rw [List.getElem?_eq_getElem hp]
      exact h _ (List.getElem_mem hp)
    · rw [List.getElem?_eq_none hp]
      exact ⟨Int.le_refl _, by decide⟩
theorem digL_range {l : List Int} (h : ∀ c ∈ l, 0 ≤ c ∧ c < 256) : U8 (digL l) := fun m => by
  unfold digL
  split
  · exact padF_range h _
  · omega
/-- The lowest m bytes of part i. -/
def lowS (d : Nat → Int) (i : Nat) : Nat → Int
  | 0 => 0
  | m + 1 => lowS d i m + d (8 * i + m) * 2 ^ (8 * m)
theorem lowS_range {d : Nat → Int} (h : U8 d) (i : Nat) : ∀ m, 0 ≤ lowS d i m ∧ lowS d i m < 2 ^ (8 * m)
  | 0 => by simp [lowS]
  | m + 1 => by
    have ih := lowS_range h i m
    have hd := h (8 * i + m)
    have hp : (0 : Int) < 2 ^ (8 * m) := Int.pow_pos (by decide)
    have e : (2 : Int) ^ (8 * (m + 1)) = 2 ^ (8 * m) * 256 := by rw [show 8 * (m + 1) = 8 * m + 8 by omega, Int.pow_add]; rfl
    rw [lowS, e]
    generalize (2 : Int) ^ (8 * m) = P at ih hp ⊢
    have h1 : 0 ≤ d (8 * i + m) * P := Int.mul_nonneg hd.1 (by omega)
    have h2 : d (8 * i + m) * P ≤ 255 * P := Int.mul_le_mul_of_nonneg_right (by omega) (by omega)
    omega
theorem lowS_word (d : Nat → Int) (i : Nat) : lowS d i 8 = wordD d i := by
  simp only [wordD, lowS, horn, Nat.reduceAdd, Nat.reduceMul, Nat.reduceSub, Nat.add_zero, show 8 * i + 7 - 0 = 8 * i + 7 by omega, show 8 * i + 7 - 1 = 8 * i + 6 by omega, show 8 * i + 7 - 2 = 8 * i + 5 by omega, show 8 * i + 7 - 3 = 8 * i + 4 by omega, show 8 * i + 7 - 4 = 8 * i + 3 by omega, show 8 * i + 7 - 5 = 8 * i + 2 by omega, show 8 * i + 7 - 6 = 8 * i + 1 by omega, show 8 * i + 7 - 7 = 8 * i by omega]
  omega
theorem or_above {x y : Int} {m : Nat} (hm : m < 8) (hx : 0 ≤ x ∧ x < 2 ^ (8 * m)) (hy : 0 ≤ y ∧ y < 256) : bits .or .u64 x (IntKind.u64.wrap (y * 2 ^ (8 * m))) = x + y * 2 ^ (8 * m) := by
  have hp : (0 : Int) < 2 ^ (8 * m) := Int.pow_pos (by decide)
  have h56 : (2 : Int) ^ (8 * m) ≤ 2 ^ 56 := by
    have := Nat.pow_le_pow_right (show 0 < 2 by decide) (show 8 * m ≤ 56 by omega)
    exact_mod_cast this
  have hq : 0 ≤ y * 2 ^ (8 * m) ∧ y * 2 ^ (8 * m) ≤ 255 * 2 ^ 56 := by
    refine ⟨Int.mul_nonneg hy.1 (by omega), ?_⟩
    exact Int.mul_le_mul (by omega) h56 (by omega) (by omega)
  have h56' : (2 : Int) ^ 56 = 72057594037927936 := by decide
  rw [h56'] at h56 hq
  rw [wraps_u64 _ hq.1 (by omega)]
  have h := (bits_nat .u64 64 (by decide) wraps_u64 x.toNat (y * 2 ^ (8 * m)).toNat (by omega) (by omega)).2
  rw [Int.toNat_of_nonneg hx.1, Int.toNat_of_nonneg hq.1] at h
  rw [h]
  have e : (y * 2 ^ (8 * m)).toNat = 2 ^ (8 * m) * y.toNat := by
    obtain ⟨b, rfl⟩ : ∃ b : Nat, y = b := ⟨y.toNat, by omega⟩
    have h2 : (b : Int) * 2 ^ (8 * m) = ((2 ^ (8 * m) * b : Nat) : Int) := by
      rw [Int.natCast_mul, Int.mul_comm]
      congr 1
    rw [h2, Int.toNat_natCast, Int.toNat_natCast]
  rw [e, Nat.or_comm, ← Nat.two_pow_add_eq_or_of_lt (by
    have : ((2 ^ (8 * m) : Nat) : Int) = 2 ^ (8 * m) := by exact_mod_cast rfl
    omega)]
  rw [← e]
  omega
def FromS (w : World) (g : Nat) (l : List Int) (k m : Nat) (W : World) : Prop :=
  Below w.heap.size w W ∧ Blk W w.heap.size (arrF .u64 4 fun _ => 0) 31 ∧ Blk W (w.heap.size + 1) (arrF .u8 32 (padF l)) 121 ∧ w.heap.size + 1 < g ∧ Blk W g (arrF .u64 4 fun i => if i < k then wordD (digL l) i else if i = k then lowS (digL l) i m else 0) 31
theorem FromS.drew {w : World} {g : Nat} {l : List Int} {k m : Nat} {W : World} (h : FromS w g l k m W) : FromS w g l k m W.drew := ⟨bel_drew h.1, h.2.1.drew, h.2.2.1.drew, h.2.2.2.1, h.2.2.2.2.drew⟩
theorem nums_splice (l : List Int) (hl : l.length ≤ 32) : (splice (arrF .u8 32 fun _ => 0).toList (32 - l.length) (nums .u8 l)).toArray = arrF .u8 32 (padF l) := by
  apply Array.ext_getElem?
  intro j
  rw [arrF_get]
  have hL : (arrF .u8 32 fun _ => 0).toList.length = 32 := by simp [arrF]
  have hN := nums_length .u8 l
  unfold splice
  rw [List.getElem?_toArray]
  by_cases h1 : j < 32 - l.length
  · rw [List.getElem?_append_left (by rw [List.length_take]; omega), List.getElem?_take_of_lt h1, Array.getElem?_toList, arrF_get, if_pos (by omega), if_pos (by omega), padF, if_pos h1]
  · rw [List.getElem?_append_right (by rw [List.length_take]; omega), List.length_take, hL, Nat.min_eq_left (by omega)]
    by_cases h2 : j < 32
    · have hj : j - (32 - l.length) < l.length := by omega
      rw [List.getElem?_append_left (by omega), nums_at hj, if_pos h2, padF, if_neg h1, List.getD_eq_getElem?_getD, List.getElem?_eq_getElem hj]
      rfl
    · rw [List.getElem?_eq_none (by simp only [List.length_append, List.length_drop, hL, hN]; omega), if_neg h2]
theorem infoU8 : ∃ i, Tryz.prog.info? 5 = some i ∧ i.size = 1 := by
  obtain ⟨i, hi, h⟩ := Option.map_eq_some_iff.1 info5
  simp only [Prod.mk.injEq] at h
  exact ⟨i, hi, h.2.1⟩
theorem size_u8 (w : World) : (sizeOf 5).run Tryz.prog w = .ok 1 w := by kernel_rfl
theorem elem59 : Tryz.prog.elem 121 = 5 := by kernel_rfl
theorem alen59 : Tryz.prog.arrayLen 121 = 32 := by kernel_rfl
/-- The last n of 32 bytes. -/
theorem slice_pad (g n : Nat) (hn : n ≤ 32) : ∃ ad : Addr, (∀ W, (Instr.sliceAt 121 (.pointer (some ⟨g, 0, none⟩)) (some (.int .i64 (32 - (n : Int)))) none none).run Tryz.prog W = .ok (.slice (some ad) n n) W) ∧ (0 < n → ad = ⟨g, 32 - n, none⟩) := by
  have ht : Tryz.prog.underlying 121 = some (.array (Tryz.prog.arrayLen 121) (Tryz.prog.elem 121)) := by kernel_rfl
  refine ⟨if 32 = 32 - n then ⟨g, 0, none⟩ else (⟨g, 0, none⟩ : Addr).add ((32 - n) * 1), fun W => ?_, fun h => ?_⟩
  · rw [run_sliceAt_array_l W 121 ⟨g, 0, none⟩ ht .i64 (32 - (n : Int)) (by omega) (by rw [alen59]; omega), elem59, size_u8, alen59]
    simp only [Result.andThen, slicedAt]
    rw [show (32 - (n : Int)).toNat = 32 - n by omega, show 32 - (32 - n) = n by omega]
  · rw [if_neg (by omega), Nat.mul_one, add_plain]
set_option maxRecDepth 100000 in
theorem from_any (A : Option Addr) (c : Nat) (l : List Int) (w : World) (hr : (Kd.int .u8).C w A l.length l) (hc : l.length ≤ c) (hl : ∀ c ∈ l, 0 ≤ c ∧ c < 256) (hsz : l.length ≤ 32) :
    Calls Tryz.prog 52 #[.slice A l.length c] w fun e w' => e = .returned (wordF (wordD (digL l))) ∧ Below w.heap.size w w' := by
  have HD := Lib.hid (digL_range hl)
  have HP := Lib.hid (padF_range hl)
  have HR : Hid (0 < l.length → ∃ ad, A = some ad ∧ ∀ W, Below w.heap.size w W → ∀ j v, (nums .u8 l)[j]? = some v → W.cell? (ad.add j) = some v) := fun h0 => by
    obtain ⟨ad, hA, _⟩ := byte_at hr h0
    refine ⟨ad, hA, fun W hb j v hv => ?_⟩
    obtain ⟨hj, rfl⟩ := nums_get hv
    obtain ⟨ad', hA', hcl⟩ := byte_at hr hj
    rw [hA] at hA'
    injection hA' with hA'
    subst hA'
    exact hcl W hb
  have HS := Lib.hid (nums_splice l hsz)
  have HZ := Lib.hid hsz
  have p1 : ¬ (32 : Int) < (l.length : Int) := by omega
  have hz := zero25
  have hz2 := zero59
  have HN := Lib.hid (nums_length .u8 l)
  clear hl hr hsz
  have q1 : (l.length : Int) ≤ 32 := by have := HZ.out; omega
  have q0 : (0 : Int) ≤ (l.length : Int) := by omega
  obtain ⟨ad, hsl, had⟩ := slice_pad (w.heap.size + 1) l.length HZ.out
  have HAD := Lib.hid had
  clear had
  go_enter Tryz.func52, Tryz.ntmps52
  go_wp2_with (with_reducible refine wpList_copy_splice rfl (.tmp 18) (.tmp 19) 22 22 rfl 5 Tryz.underlying22 ?c1 _ _ _ _ _ _ rfl rfl (w.heap.size + 1) (32 - l.length) (arrF .u8 32 fun _ => 0).toList 121 ?c2 (nums .u8 l) ?c3 ?c4 ?c5 nums_one (w.heap.size + 1) _ (Below.refl _ _) (Nat.le_refl _) ?_)
  case c1 => exact infoU8
  case c2 => exact (Array.getElem?_eq_some_iff.1 (Blk.new' (w.alloc (.cells (arrF .u64 4 fun _ => 0) 31)) _ _ (by simp))).2
  case c3 => exact HN.out
  case c4 =>
    intro h0
    have h0' : 0 < l.length := by have := HN.out; omega
    obtain ⟨b, hA, hcl⟩ := HR.out h0'
    exact ⟨HAD.out h0', b, hA, fun j v hj => hcl _ (by repeat (first | exact Below.refl _ _ | assumption | refine below_alloc ?_ _ | refine bel_drewN ?_ _ | refine bel_drew ?_ | refine bel_set ?_ (by simp) _)) j v hj⟩
  case c5 => rw [arrF_size]; have := HN.out; have := HZ.out; omega
  intro w1 hB1 hb1
  have k1 : Blk w1 (w.heap.size + 1) (arrF .u8 32 (padF l)) 121 := by
    have := hB1.out
    rw [HS.out] at this
    exact this
  have k0 : Blk w1 w.heap.size (arrF .u64 4 fun _ => 0) 31 := (hb1.block _ (by omega)).trans ((Blk.new _ _ _).alloc _)
  have e1 : Below w.heap.size w w1 := (by repeat (first | exact Below.refl _ _ | assumption | refine below_alloc ?_ _ | refine bel_drewN ?_ _ | refine bel_drew ?_ | refine bel_set ?_ (by simp) _) : Below w.heap.size w ((w.alloc (.cells (arrF .u64 4 fun _ => 0) 31)).alloc (.cells (arrF .u8 32 fun _ => 0) 121))).trans ⟨hb1.os, hb1.tape, hb1.output, hb1.size, fun k hk => hb1.block k (by omega)⟩
  have hlt := k1.lt
  clear hB1 hb1 hsl
  go_wp2_with fail
  refine wp_any_world (FromS w w1.heap.size l 0 0) ⟨below_alloc e1 _, k0.alloc _, k1.alloc _, hlt, (Blk.new _ _ _).congr (arrF_ext fun i _ => by simp [lowS])⟩ ?_
  intro W hS
  clear k0 k1 e1 hz hz2
  go_loopw [21] (fun i wr => ∃ k : Nat, k ≤ 4 ∧ i = .int .i64 k ∧ FromS w w1.heap.size l k 0 wr) (fun i _ => 4 - (intOf i).toNat)
  case atStart => exact ⟨0, by omega, rfl, hS⟩
  case round =>
    clear hS
    obtain ⟨k, hk, rfl, hS⟩ := hrel
    by_cases hlt4 : k < 4
    · have p4 : (k : Int) < 4 := by omega
      go_wp2_with fail
      obtain ⟨wo, rfl⟩ : ∃ wo : World, wo = wr := ⟨_, rfl⟩
      go_loopw [24] (fun i wr => ∃ m : Nat, m ≤ 8 ∧ i = .int .i64 m ∧ FromS w w1.heap.size l k m wr) (fun i _ => 8 - (intOf i).toNat)
      case atStart => exact ⟨0, by omega, rfl, hS⟩
      case round =>
        clear hS
        obtain ⟨m, hm, rfl, hS⟩ := hrel
        by_cases hlm : m < 8
        · have p0 : (0 : Int) ≤ 31 - 8 * (k : Int) - (m : Int) := by omega
          have p2 : 31 - 8 * (k : Int) - (m : Int) < 32 := by omega
          have p3 : (0 : Int) ≤ (k : Int) := by omega
          have p5 : (0 : Int) ≤ (m : Int) := by omega
          have p6 : (m : Int) < 8 := by omega
          have p7 : (m : Int) ≤ 31 - 8 * (k : Int) := by omega
          have b1 := HP.out (31 - 8 * k - m)
          have hor := or_above (m := m) hlm (lowS_range HD.out k m) b1
          go_wp2_with fail
          refine start_ (n := 17) (S := FromS w w1.heap.size l k m) (ds := [16]) #[false, false, false, false, false, false, false, false, false, false, false, false, false, false, false, false, false] (by kernel_rfl) rfl rfl hS.drew (fun hHeld => ?_)
          refine gen_last hHeld ?_
          clear hHeld
          intro wd hHeld
          refine pure_ (i := 0) (N := some 27) (v := ?_) (a' := ?_) #[true, false, false, false, false, false, false, false, false, false, false, false, false, false, false, false, false] rfl rfl (by kernel_rfl) (fun _ _ _ h => h) (Or.inl ⟨by rfl, ?_⟩) ?_ ?_
          rotate_left
          · intro w2
            (go_simp; (try go_bits); with_reducible rfl)
          rotate_left
          · simp only [Act.put, List.setIfInBounds_toArray, List.set_cons_zero, List.set_cons_succ, i64_w, i32_w]
            rfl
          refine pure_ (i := 1) (N := some 28) (v := ?_) (a' := ?_) #[true, true, false, false, false, false, false, false, false, false, false, false, false, false, false, false, false] rfl rfl (by kernel_rfl) (fun _ _ _ h => h) (Or.inl ⟨by rfl, ?_⟩) ?_ ?_
          rotate_left
          · intro w2
            (go_simp; (try go_bits); with_reducible rfl)
          rotate_left
          · simp only [Act.put, List.setIfInBounds_toArray, List.set_cons_zero, List.set_cons_succ, i64_w, i32_w]
            rfl
          refine pure_ (i := 3) (N := some 30) (v := ?_) (a' := ?_) #[true, true, false, true, false, false, false, false, false, false, false, false, false, false, false, false, false] rfl rfl (by kernel_rfl) (fun _ _ _ h => h) (Or.inl ⟨by rfl, ?_⟩) ?_ ?_
          rotate_left
          · intro w2
            (go_simp; (try go_bits); with_reducible rfl)
          rotate_left
          · simp only [Act.put, List.setIfInBounds_toArray, List.set_cons_zero, List.set_cons_succ, i64_w, i32_w]
            rfl
          refine pure_ (i := 4) (N := some 31) (v := ?_) (a' := ?_) #[true, true, false, true, true, false, false, false, false, false, false, false, false, false, false, false, false] rfl rfl (by kernel_rfl) (fun _ _ _ h => h) (Or.inl ⟨by rfl, ?_⟩) ?_ ?_
          rotate_left
          · intro w2
            (go_simp; (try go_bits); with_reducible rfl)
          rotate_left
          · simp only [Act.put, List.setIfInBounds_toArray, List.set_cons_zero, List.set_cons_succ, i64_w, i32_w]
            rfl
          refine pure_ (i := 5) (N := some 32) (v := ?_) (a' := ?_) #[true, true, false, true, true, true, false, false, false, false, false, false, false, false, false, false, false] rfl rfl (by kernel_rfl) (fun _ _ _ h => h) (Or.inl ⟨by rfl, ?_⟩) ?_ ?_
          rotate_left
          · intro w2
            (go_simp; (try go_bits); with_reducible rfl)
          rotate_left
          · simp only [Act.put, List.setIfInBounds_toArray, List.set_cons_zero, List.set_cons_succ, i64_w, i32_w]
            rfl
          refine pure_ (i := 6) (N := some 33) (v := ?_) (a' := ?_) #[true, true, false, true, true, true, true, false, false, false, false, false, false, false, false, false, false] rfl rfl (by kernel_rfl) (fun _ _ _ h => h) (Or.inl ⟨by rfl, ?_⟩) ?_ ?_
          rotate_left
          · intro w2
            (go_simp; (try go_bits); with_reducible rfl)
          rotate_left
          · simp only [Act.put, List.setIfInBounds_toArray, List.set_cons_zero, List.set_cons_succ, i64_w, i32_w]
            rfl
          refine pure_ (i := 7) (N := some 34) (v := ?_) (a' := ?_) #[true, true, false, true, true, true, true, true, false, false, false, false, false, false, false, false, false] rfl rfl (by kernel_rfl) (fun _ _ _ h => h) (Or.inl ⟨by rfl, ?_⟩) ?_ ?_
          rotate_left
          · intro w2
            (go_simp; (try go_bits); with_reducible rfl)
          rotate_left
          · simp only [Act.put, List.setIfInBounds_toArray, List.set_cons_zero, List.set_cons_succ, i64_w, i32_w]
            rfl
          refine pure_ (i := 8) (N := some 35) (v := ?_) (a' := ?_) #[true, true, false, true, true, true, true, true, true, false, false, false, false, false, false, false, false] rfl rfl (by kernel_rfl) (fun _ _ _ h => h) (Or.inl ⟨by rfl, ?_⟩) ?_ ?_
          rotate_left
          · intro w2
            (go_simp; (try go_bits); with_reducible rfl)
          rotate_left
          · simp only [Act.put, List.setIfInBounds_toArray, List.set_cons_zero, List.set_cons_succ, i64_w, i32_w]
            rfl
          refine pure_ (i := 11) (N := some 38) (v := ?_) (a' := ?_) #[true, true, false, true, true, true, true, true, true, false, false, true, false, false, false, false, false] rfl rfl (by kernel_rfl) (fun _ _ _ h => h) (Or.inl ⟨by rfl, ?_⟩) ?_ ?_
          rotate_left
          · intro w2
            (go_simp; (try go_bits); with_reducible rfl)
          rotate_left
          · simp only [Act.put, List.setIfInBounds_toArray, List.set_cons_zero, List.set_cons_succ, i64_w, i32_w]
            rfl
          refine pure_ (i := 12) (N := some 39) (v := ?_) (a' := ?_) #[true, true, false, true, true, true, true, true, true, false, false, true, true, false, false, false, false] rfl rfl (by kernel_rfl) (fun _ _ _ h => h) (Or.inl ⟨by rfl, ?_⟩) ?_ ?_
          rotate_left
          · intro w2
            (go_simp; (try go_bits); with_reducible rfl)
          rotate_left
          · simp only [Act.put, List.setIfInBounds_toArray, List.set_cons_zero, List.set_cons_succ, i64_w, i32_w]
            rfl
          refine take_ (i := 2) (N := some 29) (v := ?_) (a' := ?_) #[true, true, true, true, true, true, true, true, true, false, false, true, true, false, false, false, false] rfl rfl (by kernel_rfl) (fun _ _ _ h => h) (Or.inl ⟨by rfl, ?_⟩) hHeld ?_ ?_
          rotate_left
          · intro w2 hS2
            have c1 := hS2.2.2.1.cell (31 - 8 * k - m)
            rw [arrF_get, if_pos (by omega)] at c1
            have c2 := hS2.2.2.2.2.cell k
            rw [arrF_get, if_pos (by omega), if_neg (by omega), if_pos rfl] at c2
            (go_simp; (try go_bits); with_reducible rfl)
          rotate_left
          · simp only [Act.put, List.setIfInBounds_toArray, List.set_cons_zero, List.set_cons_succ, i64_w, i32_w]
            rfl
          refine take_ (i := 9) (N := some 36) (v := ?_) (a' := ?_) #[true, true, true, true, true, true, true, true, true, true, false, true, true, false, false, false, false] rfl rfl (by kernel_rfl) (fun _ _ _ h => h) (Or.inl ⟨by rfl, ?_⟩) hHeld ?_ ?_
          rotate_left
          · intro w2 hS2
            have c1 := hS2.2.2.1.cell (31 - 8 * k - m)
            rw [arrF_get, if_pos (by omega)] at c1
            have c2 := hS2.2.2.2.2.cell k
            rw [arrF_get, if_pos (by omega), if_neg (by omega), if_pos rfl] at c2
            (go_simp; (try go_bits); with_reducible rfl)
          rotate_left
          · simp only [Act.put, List.setIfInBounds_toArray, List.set_cons_zero, List.set_cons_succ, i64_w, i32_w]
            rfl
          refine pure_ (i := 10) (N := some 37) (v := ?_) (a' := ?_) #[true, true, true, true, true, true, true, true, true, true, true, true, true, false, false, false, false] rfl rfl (by kernel_rfl) (fun _ _ _ h => h) (Or.inl ⟨by rfl, ?_⟩) ?_ ?_
          rotate_left
          · intro w2
            (go_simp; (try go_bits); with_reducible rfl)
          rotate_left
          · simp only [Act.put, List.setIfInBounds_toArray, List.set_cons_zero, List.set_cons_succ, i64_w, i32_w]
            rfl
          refine pure_ (i := 13) (N := some 40) (v := ?_) (a' := ?_) #[true, true, true, true, true, true, true, true, true, true, true, true, true, true, false, false, false] rfl rfl (by kernel_rfl) (fun _ _ _ h => h) (Or.inl ⟨by rfl, ?_⟩) ?_ ?_
          rotate_left
          · intro w2
            (go_simp; (try go_bits); with_reducible rfl)
          rotate_left
          · simp only [Act.put, List.setIfInBounds_toArray, List.set_cons_zero, List.set_cons_succ, i64_w, i32_w]
            rfl
          refine pure_ (i := 14) (N := some 41) (v := ?_) (a' := ?_) #[true, true, true, true, true, true, true, true, true, true, true, true, true, true, true, false, false] rfl rfl (by kernel_rfl) (fun _ _ _ h => h) (Or.inl ⟨by rfl, ?_⟩) ?_ ?_
          rotate_left
          · intro w2
            (go_simp; (try go_bits); with_reducible rfl)
          rotate_left
          · simp only [Act.put, List.setIfInBounds_toArray, List.set_cons_zero, List.set_cons_succ, i64_w, i32_w]
            rfl
          refine pure_ (i := 15) (N := some 42) (v := ?_) (a' := ?_) #[true, true, true, true, true, true, true, true, true, true, true, true, true, true, true, true, false] rfl rfl (by kernel_rfl) (fun _ _ _ h => h) (Or.inl ⟨by rfl, ?_⟩) ?_ ?_
          rotate_left
          · intro w2
            (go_simp; (try go_bits); with_reducible rfl)
          rotate_left
          · simp only [Act.put, List.setIfInBounds_toArray, List.set_cons_zero, List.set_cons_succ, i64_w, i32_w]
            rfl
          refine last_ (i := 16) (N := none) #[true, true, true, true, true, true, true, true, true, true, true, true, true, true, true, true, true] rfl rfl (by kernel_rfl) (by decide) (fun K hK => ?_)
          have c2 := hHeld.2.2.2.2.cell k
          rw [arrF_get, if_pos (by omega), if_neg (by omega), if_pos rfl] at c2
          have f2 := hHeld.2.2.2.2.frozen k
          go_simp
          refine hK.out _ _ ?_
          clear hK K
          refine norm_ (a' := ?_) ?_ ?_
          rotate_left
          · first | rfl | (simp only [Act.put, List.setIfInBounds_toArray, List.set_cons_zero, List.set_cons_succ, i64_w, i32_w]; rfl)
          refine done_ (by kernel_rfl) ?_
          go_wp2_with fail
          go_roundw
          case rel =>
            refine ⟨m + 1, by omega, by go_num, bel_set hHeld.1 (by simp; have := hHeld.2.2.2.1; omega) _, hHeld.2.1.far (by simp; have := hHeld.2.2.2.1; omega) _, hHeld.2.2.1.far (by simp; have := hHeld.2.2.2.1; omega) _, hHeld.2.2.2.1, (hHeld.2.2.2.2.set k _).congr ?_⟩
            rw [arrF_set]
            refine arrF_ext fun j hj => ?_
            by_cases e : j = k
            · subst e
              rw [if_pos rfl, if_neg (by omega), if_pos rfl, lowS, digL, if_pos (by omega), show 31 - (8 * j + m) = 31 - 8 * j - m by omega]
            · rw [if_neg e, if_neg e, if_neg e]
          case measure => simp [intOf]; omega
        · obtain rfl : m = 8 := by omega
          go_wp2_with fail
          go_roundw
          case rel =>
            refine ⟨k + 1, by omega, by go_num, hS.1, hS.2.1, hS.2.2.1, hS.2.2.2.1, hS.2.2.2.2.congr (arrF_ext fun j hj => ?_)⟩
            by_cases e : j = k
            · subst e
              rw [if_neg (by omega), if_pos rfl, if_pos (by omega), lowS_word]
            · by_cases e2 : j < k
              · rw [if_pos e2, if_pos (by omega)]
              · rw [if_neg e2, if_neg e, if_neg (by omega)]
                split <;> rfl
          case measure => simp [intOf]; omega
    · obtain rfl : k = 4 := by omega
      obtain ⟨hB, h0, h2, hg, h1⟩ := hS
      go_wp2_with (first | ((with_reducible refine gate_op (.load 31 (.tmp 4)) rfl ?_); refine wpl_load_blk rfl 31 (.tmp 4) rfl _ rfl _ _ _ h1 Tryz.underlying31 rfl 4 size25 (arrF_size _ _ _) ?_) | ((with_reducible refine gate_op (.store 31 (.tmp 2) (.tmp 45)) rfl ?_); refine wpl_store_blk rfl 31 (.tmp 2) (.tmp 45) rfl _ rfl _ _ _ rfl h0 4 size25 (arrF_size _ _ _) (arrF_size _ _ _) (arrF_one _ _ _) ?_; intro W2 hO hB2))
      refine ret_blk Tryz.results52 _ _ _ _ rfl hB2 Tryz.underlying31 rfl 4 size25 (arrF_size _ _ _) rfl ⟨ret_arr fun i hi => if_pos hi, Only.below hB hO (Nat.le_refl _)⟩
end Go.Proofs.YtibhijjmmagdcaaGreatDoor

/- asm.sixteen: a number to the base 16, plain facts and the walk. -/
namespace Go.Proofs.YtibhijjmmagdcaaGreatDoor
set_option linter.unusedVariables false
set_option linter.unusedSimpArgs false
open Go.RowKit Go.Proofs.YtibhijjmmagdcaaGreatDoorW.PrintWords Go.Proofs.YtibhijjmmagdcaaGreatDoorW.PrintLast
theorem limbF_U64 (n : Int) : U64 (limbF n) := fun i => by
  unfold limbF
  split
  · omega
  · split
    · omega
    · split
      · omega
      · split <;> omega
theorem limbF_val {n : Int} (h0 : 0 ≤ n) (h1 : n < M256) : wval (limbF n) = n := by
  unfold M256 at h1
  simp only [wval, limbF, if_true, if_false, show ¬ ((1 : Nat) = 0) by decide, show ¬ ((2 : Nat) = 0) by decide, show ¬ ((2 : Nat) = 1) by decide, show ¬ ((3 : Nat) = 0) by decide, show ¬ ((3 : Nat) = 1) by decide, show ¬ ((3 : Nat) = 2) by decide]
  omega
theorem wordF_limb {F : Nat → Int} (hF : U64 F) : wordF F = wordF (limbF (wval F)) := by
  have := wval_range hF
  exact wordF_eq hF (limbF_U64 _) (limbF_val this.1 this.2).symm
/-- Digits, an even number of them. -/
def evenL (d : List Int) : List Int := if d.length % 2 = 1 then 48 :: d else d
theorem evenL_len (d : List Int) : (evenL d).length % 2 = 0 := by
  unfold evenL
  split
  · rw [List.length_cons]; omega
  · omega
theorem hnum_map (l : List Int) : hnum l = (l.map hv).foldl (fun a v => 16 * a + v) 0 := by rw [hnum, List.foldl_map]
theorem hnum_zero (d : List Int) : hnum (48 :: d) = hnum d := by
  simp only [hnum, List.foldl_cons]
  rfl
theorem hnum_even (d : List Int) : hnum (evenL d) = hnum d := by
  unfold evenL
  split
  · exact hnum_zero d
  · rfl
theorem pairs_spec : ∀ l : List Int, l.length % 2 = 0 → pairs l = none ∧ l.any (fun c => decide (hv c < 0)) = true ∨ ∃ b, pairs l = some b ∧ l.any (fun c => decide (hv c < 0)) = false ∧ 2 * b.length = l.length ∧ (∀ c ∈ b, 0 ≤ c ∧ c < 256) ∧ (hexOf b).map hv = l.map hv
  | [], _ => .inr ⟨[], rfl, rfl, rfl, by simp, rfl⟩
  | [_], h => by simp at h
  | x :: y :: r, h => by
    have ih := pairs_spec r (by simp only [List.length_cons] at h; omega)
    have hx := hv_le x
    have hy := hv_le y
    rw [pairs]
    by_cases hb : hv x < 0 ∨ hv y < 0
    · rw [if_pos hb]
      exact .inl ⟨rfl, by simp only [List.any_cons, Bool.or_eq_true, decide_eq_true_eq]; rcases hb with hb | hb; exact .inl hb; exact .inr (.inl hb)⟩
    · rw [if_neg hb]
      rcases ih with ⟨h1, h2⟩ | ⟨b, h1, h2, h3, h4, h5⟩
      · exact .inl ⟨by rw [h1]; rfl, by simp [h2]⟩
      · refine .inr ⟨_, by rw [h1]; rfl, by simp [h2]; omega, by simp; omega, ?_, ?_⟩
        · intro c hc
          rcases List.mem_cons.1 hc with rfl | hc
          · omega
          · exact h4 c hc
        · rw [hexOf_cons, List.map_cons, List.map_cons, List.map_cons, List.map_cons, h5, hv_dg (by omega) (by omega), hv_dg (by omega) (by omega)]
          rw [show (16 * hv x + hv y) / 16 = hv x by omega, show (16 * hv x + hv y) % 16 = hv y by omega]
theorem low_pad (b : List Int) (h : b.length ≤ 32) : lowL (digL b) 32 = List.replicate (32 - b.length) 0 ++ b := by
  have key : ∀ n, n ≤ 32 → lowL (digL b) n = (List.replicate (32 - b.length) 0 ++ b).drop (32 - n) := by
    intro n
    induction n with
    | zero => intro _; rw [List.drop_eq_nil_of_le (by simp; omega)]; rfl
    | succ n ih =>
      intro hn
      have hlt : 32 - (n + 1) < (List.replicate (32 - b.length) 0 ++ b).length := by simp; omega
      rw [lowL, ih (by omega), List.drop_eq_getElem_cons hlt, show 32 - (n + 1) + 1 = 32 - n by omega]
      congr 1
      rw [digL, if_pos (by omega), padF]
      by_cases hp : 31 - n < 32 - b.length
      · rw [if_pos hp, List.getElem_append_left (by simpa using (by omega : 32 - (n + 1) < 32 - b.length))]
        simp
      · rw [if_neg hp, List.getElem_append_right (by simp; omega)]
        simp only [List.length_replicate]
        rw [List.getD_eq_getElem?_getD, List.getElem?_eq_getElem (by omega)]
        simp only [Option.getD_some]
        congr 1
        omega
  rw [key 32 (by omega)]
  simp
theorem hexOf_zeros (n : Nat) (b : List Int) : hnum (hexOf (List.replicate n 0 ++ b)) = hnum (hexOf b) := by
  induction n with
  | zero => simp
  | succ n ih =>
    rw [List.replicate_succ, List.cons_append, hexOf_cons]
    show hnum (48 :: 48 :: hexOf _) = _
    rw [hnum_zero, hnum_zero, ih]
theorem from_val {b : List Int} (hb : ∀ c ∈ b, 0 ≤ c ∧ c < 256) (h : b.length ≤ 32) : wval (wordD (digL b)) = hnum (hexOf b) := by
  rw [wordD_val, ← hnum_hex _ (digL_range hb), low_pad b h, hexOf_zeros]
/-- The error and the number of digits to the base 16. -/
def sixErr (d : List Int) : Int := if d = [] ∨ d.any (fun c => decide (hv c < 0)) = true then 2 else if 64 < d.length then 5 else 0
def sixVal (d : List Int) : Int := if sixErr d ≠ 0 then 0 else hnum d
theorem hnum_range {d : List Int} (h : d.any (fun c => decide (hv c < 0)) = false) : 0 ≤ hnum d ∧ hnum d < 16 ^ d.length := by
  have key : ∀ (d : List Int) (a n : Nat), (∀ c ∈ d, 0 ≤ hv c ∧ hv c ≤ 15) → ∀ x : Int, 0 ≤ x ∧ x < 16 ^ n → 0 ≤ d.foldl (fun a c => 16 * a + hv c) x ∧ d.foldl (fun a c => 16 * a + hv c) x < 16 ^ (n + d.length) := by
    intro d a
    induction d with
    | nil => intro n _ x hx; simpa using hx
    | cons c d ih =>
      intro n hd x hx
      rw [List.foldl_cons, List.length_cons, show n + (d.length + 1) = (n + 1) + d.length by omega]
      have := hd c List.mem_cons_self
      refine ih (n + 1) (fun e he => hd e (List.mem_cons_of_mem _ he)) _ ⟨by omega, ?_⟩
      rw [Int.pow_succ]
      omega
  have hd : ∀ c ∈ d, 0 ≤ hv c ∧ hv c ≤ 15 := fun c hc => by
    have := List.any_eq_false.1 h c hc
    have h2 := hv_le c
    simp only [decide_eq_true_eq] at this
    omega
  have := key d 0 0 hd 0 (by simp)
  rwa [Nat.zero_add] at this
theorem sixVal_range (d : List Int) : 0 ≤ sixVal d ∧ sixVal d < M256 := by
  unfold sixVal
  by_cases h : sixErr d ≠ 0
  · rw [if_pos h]; decide
  · rw [if_neg h]
    unfold sixErr at h
    by_cases h1 : d = [] ∨ d.any (fun c => decide (hv c < 0)) = true
    · rw [if_pos h1] at h; simp at h
    · rw [if_neg h1] at h
      by_cases h2 : 64 < d.length
      · rw [if_pos h2] at h; simp at h
      · have h3 : d.any (fun c => decide (hv c < 0)) = false := by
          cases hb : d.any (fun c => decide (hv c < 0)) with
          | false => rfl
          | true => exact absurd (.inr hb) h1
        have := hnum_range h3
        have h4 : (16 : Int) ^ d.length ≤ 16 ^ 64 := by
          have := Nat.pow_le_pow_right (show 0 < 16 by decide) (show d.length ≤ 64 by omega)
          exact_mod_cast this
        have h5 : (16 : Int) ^ 64 = M256 := by decide
        omega
theorem bytesOf_cat (a b : ByteArray) : bytesOf (a ++ b) = bytesOf a ++ bytesOf b := by
  simp [bytesOf, ByteArray.data_append]
theorem size_cat (a b : ByteArray) : (a ++ b).size = a.size + b.size := ByteArray.size_append
theorem own_slice_of {w : World} {base : Nat} {v : Value} {l : List Int} (h : OwnB w base v l) : ∃ A c, v = .slice A l.length c ∧ l.length ≤ c ∧ (Kd.int .u8).C w A l.length l := h.reads
/-- What hex.Bytes says of the digits. -/
theorem bytes_even (s t : ByteArray) (hs : s.size ≤ 100000) (ht : bytesOf t = evenL (bytesOf s)) (w : World) :
    Calls Tryz.prog 51 #[.string (⟨#[48, 120]⟩ ++ t)] w fun e w' => ∃ A c, e = .returned (.tuple #[.slice A ((pairs (evenL (bytesOf s))).getD []).length c, .int .i64 (formErr (pairs (evenL (bytesOf s))))]) ∧ ((pairs (evenL (bytesOf s))).getD []).length ≤ c ∧ (Kd.int .u8).C w' A ((pairs (evenL (bytesOf s))).getD []).length ((pairs (evenL (bytesOf s))).getD []) ∧ Below w.heap.size w w' := by
  have hb : bytesOfText (bytesOf (⟨#[48, 120]⟩ ++ t)) = pairs (evenL (bytesOf s)) := by rw [bytesOf_cat, ht]; rfl
  have hsz : (⟨#[48, 120]⟩ ++ t : ByteArray).size ≤ 1000000 := by
    have h1 := bytesOf_length t
    rw [ht] at h1
    have h2 : (evenL (bytesOf s)).length ≤ s.size + 1 := by unfold evenL; split <;> simp [bytesOf_length]
    rw [size_cat]
    show 2 + _ ≤ _
    omega
  refine (bytes_hex _ hsz w).mono ?_
  rw [hb]
  rintro e w' ⟨v, rfl, hO, hB⟩
  obtain ⟨A, c, rfl, h1, h2⟩ := own_slice_of hO
  exact ⟨A, c, rfl, h1, h2, hB⟩
set_option maxRecDepth 100000 in
theorem sixteen_any (s : ByteArray) (hs : s.size ≤ 100000) (w : World) :
    Calls Tryz.prog 22 #[.string s] w fun e w' => e = .returned (.tuple #[wordF (limbF (sixVal (bytesOf s))), .int .i64 (sixErr (bytesOf s))]) ∧ Below w.heap.size w w' := by
  obtain ⟨t, par, ht⟩ : ∃ t : ByteArray, (((s.size : Int) % 2 == 1) = true ∧ t = ⟨#[48]⟩ ++ s ∨ ((s.size : Int) % 2 == 1) = false ∧ t = s) ∧ bytesOf t = evenL (bytesOf s) := by
    unfold evenL
    rw [bytesOf_length]
    by_cases h : s.size % 2 = 1
    · exact ⟨_, .inl ⟨by rw [beq_iff_eq]; omega, rfl⟩, by rw [if_pos h, bytesOf_cat]; rfl⟩
    · exact ⟨_, .inr ⟨by rw [beq_eq_false_iff_ne]; omega, rfl⟩, by rw [if_neg h]⟩
  have tl : ¬ 9223372036854775807 < 2 + t.size := by
    have h1 := bytesOf_length t
    rw [ht] at h1
    have h2 : (evenL (bytesOf s)).length ≤ s.size + 1 := by unfold evenL; split <;> simp [bytesOf_length]
    omega
  have sl : ¬ 9223372036854775807 < 1 + s.size := by omega
  have HB := Lib.hid (bytes_even s t hs ht)
  have hz := zero25
  have hps := pairs_spec (evenL (bytesOf s)) (evenL_len _)
  have hev := hnum_even (bytesOf s)
  have hany : (evenL (bytesOf s)).any (fun c => decide (hv c < 0)) = (bytesOf s).any (fun c => decide (hv c < 0)) := by
    unfold evenL
    split
    · rw [List.any_cons]; rfl
    · rfl
  have hlen : (evenL (bytesOf s)).length ≤ s.size + 1 := by unfold evenL; split <;> simp [bytesOf_length]
  have hlen2 := evenL_len (bytesOf s)
  have hblen := bytesOf_length s
  rw [hany] at hps
  have f0 : Blk (w.alloc (.cells (arrF .u64 4 fun _ => 0) 31)) w.heap.size (arrF .u64 4 fun _ => 0) 31 := Blk.new _ _ _
  have F0 := Lib.hid f0
  clear f0
  have HOUT : Hid (∀ {W W1 : World}, Below (w.alloc (.cells (arrF .u64 4 fun _ => 0) 31)).heap.size (w.alloc (.cells (arrF .u64 4 fun _ => 0) 31)) W → Only W W1 w.heap.size → Below w.heap.size w W1) := fun hb hO => Only.below (bel_then (below_alloc (Below.refl _ _) _) hb) hO (Nat.le_refl _)
  have zl : arrF .u64 4 (limbF 0) = arrF .u64 4 fun _ => 0 := arrF_ext fun i _ => by simp [limbF]
  have ZL := Lib.hid zl
  obtain ⟨o, ho⟩ : ∃ o, o = pairs (evenL (bytesOf s)) := ⟨_, rfl⟩
  rw [← ho] at HB hps
  unfold wordF
  by_cases h0 : s.size = 0
  · have n0 : s.toList.isEmpty = true := by
      have : s = ⟨#[]⟩ := by
        cases s with | mk a => congr 1; exact Array.eq_empty_of_size_eq_zero h0
      subst this; unfold ByteArray.toList ByteArray.toList.loop; rfl
    have e1 : sixErr (bytesOf s) = 2 := if_pos (.inl (List.eq_nil_of_length_eq_zero (by omega)))
    have E1 := Lib.hid e1
    have E2 : Hid (sixVal (bytesOf s) = 0) := if_pos (by rw [e1]; decide)
    rw [E1.out, E2.out, ZL.out]
    clear e1 hps ho hev hany hlen hlen2 hblen zl ht h0
    rcases par with ⟨h1, rfl⟩ | ⟨h1, rfl⟩
    all_goals
      go_enter Tryz.func22, Tryz.ntmps22
      go_wp2_with (first | (go_at_call 51; refine (HB.out _).mono ?_; rintro e w1 ⟨A1, c1, rfl, hc1, hr1, hb1⟩) | ((with_reducible refine gate_op (.store 31 (.tmp 2) (.tmp 27)) rfl ?_); refine wpl_store_blk rfl 31 (.tmp 2) (.tmp 27) rfl _ rfl _ _ _ rfl (F0.out.below hb1) 4 size25 (arrF_size _ _ _) (arrF_size _ _ _) (arrF_one _ _ _) ?_; intro W2 hO hB))
      refine ret_blk2 Tryz.results22 _ _ _ _ rfl hB Tryz.underlying31 rfl 4 size25 (arrF_size _ _ _) rfl ⟨rfl, HOUT.out hb1 hO⟩
  have n0 := toList_ne (Nat.pos_of_ne_zero h0)
  have hne : bytesOf s ≠ [] := fun e => h0 (by rw [← hblen, e]; rfl)
  rcases hps with ⟨hp1, hp2⟩ | ⟨b, hp1, hp2, hp3, hp4, hp5⟩
  · have e1 : sixErr (bytesOf s) = 2 := if_pos (.inr hp2)
    have E1 := Lib.hid e1
    have E2 : Hid (sixVal (bytesOf s) = 0) := if_pos (by rw [e1]; decide)
    rw [E1.out, E2.out, ZL.out]
    subst hp1
    clear e1 ho hev hany hlen hlen2 hblen zl ht h0 hp2 hne
    rcases par with ⟨h1, rfl⟩ | ⟨h1, rfl⟩
    all_goals
      go_enter Tryz.func22, Tryz.ntmps22
      go_wp2_with (first | (go_at_call 51; refine (HB.out _).mono ?_; rintro e w1 ⟨A1, c1, rfl, hc1, hr1, hb1⟩; simp only [formErr]) | ((with_reducible refine gate_op (.store 31 (.tmp 2) (.tmp 27)) rfl ?_); refine wpl_store_blk rfl 31 (.tmp 2) (.tmp 27) rfl _ rfl _ _ _ rfl (F0.out.below hb1) 4 size25 (arrF_size _ _ _) (arrF_size _ _ _) (arrF_one _ _ _) ?_; intro W2 hO hB))
      refine ret_blk2 Tryz.results22 _ _ _ _ rfl hB Tryz.underlying31 rfl 4 size25 (arrF_size _ _ _) rfl ⟨rfl, HOUT.out hb1 hO⟩
  have hor : ¬ (bytesOf s = [] ∨ (bytesOf s).any (fun c => decide (hv c < 0)) = true) := by
    rintro (h | h)
    · exact hne h
    · rw [hp2] at h; cases h
  by_cases h64 : 64 < s.size
  · have e1 : sixErr (bytesOf s) = 5 := by rw [sixErr, if_neg hor, if_pos (by omega)]
    have E1 := Lib.hid e1
    have E2 : Hid (sixVal (bytesOf s) = 0) := if_pos (by rw [e1]; decide)
    have q1 : (64 : Int) < (s.size : Int) := by omega
    rw [E1.out, E2.out, ZL.out]
    subst hp1
    clear e1 ho hev hany hlen hlen2 hblen zl ht h0 hp2 hne hor hp3 hp4 hp5 h64
    rcases par with ⟨h1, rfl⟩ | ⟨h1, rfl⟩
    all_goals
      go_enter Tryz.func22, Tryz.ntmps22
      go_wp2_with (first | (go_at_call 51; refine (HB.out _).mono ?_; rintro e w1 ⟨A1, c1, rfl, hc1, hr1, hb1⟩; simp only [formErr]) | ((with_reducible refine gate_op (.store 31 (.tmp 2) (.tmp 32)) rfl ?_); refine wpl_store_blk rfl 31 (.tmp 2) (.tmp 32) rfl _ rfl _ _ _ rfl (F0.out.below hb1) 4 size25 (arrF_size _ _ _) (arrF_size _ _ _) (arrF_one _ _ _) ?_; intro W2 hO hB))
      refine ret_blk2 Tryz.results22 _ _ _ _ rfl hB Tryz.underlying31 rfl 4 size25 (arrF_size _ _ _) rfl ⟨rfl, HOUT.out hb1 hO⟩
  · have e1 : sixErr (bytesOf s) = 0 := by rw [sixErr, if_neg hor, if_neg (by omega)]
    have hb32 : b.length ≤ 32 := by omega
    have e2 : sixVal (bytesOf s) = hnum (bytesOf s) := if_neg (by rw [e1]; decide)
    have e3 : wval (wordD (digL b)) = sixVal (bytesOf s) := by rw [from_val hp4 hb32, e2, hnum_map, hp5, ← hnum_map, hev]
    have e4 : wordF (wordD (digL b)) = wordF (limbF (sixVal (bytesOf s))) := by rw [wordF_limb (wordD_range (digL_range hp4)), e3]
    have E1 := Lib.hid e1
    have E4 := Lib.hid e4
    have q1 : ¬ (64 : Int) < (s.size : Int) := by omega
    have HFR : Hid (∀ (W : World) (A : Option Addr) (c : Nat), (Kd.int .u8).C W A b.length b → b.length ≤ c → Calls Tryz.prog 52 #[.slice A b.length c] W fun e w' => e = .returned (wordF (limbF (sixVal (bytesOf s)))) ∧ Below W.heap.size W w') := fun W A c hr hc => by
      have := from_any A c b W hr hc hp4 hb32
      rw [e4] at this
      exact this
    rw [E1.out]
    subst hp1
    clear e1 e2 e3 e4 ho hev hany hlen hlen2 hblen zl ht h0 hp2 hne hor hp3 hp4 hp5 h64 hb32
    unfold wordF at HFR
    rcases par with ⟨h1, rfl⟩ | ⟨h1, rfl⟩
    all_goals
      go_enter Tryz.func22, Tryz.ntmps22
      go_wp2_with (first | (go_at_call 51; refine (HB.out _).mono ?_; rintro e w1 ⟨A1, c1, rfl, hc1, hr1, hb1⟩; simp only [formErr, Option.getD_some] at hc1 hr1 ⊢) | (go_at_call 52; refine (HFR.out _ _ _ hr1 hc1).mono ?_; rintro e w2 ⟨rfl, hb2⟩) | ((with_reducible refine gate_op (.store 31 (.tmp 2) (.tmp 34)) rfl ?_); refine wpl_store_blk rfl 31 (.tmp 2) (.tmp 34) rfl _ rfl _ _ _ rfl ((F0.out.below hb1).below hb2) 4 size25 (arrF_size _ _ _) (arrF_size _ _ _) (arrF_one _ _ _) ?_; intro W2 hO hB))
      refine ret_blk2 Tryz.results22 _ _ _ _ rfl hB Tryz.underlying31 rfl 4 size25 (arrF_size _ _ _) rfl ⟨rfl, HOUT.out (bel_then hb1 hb2) hO⟩
end Go.Proofs.YtibhijjmmagdcaaGreatDoor
