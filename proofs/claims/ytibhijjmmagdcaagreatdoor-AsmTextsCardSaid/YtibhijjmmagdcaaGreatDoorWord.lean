/- Words of 256 bits (package word): what its functions come to, by parts of 64 bits. -/
import Derived.Test.YtibhijjmmagdcaaGreatDoorRef01
namespace Go.Proofs.YtibhijjmmagdcaaGreatDoor
set_option linter.unusedVariables false
set_option linter.unusedSimpArgs false
open Go.RowKit Go.Proofs.YtibhijjmmagdcaaGreatDoorW.PrintWords Go.Proofs.YtibhijjmmagdcaaGreatDoorW.PrintLast
def partF (f : Nat → Int) (i : Int) : Int := if 0 ≤ i ∧ i ≤ 3 then f i.toNat else 0
theorem of_any (n : Int) (w : World) :
    Calls Tryz.prog 25 #[.int .u64 n] w fun e w' => e = .returned (wordF fun i => if i = 0 then n else 0) ∧ Below w.heap.size w w' := by
  go_enter Tryz.func25, Tryz.ntmps25
  go_wp2
  exact bodyPost_ret (v := wordF fun i => if i = 0 then n else 0) (by simp [results, Tryz.results25, go_sem, wordF]; rfl) rfl ⟨rfl, by repeat (first | exact Below.refl _ _ | assumption | refine below_alloc ?_ _ | refine bel_drewN ?_ _ | refine bel_drew ?_ | refine bel_set ?_ (by simp) _)⟩
theorem u64_part (f : Nat → Int) (hf : ∀ i, 0 ≤ f i ∧ f i < 18446744073709551616) (i : Int) : 0 ≤ partF f i ∧ partF f i < 18446744073709551616 := by
  unfold partF
  have := hf i.toNat
  split <;> omega
/-- What a part of a word shifted up by four is. -/
def shl4F (f : Nat → Int) (i : Nat) : Int := bits .or .u64 (IntKind.u64.wrap (partF f i * 16)) (partF f ((i : Int) - 1) / 1152921504606846976)
def ShlS (w : World) (f : Nat → Int) (k : Nat) (W : World) : Prop :=
  Below w.heap.size w W ∧ Blk W w.heap.size (arrF .u64 4 f) 31 ∧ Blk W (w.heap.size + 1) (arrF .u64 4 fun _ => 0) 31 ∧ Blk W (w.heap.size + 1 + 1) (arrF .u64 4 fun i => if i < k then shl4F f i else 0) 31
theorem ShlS.below {w W W1 : World} {f : Nat → Int} {k : Nat} (h : ShlS w f k W) (hb : Below W.heap.size W W1) : ShlS w f k W1 := ⟨bel_then h.1 hb, h.2.1.below hb, h.2.2.1.below hb, h.2.2.2.below hb⟩
theorem size59 : (Tryz.prog.info? 121).map (·.size) = some 32 := by kernel_rfl
theorem zero59 (w : World) : (zeroValue 121).run Tryz.prog w = .ok (.agg (arrF .u8 32 fun _ => 0)) w := by kernel_rfl
/-- The byte at place p of a word's 32, the highest first. -/
def byteF (f : Nat → Int) (p : Nat) : Int := f ((31 - p) / 8) / 2 ^ (8 * ((31 - p) % 8)) % 256
def BytesS (w : World) (f : Nat → Int) (n : Nat) (W : World) : Prop :=
  Below w.heap.size w W ∧ Blk W w.heap.size (arrF .u64 4 f) 31 ∧ Blk W (w.heap.size + 1) (arrF .u8 32 fun _ => 0) 121 ∧ Blk W (w.heap.size + 1 + 1) (arrF .u8 32 fun p => if 31 - p < n then byteF f p else 0) 121
theorem bytes_any (f : Nat → Int) (w : World) (hf : ∀ i, 0 ≤ f i ∧ f i < 18446744073709551616) :
    Calls Tryz.prog 91 #[wordF f] w fun e w' => e = .returned (.agg (arrF .u8 32 (byteF f))) ∧ Below w.heap.size w w' := by
  have HF := Lib.hid hf
  clear hf
  have hz := zero59
  unfold wordF
  go_enter Tryz.func91, Tryz.ntmps91
  go_wp2_with ((with_reducible refine gate_op (.load 31 (.tmp 1)) rfl ?_); refine wpl_load_blk rfl 31 (.tmp 1) rfl _ rfl _ _ _ (((Blk.new _ _ _).alloc _).alloc _) Tryz.underlying31 rfl 4 size25 (arrF_size _ _ _) ?_)
  refine wp_any_world (BytesS w f 0) ⟨by repeat (first | exact Below.refl _ _ | assumption | refine below_alloc ?_ _ | refine bel_drewN ?_ _ | refine bel_drew ?_ | refine bel_set ?_ (by simp) _), (((Blk.new _ _ _).alloc _).alloc _), ((Blk.new' _ _ _ (by simp)).alloc _), (Blk.new' _ _ _ (by simp)).congr (arrF_ext fun i _ => by rw [if_neg (by omega)])⟩ ?_
  intro W hS
  go_loopw [8] (fun i wr => ∃ k : Nat, k ≤ 4 ∧ i = .int .i64 k ∧ BytesS w f (8 * k) wr) (fun i _ => 4 - (intOf i).toNat)
  case atStart => exact ⟨0, by omega, rfl, hS⟩
  case round =>
    clear hS
    obtain ⟨k, hk, rfl, hS⟩ := hrel
    by_cases hlt : k < 4
    · have hidx : ∀ W : World, (Instr.index 31 (.agg (arrF .u64 4 f)) (.int .i64 k)).run Tryz.prog W = .ok (.int .u64 (f k)) W := by
        intro W
        obtain rfl | rfl | rfl | rfl : k = 0 ∨ k = 1 ∨ k = 2 ∨ k = 3 := by omega
        all_goals kernel_rfl
      go_wp2_with fail
      obtain ⟨wo, rfl⟩ : ∃ wo : World, wo = wr := ⟨_, rfl⟩
      go_loopw [6, 12] (fun _ i wr => ∃ m : Nat, m ≤ 8 ∧ i = .int .i64 m ∧ BytesS w f (8 * k + m) wr) (fun _ i _ => 8 - (intOf i).toNat)
      case atStart => exact ⟨0, by omega, rfl, hS⟩
      case round =>
        clear hS
        obtain ⟨m, hm, rfl, hS⟩ := hrel
        by_cases hlm : m < 8
        · obtain ⟨hB, h0, h2, h1⟩ := hS
          have c1 := h1.cell (31 - 8 * k - m)
          rw [arrF_get, if_pos (by omega)] at c1
          have f1 := h1.frozen (31 - 8 * k - m)
          have p0 : (0 : Int) ≤ 31 - 8 * (k : Int) - (m : Int) := by omega
          have p1 : 31 - 8 * (k : Int) - (m : Int) < 32 := by omega
          go_wp2_with fail
          go_roundw
          case rel =>
            refine ⟨m + 1, by omega, by go_num, bel_set hB (by simp; omega) _, h0.far (by simp; omega) _, h2.far (by simp) _, ?_⟩
            refine (h1.set (31 - 8 * k - m) _).congr ?_
            rw [arrF_set]
            refine arrF_ext fun j hj => ?_
            by_cases e : j = 31 - 8 * k - m
            · subst e
              rw [if_pos rfl, if_pos (by omega), byteF, show (31 - (31 - 8 * k - m)) / 8 = k by omega, show (31 - (31 - 8 * k - m)) % 8 = m by omega]
            · rw [if_neg e]
              by_cases l : 31 - j < 8 * k + m
              · rw [if_pos l, if_pos (by omega)]
              · rw [if_neg l, if_neg (by omega)]
          case measure => simp [intOf]; omega
        · obtain rfl : m = 8 := by omega
          go_wp2_with fail
          go_roundw
          case rel => exact ⟨k + 1, by omega, by go_num, hS⟩
          case measure => simp [intOf]; omega
    · obtain rfl : k = 4 := by omega
      obtain ⟨hB, h0, h2, h1⟩ := hS
      go_wp2_with (first | ((with_reducible refine gate_op (.load 121 (.tmp 3)) rfl ?_); refine wpl_load_blk rfl 121 (.tmp 3) rfl _ rfl _ _ _ h1 Tryz.underlying121 rfl 32 size59 (arrF_size _ _ _) ?_) | ((with_reducible refine gate_op (.store 121 (.tmp 2) (.tmp 28)) rfl ?_); refine wpl_store_blk rfl 121 (.tmp 2) (.tmp 28) rfl _ rfl _ _ _ rfl h2 32 size59 (arrF_size _ _ _) (arrF_size _ _ _) (arrF_one _ _ _) ?_; intro W2 hO hB2))
      refine ret_blk Tryz.results91 _ _ _ _ rfl hB2 Tryz.underlying121 rfl 32 size59 (arrF_size _ _ _) rfl ⟨ret_arr fun i hi => if_pos (by omega), Only.below hB hO (by omega)⟩
end Go.Proofs.YtibhijjmmagdcaaGreatDoor
