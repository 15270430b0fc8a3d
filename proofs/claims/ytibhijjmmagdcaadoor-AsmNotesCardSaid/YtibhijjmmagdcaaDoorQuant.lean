/- hex.Quantity and smithyref04.Quantity: how a quantity is written. -/
import Derived.Test.YtibhijjmmagdcaaDoorRefText
import Derived.Test.YtibhijjmmagdcaaDoorRefHex
import Derived.Test.YtibhijjmmagdcaaDoorQuantPlain
namespace Go.Proofs.YtibhijjmmagdcaaDoor
set_option linter.unusedVariables false
set_option linter.unusedSimpArgs false
open Go.RowKit Go.Proofs.YtibhijjmmagdcaaDoorW.PrintWords Go.Proofs.YtibhijjmmagdcaaDoorW.PrintLast
theorem arr_reads {W : World} {g n t : Nat} {k : IntKind} {f : Nat → Int} (h : Blk W g (arrF k n f) t) (hn : n ≤ 9223372036854775807) : (Kd.int k).C W (some ⟨g, 0, none⟩) n ((List.range n).map f) :=
  Kd.C_of_reads (d := (0 : Int)) ⟨by simp, hn, fun _ => ⟨_, rfl, fun j hj => by rw [add_plain, h.cell, arrF_get, if_pos hj]; simp [List.getD, hj]⟩⟩
theorem map_bytes {f : Nat → Int} (h : U8 f) (n : Nat) : ∀ c ∈ (List.range n).map f, 0 ≤ c ∧ c < 256 := by
  intro c hc
  obtain ⟨i, _, rfl⟩ := List.mem_map.1 hc
  exact h i
theorem text_arr {W : World} {g n t : Nat} {f : Nat → Int} (h : Blk W g (arrF .u8 n f) t) (hf : U8 f) (hn : n ≤ 1000000) :
    Calls Tryd.prog 12 #[.slice (some ⟨g, 0, none⟩) n n] W fun e w' => e = .returned (.string (strOfNums (textL ((List.range n).map f)))) ∧ Below W.heap.size W w' := by
  have ht := text_hex (some ⟨g, 0, none⟩) n ((List.range n).map f) W (by rw [List.length_map, List.length_range]; exact arr_reads h (by omega)) (by simp) (map_bytes hf n) (by simpa using hn)
  rw [List.length_map, List.length_range] at ht
  exact ht
theorem text_drop (l : List Int) : (strOfNums (textL l)).extract 2 (strOfNums (textL l)).size = strOfNums (hexOf l) := by
  rw [show textL l = [48, 120] ++ hexOf l from rfl, strOfNums_app]
  exact ByteArray.extract_append_eq_right (by rfl) (by simp)
theorem strOfNums_data (l : List Int) : (strOfNums l).data.toList = l.map fun n => UInt8.ofNat n.toNat := by simp [strOfNums]
theorem trim_nums {l : List Int} (h : ∀ c ∈ l, 0 ≤ c ∧ c < 256) : (⟨(Lib.trimLeftB (strOfNums l).data.toList 48).toArray⟩ : ByteArray) = strOfNums (l.dropWhile fun c => decide (c = 48)) := by
  rw [strOfNums_data, strOfNums, Lib.trimLeftB]
  congr 2
  induction l with
  | nil => rfl
  | cons a l ih =>
    have ha := h a (by simp)
    have ih := ih fun c hc => h c (by simp [hc])
    rw [List.map_cons, List.dropWhile_cons, List.dropWhile_cons]
    by_cases e : a = 48
    · subst e
      rw [if_pos (by rfl), if_pos (by simp)]
      exact ih
    · rw [if_neg, if_neg (by simpa using e)]
      · rfl
      · simp only [beq_iff_eq]
        intro e2
        have := congrArg UInt8.toNat e2
        simp at this
        omega
theorem size_u64 (w : World) : (sizeOf 23).run Tryd.prog w = .ok 1 w := by kernel_rfl
theorem eql25 (f g : Nat → Int) (w : World) : (Op.equalIn 10000 25 (.agg (arrF .u64 4 f)) (.agg (arrF .u64 4 g))).run Tryd.prog w = .ok (eqN 4 f g) w :=
  run_equalIn_arrF w 9998 _ 23 4 .u64 Tryd.underlying25 Tryd.underlying23 size_u64 f g
theorem eql25z (f : Nat → Int) (w : World) : (Op.equalIn 10000 25 (.agg (arrF .u64 4 f)) (.agg #[.int .u64 0, .int .u64 0, .int .u64 0, .int .u64 0])).run Tryd.prog w = .ok (eqN 4 f fun _ => 0) w := eql25 f (fun _ => 0) w
set_option maxRecDepth 100000 in
theorem quantity_hex (f : Nat → Int) (w : World) (hf : U64 f) :
    Calls Tryd.prog 13 #[wordF f] w fun e w' => e = .returned (.string (strOfNums (quantL f))) ∧ Below w.heap.size w w' := by
  have HF := Lib.hid hf
  clear hf
  have he := eql25z f
  have hzz := zero59
  unfold wordF
  cases hz : eqN 4 f fun _ => 0
  · have HZ := Lib.hid hz
    obtain ⟨s, hs⟩ : ∃ s, s = strOfNums (textL (byteL f)) := ⟨_, rfl⟩
    have hT : Hid (∀ (W : World) (g t : Nat), Blk W g (arrF .u8 32 (byteF f)) t → Calls Tryd.prog 12 #[.slice (some ⟨g, 0, none⟩) 32 32] W fun e w' => e = .returned (.string s) ∧ Below W.heap.size W w') := fun W g t h => by
      rw [hs]; exact text_arr h (fun _ => by unfold byteF; omega) (by omega)
    have hd : s.extract 2 s.size = strOfNums (hexOf (byteL f)) := by rw [hs]; exact text_drop _
    have hn : s.size = 66 := by rw [hs, strOfNums_size, textL, List.length_cons, List.length_cons, hexOf_length, byteL_length]
    clear hs
    rw [hn] at hd
    obtain ⟨t, hq⟩ : ∃ t, t = strOfNums (strip1 (hexOf (byteL f))) := ⟨_, rfl⟩
    have HQ := Lib.hid hq
    have HR : Hid (∀ W, Calls Tryd.prog 31 #[.string (s.extract 2 66), .string ⟨#[48]⟩] W fun e w' => e = .returned (.string t) ∧ w' = W) := fun W => by
      have h := Tryd.strings_TrimLeft_one (s.extract 2 66) 48 (by decide) W
      have hne : wval f ≠ 0 := fun e => by
        have := eqN_iff.2 (wval_zero HF.out e)
        rw [HZ.out] at this
        cases this
      rw [hd, trim_nums (hexOf_byte (byteL_byte f)), ← strip1_drop (hex_nonzero HF.out hne), ← hq] at h
      rw [hd]
      exact h
    have hl := strip1_len (hexOf (byteL f))
    rw [hexOf_length, byteL_length] at hl
    have ht : t.size ≤ 64 := by rw [hq, strOfNums_size]; exact hl
    have ht2 : ¬ 9223372036854775807 < 2 + t.size := by omega
    clear hq hd hl
    have hn2 : (2 : Int) ≤ s.size := by omega
    rw [hz] at he
    clear hz
    go_enter Tryd.func13, Tryd.ntmps13
    go_wp2_with (first | ((with_reducible refine gate_op (.load 25 (.tmp 1)) rfl ?_); refine wpl_load_blk rfl 25 (.tmp 1) rfl _ rfl _ _ _ (Blk.new _ _ _) Tryd.underlying25 rfl 4 size25 (arrF_size _ _ _) ?_) | (go_at_call 30; refine (bytes_any f _ HF.out).mono ?_; rintro e w1 ⟨rfl, hb⟩) | ((with_reducible refine gate_op (.store 59 (.tmp 3) (.tmp 9)) rfl ?_); refine wpl_store_blk rfl 59 (.tmp 3) (.tmp 9) rfl _ rfl _ _ _ rfl (Blk.new _ _ _) 32 size59 (arrF_size _ _ _) (arrF_size _ _ _) (arrF_one _ _ _) ?_; intro W hO hB))
    refine (hT.out W _ _ hB).mono ?_
    rintro e w2 ⟨rfl, hb2⟩
    go_wp2_with (go_at_call 31; refine (HR.out _).mono ?_; rintro e w3 ⟨rfl, rfl⟩)
    go_ret
    refine ⟨?_, ?_⟩
    · rw [HQ.out, quantL, show (48 :: 120 :: strip1 (hexOf (byteL f)) : List Int) = [48, 120] ++ strip1 (hexOf (byteL f)) from rfl, strOfNums_app]
      rfl
    · exact bel_then (Only.below (bel_then (bel_then (below_alloc (Below.refl _ _) _) hb) (below_alloc (Below.refl _ _) _)) hO (by have := hb.size; simp at this; omega)) hb2
  · have HZ := Lib.hid hz
    rw [hz] at he
    clear hz
    go_enter Tryd.func13, Tryd.ntmps13
    go_wp2_with ((with_reducible refine gate_op (.load 25 (.tmp 1)) rfl ?_); refine wpl_load_blk rfl 25 (.tmp 1) rfl _ rfl _ _ _ (Blk.new _ _ _) Tryd.underlying25 rfl 4 size25 (arrF_size _ _ _) ?_)
    go_ret
    refine ⟨?_, by repeat (first | exact Below.refl _ _ | assumption | refine below_alloc ?_ _ | refine bel_drewN ?_ _ | refine bel_drew ?_ | refine bel_set ?_ (by simp) _)⟩
    rw [quant_zero (eqN_iff.1 HZ.out)]
    rfl
end Go.Proofs.YtibhijjmmagdcaaDoor
