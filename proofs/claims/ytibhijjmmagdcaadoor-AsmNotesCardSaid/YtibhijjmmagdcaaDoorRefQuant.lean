/- smithyref04.Quantity. -/
import Derived.Test.YtibhijjmmagdcaaDoorQuant
import Derived.Test.YtibhijjmmagdcaaDoorHexWord
namespace Go.Proofs.YtibhijjmmagdcaaDoor
set_option linter.unusedVariables false
set_option linter.unusedSimpArgs false
open Go.RowKit Go.Proofs.YtibhijjmmagdcaaDoorW.PrintWords Go.Proofs.YtibhijjmmagdcaaDoorW.PrintLast
def strSize : Value → Nat
  | .string s => s.size
  | _ => 0
theorem bytesOf_extract (s : ByteArray) (i : Nat) : bytesOf (s.extract i s.size) = (bytesOf s).drop i := by
  simp only [bytesOf, ByteArray.data_extract, Array.toList_extract, List.extract_eq_take_drop]
  rw [List.take_of_length_le (by simp), List.map_drop]
theorem strip1_step {s : ByteArray} (h : 1 < s.size) (h0 : bt s 0 = 48) : strip1 (bytesOf (s.extract 1 s.size)) = strip1 (bytesOf s) := by
  rw [bytesOf_extract]
  have e1 := bytesOf_drop s 0 (by omega)
  have e2 := bytesOf_drop s 1 h
  rw [List.drop_zero] at e1
  rw [Nat.zero_add, show ((0 : Nat) : Int) = 0 from rfl, h0] at e1
  rw [e1, e2, strip1, if_pos rfl]
  rfl
theorem strip1_done {s : ByteArray} (h : 0 < s.size) (h0 : ¬ (1 < s.size ∧ bt s 0 = 48)) : strip1 (bytesOf s) = bytesOf s := by
  have e1 := bytesOf_drop s 0 h
  rw [List.drop_zero, Nat.zero_add, show ((0 : Nat) : Int) = 0 from rfl] at e1
  by_cases h1 : 1 < s.size
  · have e2 := bytesOf_drop s 1 h1
    rw [e1, e2, strip1, if_neg fun e => h0 ⟨h1, e⟩]
  · have : (bytesOf s).drop 1 = [] := List.drop_eq_nil_of_le (by rw [bytesOf_length]; omega)
    rw [e1, this]
    rfl
theorem quant_str {f : Nat → Int} {s : ByteArray} (h : strip1 (bytesOf s) = strip1 (hexOf (byteL f))) (h1 : strip1 (bytesOf s) = bytesOf s) : strOfNums (quantL f) = strOfNums [48, 120] ++ s := by
  rw [quantL, ← h, h1, show (48 :: 120 :: bytesOf s : List Int) = [48, 120] ++ bytesOf s from rfl, strOfNums_app, strOfNums_bytesOf]
def RQS (w : World) (f : Nat → Int) (W : World) : Prop := Below w.heap.size w W ∧ ∃ g, Blk W g (arrF .i64 32 (ofD f)) 70
set_option maxRecDepth 100000 in
theorem quantity_ref (f : Nat → Int) (w : World) (hf : U64 f) :
    Calls Tryd.prog 17 #[wordF f] w fun e w' => e = .returned (.string (strOfNums (quantL f))) ∧ Below w.heap.size w w' := by
  have HF := Lib.hid hf
  have HD := Lib.hid (ofD_range f)
  clear hf
  have hz := zero70
  have hO1 := fun W => of_digits f W HF.out
  have HO1 := Lib.hid hO1
  clear hO1
  unfold wordF digV at HO1
  unfold wordF
  go_enter Tryd.func17, Tryd.ntmps17
  go_wp2_with (first | ((with_reducible refine gate_op (.load 25 (.tmp 1)) rfl ?_); refine wpl_load_blk rfl 25 (.tmp 1) rfl _ rfl _ _ _ (Blk.new _ _ _) Tryd.underlying25 rfl 4 size25 (arrF_size _ _ _) ?_) | (go_at_call 38; refine (HO1.out _).mono ?_; rintro e w1 ⟨rfl, hb⟩) | ((with_reducible refine gate_op (.store 70 (.tmp 3) (.tmp 7)) rfl ?_); refine wpl_store_blk rfl 70 (.tmp 3) (.tmp 7) rfl _ rfl _ _ _ rfl (Blk.new _ _ _) 32 size70 (arrF_size _ _ _) (arrF_size _ _ _) (arrF_one _ _ _) ?_; intro W hO hB))
  obtain ⟨g, hg⟩ : ∃ g, g = w1.heap.size := ⟨_, rfl⟩
  have hS0 : Below w.heap.size w W ∧ Blk W g (arrF .i64 32 (ofD f)) 70 := ⟨by
    refine Only.below (bel_then (bel_then (below_alloc (Below.refl _ _) _) hb) (below_alloc (Below.refl _ _) _)) hO (by have := hb.size; simp at this; omega), hg ▸ hB⟩
  rw [← hg]
  clear hO hB hb hg
  go_loopw [4, 5] (fun v i wr => ∃ k : Nat, k ≤ 32 ∧ i = .int .i64 k ∧ v = .string (strOfNums (hexOf (lowL (ofD f) k))) ∧ Below w.heap.size w wr ∧ Blk wr g (arrF .i64 32 (ofD f)) 70) (fun _ i _ => 32 - (intOf i).toNat)
  case atStart => exact ⟨0, by omega, rfl, rfl, hS0⟩
  case round =>
    clear hS0
    obtain ⟨k, hk, rfl, rfl, hS⟩ := hrel
    by_cases hlt : k < 32
    · have p0 : (0 : Int) ≤ (k : Int) := by omega
      have p1 : (k : Int) < 32 := by omega
      have hc := hS.2.cell k
      rw [arrF_get, if_pos hlt] at hc
      have hr := HD.out k
      have HL : Hid (lowL (ofD f) (k + 1) = ofD f k :: lowL (ofD f) k) := rfl
      obtain ⟨e, he⟩ : ∃ e, ofD f k = e := ⟨_, rfl⟩
      rw [he] at hr HL hc
      have HC := Lib.hid hc
      clear he hc
      have hn : (strOfNums (hexOf (lowL (ofD f) k))).size ≤ 64 := by rw [strOfNums_size, hexOf_length, lowL_length]; omega
      obtain ⟨s, hs⟩ : ∃ s, s = strOfNums (hexOf (lowL (ofD f) k)) := ⟨_, rfl⟩
      have HS := Lib.hid hs
      rw [← hs] at hn ⊢
      clear hs
      have q0 : 0 ≤ e / 16 := by omega
      have q1 : e / 16 < 16 := by omega
      have q2 : 0 ≤ e % 16 := by omega
      have q3 : e % 16 < 16 := by omega
      go_wp2_with fail
      refine start_ (n := 14) (S := fun W => Below w.heap.size w W ∧ Blk W g (arrF .i64 32 (ofD f)) 70 ∧ W.cell? ⟨g, k, none⟩ = some (.int .i64 e)) (ds := []) #[false, false, false, false, false, false, false, false, false, false, false, false, false, false] (by kernel_rfl) rfl rfl ⟨bel_drew hS.1, hS.2.drew, HC.out⟩ (fun hHeld => ?_)
      refine gen_last hHeld ?_
      clear hHeld
      intro wd hHeld
      refine pure_ (i := 0) (N := some 12) (v := ?_) (a' := ?_) #[true, false, false, false, false, false, false, false, false, false, false, false, false, false] rfl rfl (by kernel_rfl) (fun _ _ _ h => h) (Or.inl ⟨by rfl, ?_⟩) ?_ ?_
      rotate_left
      · intro w2
        (go_simp; (try go_bits); with_reducible rfl)
      rotate_left
      · simp only [Act.put, List.setIfInBounds_toArray, List.set_cons_zero, List.set_cons_succ, i64_w, i32_w]
        rfl
      refine pure_ (i := 1) (N := some 13) (v := ?_) (a' := ?_) #[true, true, false, false, false, false, false, false, false, false, false, false, false, false] rfl rfl (by kernel_rfl) (fun _ _ _ h => h) (Or.inl ⟨by rfl, ?_⟩) ?_ ?_
      rotate_left
      · intro w2
        (go_simp; (try go_bits); with_reducible rfl)
      rotate_left
      · simp only [Act.put, List.setIfInBounds_toArray, List.set_cons_zero, List.set_cons_succ, i64_w, i32_w]
        rfl
      refine pure_ (i := 5) (N := some 17) (v := ?_) (a' := ?_) #[true, true, false, false, false, true, false, false, false, false, false, false, false, false] rfl rfl (by kernel_rfl) (fun _ _ _ h => h) (Or.inl ⟨by rfl, ?_⟩) ?_ ?_
      rotate_left
      · intro w2
        (go_simp; (try go_bits); with_reducible rfl)
      rotate_left
      · simp only [Act.put, List.setIfInBounds_toArray, List.set_cons_zero, List.set_cons_succ, i64_w, i32_w]
        rfl
      refine pure_ (i := 6) (N := some 18) (v := ?_) (a' := ?_) #[true, true, false, false, false, true, true, false, false, false, false, false, false, false] rfl rfl (by kernel_rfl) (fun _ _ _ h => h) (Or.inl ⟨by rfl, ?_⟩) ?_ ?_
      rotate_left
      · intro w2
        (go_simp; (try go_bits); with_reducible rfl)
      rotate_left
      · simp only [Act.put, List.setIfInBounds_toArray, List.set_cons_zero, List.set_cons_succ, i64_w, i32_w]
        rfl
      refine pure_ (i := 11) (N := some 23) (v := ?_) (a' := ?_) #[true, true, false, false, false, true, true, false, false, false, false, true, false, false] rfl rfl (by kernel_rfl) (fun _ _ _ h => h) (Or.inl ⟨by rfl, ?_⟩) ?_ ?_
      rotate_left
      · intro w2
        (go_simp; (try go_bits); with_reducible rfl)
      rotate_left
      · simp only [Act.put, List.setIfInBounds_toArray, List.set_cons_zero, List.set_cons_succ, i64_w, i32_w]
        rfl
      refine take_ (i := 2) (N := some 14) (v := ?_) (a' := ?_) #[true, true, true, false, false, true, true, false, false, false, false, true, false, false] rfl rfl (by kernel_rfl) (fun _ _ _ h => h) (Or.inl ⟨by rfl, ?_⟩) hHeld ?_ ?_
      rotate_left
      · intro w2 hS2
        have hc2 := hS2.2.2
        (go_simp; (try go_bits); with_reducible rfl)
      rotate_left
      · simp only [Act.put, List.setIfInBounds_toArray, List.set_cons_zero, List.set_cons_succ, i64_w, i32_w]
        rfl
      refine pure_ (i := 3) (N := some 15) (v := ?_) (a' := ?_) #[true, true, true, true, false, true, true, false, false, false, false, true, false, false] rfl rfl (by kernel_rfl) (fun _ _ _ h => h) (Or.inl ⟨by rfl, ?_⟩) ?_ ?_
      rotate_left
      · intro w2
        (go_simp; (try go_bits); with_reducible rfl)
      rotate_left
      · simp only [Act.put, List.setIfInBounds_toArray, List.set_cons_zero, List.set_cons_succ, i64_w, i32_w]
        rfl
      refine take_ (i := 7) (N := some 19) (v := ?_) (a' := ?_) #[true, true, true, true, false, true, true, true, false, false, false, true, false, false] rfl rfl (by kernel_rfl) (fun _ _ _ h => h) (Or.inl ⟨by rfl, ?_⟩) hHeld ?_ ?_
      rotate_left
      · intro w2 hS2
        have hc2 := hS2.2.2
        (go_simp; (try go_bits); with_reducible rfl)
      rotate_left
      · simp only [Act.put, List.setIfInBounds_toArray, List.set_cons_zero, List.set_cons_succ, i64_w, i32_w]
        rfl
      refine pure_ (i := 8) (N := some 20) (v := ?_) (a' := ?_) #[true, true, true, true, false, true, true, true, true, false, false, true, false, false] rfl rfl (by kernel_rfl) (fun _ _ _ h => h) (Or.inl ⟨by rfl, ?_⟩) ?_ ?_
      rotate_left
      · intro w2
        (go_simp; (try go_bits); with_reducible rfl)
      rotate_left
      · simp only [Act.put, List.setIfInBounds_toArray, List.set_cons_zero, List.set_cons_succ, i64_w, i32_w]
        rfl
      refine one_ (i := 4) (N := some 16) #[true, true, true, true, true, true, true, true, true, false, false, true, false, false] rfl rfl (by kernel_rfl) (by decide) (fun K hK => ?_)
      go_simp
      try go_bits
      refine (digit_any _ (by omega) (by omega) _).mono ?_
      rintro e w1 ⟨rfl, rfl⟩
      refine hK.out _ _ hHeld (fun hHeld => ?_)
      clear hK K
      refine norm_ (a' := ?_) ?_ ?_
      rotate_left
      · first | rfl | (simp only [Act.put, List.setIfInBounds_toArray, List.set_cons_zero, List.set_cons_succ, i64_w, i32_w]; rfl)
      refine one_ (i := 9) (N := some 21) #[true, true, true, true, true, true, true, true, true, true, false, true, false, false] rfl rfl (by kernel_rfl) (by decide) (fun K hK => ?_)
      go_simp
      try go_bits
      refine (digit_any _ (by omega) (by omega) _).mono ?_
      rintro e w1 ⟨rfl, rfl⟩
      refine hK.out _ _ hHeld (fun hHeld => ?_)
      clear hK K
      refine norm_ (a' := ?_) ?_ ?_
      rotate_left
      · first | rfl | (simp only [Act.put, List.setIfInBounds_toArray, List.set_cons_zero, List.set_cons_succ, i64_w, i32_w]; rfl)
      refine pure_ (i := 10) (N := some 22) (v := ?_) (a' := ?_) #[true, true, true, true, true, true, true, true, true, true, true, true, false, false] rfl rfl (by kernel_rfl) (fun _ _ _ h => h) (Or.inl ⟨by rfl, ?_⟩) ?_ ?_
      rotate_left
      · intro w2
        go_simp
        rw [if_neg (by simp only [strOfNums_size, List.length_cons, List.length_nil]; decide), ← strOfNums_app]
      rotate_left
      · simp only [Act.put, List.setIfInBounds_toArray, List.set_cons_zero, List.set_cons_succ, i64_w, i32_w]
        rfl
      refine pure_ (i := 12) (N := some 24) (v := ?_) (a' := ?_) #[true, true, true, true, true, true, true, true, true, true, true, true, true, false] rfl rfl (by kernel_rfl) (fun _ _ _ h => h) (Or.inl ⟨by rfl, ?_⟩) ?_ ?_
      rotate_left
      · intro w2
        go_simp
        rw [if_neg (by simp only [strOfNums_size, List.length_append, List.length_cons, List.length_nil]; omega)]
      rotate_left
      · simp only [Act.put, List.setIfInBounds_toArray, List.set_cons_zero, List.set_cons_succ, i64_w, i32_w]
        rfl
      refine pure_ (i := 13) (N := some 4) (v := ?_) (a' := ?_) #[true, true, true, true, true, true, true, true, true, true, true, true, true, true] rfl rfl (by kernel_rfl) (fun _ _ _ h => h) (Or.inl ⟨by rfl, ?_⟩) ?_ ?_
      rotate_left
      · intro w2
        (go_simp; (try go_bits); with_reducible rfl)
      rotate_left
      · simp only [Act.put, List.setIfInBounds_toArray, List.set_cons_zero, List.set_cons_succ, i64_w, i32_w]
        rfl
      refine done_ (by kernel_rfl) ?_
      go_wp2_with fail
      go_roundw
      case rel =>
        refine ⟨k + 1, by omega, by go_num, ?_, hHeld.1, hHeld.2.1⟩
        rw [HL.out, hexOf_cons, HS.out, ← strOfNums_app]
        rfl
      case measure => simp [intOf]; omega
    · obtain rfl : k = 32 := by omega
      rw [← byteL_low]
      obtain ⟨hB, hBk⟩ := hS
      clear hBk
      have HX : Hid ((strOfNums (hexOf (byteL f))).size = 64 ∧ bytesOf (strOfNums (hexOf (byteL f))) = hexOf (byteL f)) := ⟨by rw [strOfNums_size, hexOf_length, byteL_length], bytesOf_strOfNums (hexOf_byte (byteL_byte f))⟩
      obtain ⟨s0, hs0⟩ : ∃ s0, s0 = strOfNums (hexOf (byteL f)) := ⟨_, rfl⟩
      rw [← hs0] at HX ⊢
      clear hs0
      obtain ⟨wo, hwo⟩ : ∃ wo : World, wo = wr := ⟨_, rfl⟩
      rw [← hwo] at hB ⊢
      clear hwo
      go_wp2_with fail
      go_loopw [4] (fun v wr => ∃ s : ByteArray, v = .string s ∧ 1 ≤ s.size ∧ s.size ≤ 64 ∧ strip1 (bytesOf s) = strip1 (hexOf (byteL f)) ∧ Below w.heap.size w wr) (fun v _ => strSize v)
      case atStart => exact ⟨s0, rfl, by rw [HX.out.1]; omega, by rw [HX.out.1]; omega, by rw [HX.out.2], hB⟩
      case round =>
        clear hB
        obtain ⟨s, rfl, h1, h64, hst, hB⟩ := hrel
        have HST := Lib.hid hst
        clear hst
        have x0 := bt_zero s
        have p64 : ¬ 9223372036854775807 < 2 + s.size := by omega
        by_cases hgt : 1 < s.size
        · have q1 : (1 : Int) < s.size := by omega
          have q2 : (1 : Int) ≤ s.size := by omega
          by_cases he : bt s 0 = 48
          · have hez : (bt s 0 == 48) = true := by rw [he]; rfl
            have hn := Lib.hid (strip1_step hgt he)
            have hsz : (s.extract 1 s.size).size = s.size - 1 := by rw [ByteArray.size_extract]; omega
            have HSZ := Lib.hid hsz
            clear hsz he
            go_wp2_with fail
            go_roundw
            case rel => exact ⟨_, rfl, by rw [HSZ.out]; omega, by rw [HSZ.out]; omega, by rw [hn.out, HST.out], hB⟩
            case measure => simp only [strSize]; show (s.extract 1 s.size).size < s.size; rw [HSZ.out]; omega
          · have hez : (bt s 0 == 48) = false := by simpa using he
            have hn := Lib.hid (strip1_done (by omega) (fun h => he h.2))
            clear he
            go_wp2_with fail
            go_ret
            exact ⟨by rw [quant_str HST.out hn.out]; rfl, hB⟩
        · have hez : Hid (strip1 (bytesOf s) = bytesOf s) := strip1_done (by omega) (fun h => hgt h.1)
          obtain h1 : s.size = 1 := by omega
          go_wp2_with fail
          go_ret
          exact ⟨by rw [quant_str HST.out hez.out]; rfl, hB⟩
end Go.Proofs.YtibhijjmmagdcaaDoor
