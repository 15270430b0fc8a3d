/- hex.Word, and what the document's answer makes of the same text (smithyref04.Word): a quantity out of its digits. -/
import Derived.Test.YtibhijjmmagdcaaDoorHex
import Derived.Test.YtibhijjmmagdcaaDoorWordPlain
namespace Go.Proofs.YtibhijjmmagdcaaDoor
set_option linter.unusedVariables false
set_option linter.unusedSimpArgs false
open Go.RowKit Go.Proofs.YtibhijjmmagdcaaDoorW.PrintWords Go.Proofs.YtibhijjmmagdcaaDoorW.PrintLast
theorem toList_ne {t : ByteArray} (h : 0 < t.size) : t.toList.isEmpty = false := by
  rw [ByteArray.toList_eq]
  have : t.data.toList ≠ [] := fun e => by
    have h2 : t.data.toList.length = 0 := by rw [e]; rfl
    rw [data_length] at h2
    omega
  simpa using this
theorem bt_zero (t : ByteArray) : ∀ h : 0 < t.size, ((t[0]'h).toNat : Int) = bt t 0 := bt_at t 0
theorem bt_nat (t : ByteArray) (k : Nat) : ∀ h : k < t.size, ((t[k]'h).toNat : Int) = bt t k := fun h => by simpa using bt_at t k (by simpa using h)
theorem zero_err {r : List Int} (h : digErr r ≠ 0) : wval (fun _ => 0) = digNum r % M256 := by rw [zero_val, digNum, if_neg h]; rfl
theorem num_err {r : List Int} (h : digErr r = 0) : digNum r = hnum r := by rw [digNum, if_pos h]
def HWS (w : World) (F : Nat → Int) (W : World) : Prop := Below w.heap.size w W ∧ Blk W w.heap.size (arrF .u64 4 fun _ => 0) 25 ∧ Blk W (w.heap.size + 1) (arrF .u64 4 F) 25
theorem HWS.below {w W W1 : World} {F : Nat → Int} (h : HWS w F W) (hb : Below W.heap.size W W1) : HWS w F W1 := ⟨bel_then h.1 hb, h.2.1.below hb, h.2.2.below hb⟩
set_option maxRecDepth 100000 in
theorem word_run (t : ByteArray) (ht : t.size ≤ 1000000) (hne : 0 < t.size) (hh : ¬ (bt t 0 = 48 ∧ 1 < t.size)) (s : ByteArray) (w : World)
    (hcut : ∀ W, Calls Tryd.prog 32 #[.string s, .string ⟨#[48, 120]⟩] W fun e w' => e = .returned (.tuple #[.string t, .bool true]) ∧ W = w') :
    Calls Tryd.prog 15 #[.string s] w fun e w' => ∃ F, U64 F ∧ wval F = digNum (bytesOf t) % M256 ∧ e = .returned (.tuple #[wordF F, .int .i64 (digErr (bytesOf t))]) ∧ Below w.heap.size w w' := by
  have HCUT := Lib.hid hcut
  clear hcut
  have hz := zero25
  have x0 := bt_zero t
  have p0 : (0 : Int) < (t.size : Int) := by omega
  have n0 := toList_ne hne
  have hnn : bytesOf t ≠ [] := by rw [bytesOf_ne hne]; simp
  have hh0 : ¬ ((bytesOf t).head? = some 48 ∧ 1 < (bytesOf t).length) := by rw [bytesOf_ne hne, List.head?_cons, ← bytesOf_ne hne, bytesOf_length, Option.some.injEq]; exact hh
  have HERR : Hid (∀ b, (bytesOf t).any (fun c => decide (hv c < 0)) = b → digErr (bytesOf t) = if b = true then 2 else if 64 < t.size then 4 else 0) := by
    intro b hb
    rw [digErr, hb, bytesOf_length]
    by_cases h : b = true
    · rw [if_pos (.inr (.inr h)), if_pos h]
    · have hno : ¬ (bytesOf t = [] ∨ ((bytesOf t).head? = some 48 ∧ 1 < t.size) ∨ b = true) := by
        rintro (h1 | h1 | h1)
        · exact hnn h1
        · exact hh0 (by rw [bytesOf_length]; exact h1)
        · exact h h1
      rw [if_neg hno, if_neg h]
  clear hnn hh0
  have key : ((bt t 0 == 48) = true ∧ ¬ (1 : Int) < (t.size : Int)) ∨ (bt t 0 == 48) = false := by
    by_cases h48 : bt t 0 = 48
    · exact .inl ⟨by simpa using h48, by omega⟩
    · exact .inr (by simpa using h48)
  clear hh
  rcases key with ⟨b1, b2⟩ | b1
  all_goals
    go_enter Tryd.func15, Tryd.ntmps15
    go_wp2_with (go_at_call 32; refine (HCUT.out _).mono ?_; rintro e w' ⟨rfl, rfl⟩)
    refine wp_any_world (HWS w (fun _ => 0)) ⟨by repeat (first | exact Below.refl _ _ | assumption | refine below_alloc ?_ _ | refine bel_drewN ?_ _ | refine bel_drew ?_ | refine bel_set ?_ (by simp) _), (Blk.new _ _ _).alloc _, Blk.new' _ _ _ (by simp)⟩ ?_
    intro W hS
    clear b1 x0 n0 p0
    try clear b2
    go_loopw [32] (fun i wr => ∃ (k : Nat) (F : Nat → Int), k ≤ t.size ∧ i = .int .i64 k ∧ U64 F ∧ wval F = hnum ((bytesOf t).take k) % M256 ∧ (∀ j, j < k → 0 ≤ hv (bt t j)) ∧ HWS w F wr) (fun i _ => t.size - (intOf i).toNat)
    case atStart => exact ⟨0, _, by omega, rfl, zero_U64, by rw [zero_val, List.take_zero]; decide, fun j hj => by omega, hS⟩
    case round =>
      clear hS
      obtain ⟨k, F, hk, rfl, hF, hv1, hall, hS⟩ := hrel
      have HV := Lib.hid hv1
      have HA := Lib.hid hall
      clear hv1 hall
      by_cases hlt : k < t.size
      · have p0 : (0 : Int) ≤ (k : Int) := by omega
        have p1 : (k : Int) < (t.size : Int) := by omega
        have x0 := bt_nat t k
        have r0 := bt_range t (k : Int)
        have q0 := hv_le (bt t (k : Int))
        by_cases hneg : hv (bt t (k : Int)) < 0
        · obtain ⟨hB, h0, h1⟩ := hS
          go_wp2_with (first | (go_at_call 33; refine (value_any _ _ (by omega) (by omega)).mono ?_; rintro e w1 ⟨rfl, rfl⟩) | ((with_reducible refine gate_op (.store 25 (.tmp 2) (.tmp 41)) rfl ?_); refine wpl_store_blk rfl 25 (.tmp 2) (.tmp 41) rfl _ rfl _ _ _ rfl h0 4 size25 (arrF_size _ _ _) (arrF_size _ _ _) (arrF_one _ _ _) ?_; intro W2 hO hB2))
          have he : digErr (bytesOf t) = 2 := HERR.out true (any_bad hlt hneg)
          refine ret_blk2 Tryd.results15 _ _ _ _ rfl hB2 Tryd.underlying25 rfl 4 size25 (arrF_size _ _ _) rfl ⟨fun _ => 0, zero_U64, zero_err (by rw [he]; decide), by rw [he]; rfl, Only.below hB hO (by omega)⟩
        · have q1 : 0 ≤ hv (bt t (k : Int)) := by omega
          have HQ : Hid (0 ≤ hv (bt t (k : Int)) ∧ hv (bt t (k : Int)) < 16) := ⟨q1, by omega⟩
          have h1 := hS.2.2
          have HF := Lib.hid hF
          clear hF
          go_wp2_with (first | (go_at_call 33; refine (value_any _ _ (by omega) (by omega)).mono ?_; rintro e w1 ⟨rfl, rfl⟩) | ((with_reducible refine gate_op (.load 25 (.tmp 5)) rfl ?_); refine wpl_load_blk rfl 25 (.tmp 5) rfl _ rfl _ _ _ h1 Tryd.underlying25 rfl 4 size25 (arrF_size _ _ _) ?_))
          refine (shl4_any F _ HF.out).mono ?_
          rintro e w1 ⟨rfl, hb⟩
          have hS1 := hS.below hb
          clear hb h1
          go_wp2_with fail
          refine (of_any _ _).mono ?_
          rintro e w2 ⟨rfl, hb⟩
          have hS2 := hS1.below hb
          clear hb
          go_wp2_with fail
          refine (or_any _ _ _).mono ?_
          rintro e w3 ⟨rfl, hb⟩
          have hS3 := hS2.below hb
          clear hb
          have h1 := hS3.2.2
          go_wp2_with ((with_reducible refine gate_op (.store 25 (.tmp 5) (.tmp 47)) rfl ?_); refine wpl_store_blk rfl 25 (.tmp 5) (.tmp 47) rfl _ rfl _ _ _ rfl h1 4 size25 (arrF_size _ _ _) (arrF_size _ _ _) (arrF_one _ _ _) ?_; intro W2 hO hB2)
          go_roundw
          case rel =>
            refine ⟨k + 1, clip (stepF F (hv (bt t k))), by omega, by go_num, clip_step HF.out HQ.out, ?_, fun j hj => ?_, Only.below hS3.1 hO (by omega), Only.blk hS3.2.1 hO (by omega), ?_⟩
            · rw [clip_val, stepF_val HF.out HQ.out, bytesOf_take_succ t k hlt, hnum_snoc, HV.out]
              unfold M256
              omega
            · by_cases e : j = k
              · subst e; exact HQ.out.1
              · exact HA.out j (by omega)
            · rw [← clip_arr]; exact hB2
          case measure => simp [intOf]; omega
      · obtain rfl : k = t.size := by omega
        have hb0 := HERR.out false (no_bad HA.out)
        have hv2 := HV.out
        rw [List.take_of_length_le (by rw [bytesOf_length]; omega)] at hv2
        obtain ⟨hB, h0, h1⟩ := hS
        have HB0 := Lib.hid hb0
        have HV2 := Lib.hid hv2
        clear hb0 hv2
        by_cases h64 : 64 < t.size
        · go_wp2_with (first | ((with_reducible refine gate_op (.load 25 (.tmp 5)) rfl ?_); refine wpl_load_blk rfl 25 (.tmp 5) rfl _ rfl _ _ _ h1 Tryd.underlying25 rfl 4 size25 (arrF_size _ _ _) ?_) | ((with_reducible refine gate_op (.store 25 (.tmp 2) (.tmp 52)) rfl ?_); refine wpl_store_blk rfl 25 (.tmp 2) (.tmp 52) rfl _ rfl _ _ _ rfl h0 4 size25 (arrF_size _ _ _) (arrF_size _ _ _) (arrF_one _ _ _) ?_; intro W2 hO hB2))
          all_goals have he : digErr (bytesOf t) = 4 := by rw [HB0.out, if_neg (by simp), if_pos h64]
          all_goals refine ret_blk2 Tryd.results15 _ _ _ _ rfl hB2 Tryd.underlying25 rfl 4 size25 (arrF_size _ _ _) rfl ⟨fun _ => 0, zero_U64, zero_err (by rw [he]; decide), by rw [he]; rfl, Only.below hB hO (by omega)⟩
        · go_wp2_with (first | ((with_reducible refine gate_op (.load 25 (.tmp 5)) rfl ?_); refine wpl_load_blk rfl 25 (.tmp 5) rfl _ rfl _ _ _ h1 Tryd.underlying25 rfl 4 size25 (arrF_size _ _ _) ?_) | ((with_reducible refine gate_op (.store 25 (.tmp 2) (.tmp 53)) rfl ?_); refine wpl_store_blk rfl 25 (.tmp 2) (.tmp 53) rfl _ rfl _ _ _ rfl h0 4 size25 (arrF_size _ _ _) (arrF_size _ _ _) (arrF_one _ _ _) ?_; intro W2 hO hB2))
          have he : digErr (bytesOf t) = 0 := by rw [HB0.out, if_neg (by simp), if_neg h64]
          refine ret_blk2 Tryd.results15 _ _ _ _ rfl hB2 Tryd.underlying25 rfl 4 size25 (arrF_size _ _ _) rfl ⟨F, hF, by rw [num_err he]; exact HV2.out, by rw [he]; rfl, Only.below hB hO (by omega)⟩
/-- hex.Word: the quantity that a text says, or its error. -/
theorem word_hex (s : ByteArray) (hs : s.size ≤ 1000000) (w : World) :
    Calls Tryd.prog 15 #[.string s] w fun e w' => ∃ F, U64 F ∧ wval F = wordNum (bytesOf s) % M256 ∧ e = .returned (.tuple #[wordF F, .int .i64 (wordErr (bytesOf s))]) ∧ Below w.heap.size w w' := by
  cases hr : rest0x (bytesOf s) with
  | none =>
    have h1 : wordErr (bytesOf s) = 2 := by rw [wordErr, hr]
    have h2 : wordNum (bytesOf s) = 0 := by rw [wordNum, hr]
    have hp : Lib.hasPrefix s.data.toList [48, 120] = false := by rw [hasPrefix_0x, hr]; rfl
    have HCUT := Lib.hid (fun W => cut_no hp W)
    have H1 := Lib.hid h1
    have H2 := Lib.hid h2
    have hz := zero25
    clear h1 h2 hp hr
    have h0 : Blk (w.alloc (.cells (arrF .u64 4 fun _ => 0) 25)) w.heap.size (arrF .u64 4 fun _ => 0) 25 := Blk.new _ _ _
    go_enter Tryd.func15, Tryd.ntmps15
    go_wp2_with (first | (go_at_call 32; refine (HCUT.out _).mono ?_; rintro e w' ⟨t, rfl, rfl⟩) | ((with_reducible refine gate_op (.store 25 (.tmp 2) (.tmp 29)) rfl ?_); refine wpl_store_blk rfl 25 (.tmp 2) (.tmp 29) rfl _ rfl _ _ _ rfl h0 4 size25 (arrF_size _ _ _) (arrF_size _ _ _) (arrF_one _ _ _) ?_; intro W2 hO hB2))
    refine ret_blk2 Tryd.results15 _ _ _ _ rfl hB2 Tryd.underlying25 rfl 4 size25 (arrF_size _ _ _) rfl ⟨fun _ => 0, zero_U64, by rw [H2.out, zero_val]; rfl, by rw [H1.out]; rfl, Only.below (by repeat (first | exact Below.refl _ _ | assumption | refine below_alloc ?_ _ | refine bel_drewN ?_ _ | refine bel_drew ?_ | refine bel_set ?_ (by simp) _)) hO (by omega)⟩
  | some r =>
    obtain ⟨t, ht, htr, hsz⟩ := rest0x_some hr
    have hp : Lib.hasPrefix s.data.toList [48, 120] = true := by rw [hasPrefix_0x, hr]; rfl
    have h1 : wordErr (bytesOf s) = digErr (bytesOf t) := by rw [wordErr, hr, ht]
    have h2 : wordNum (bytesOf s) = digNum (bytesOf t) := by rw [wordNum, hr, ht]
    rw [h1, h2]
    by_cases hne : 0 < t.size
    · by_cases hh : bt t 0 = 48 ∧ 1 < t.size
      · have he : digErr (bytesOf t) = 2 := by
          rw [digErr, if_pos]
          refine .inr (.inl ⟨?_, by rw [bytesOf_length]; exact hh.2⟩)
          rw [bytesOf_ne hne, List.head?_cons, hh.1]
        have HE := Lib.hid he
        have HCUT := Lib.hid (fun W => cut_yes htr hp W)
        have hz := zero25
        have n0 := toList_ne hne
        have x0 := bt_zero t
        have b1 : (bt t 0 == 48) = true := by simpa using hh.1
        have b2 : (1 : Int) < (t.size : Int) := by omega
        have p0 : (0 : Int) < (t.size : Int) := by omega
        clear h1 h2 hp hr he htr ht hh
        have h0 : Blk (w.alloc (.cells (arrF .u64 4 fun _ => 0) 25)) w.heap.size (arrF .u64 4 fun _ => 0) 25 := Blk.new _ _ _
        go_enter Tryd.func15, Tryd.ntmps15
        go_wp2_with (first | (go_at_call 32; refine (HCUT.out _).mono ?_; rintro e w' ⟨rfl, rfl⟩) | ((with_reducible refine gate_op (.store 25 (.tmp 2) (.tmp 29)) rfl ?_); refine wpl_store_blk rfl 25 (.tmp 2) (.tmp 29) rfl _ rfl _ _ _ rfl h0 4 size25 (arrF_size _ _ _) (arrF_size _ _ _) (arrF_one _ _ _) ?_; intro W2 hO hB2))
        refine ret_blk2 Tryd.results15 _ _ _ _ rfl hB2 Tryd.underlying25 rfl 4 size25 (arrF_size _ _ _) rfl ⟨fun _ => 0, zero_U64, zero_err (by rw [HE.out]; decide), by rw [HE.out]; rfl, Only.below (by repeat (first | exact Below.refl _ _ | assumption | refine below_alloc ?_ _ | refine bel_drewN ?_ _ | refine bel_drew ?_ | refine bel_set ?_ (by simp) _)) hO (by omega)⟩
      · exact word_run t (by omega) hne hh s w (fun W => cut_yes htr hp W)
    · have ht0 : bytesOf t = [] := List.eq_nil_of_length_eq_zero (by rw [bytesOf_length]; omega)
      have he : digErr (bytesOf t) = 2 := by rw [digErr, if_pos (.inl ht0)]
      have HE := Lib.hid he
      have HCUT := Lib.hid (fun W => cut_yes htr hp W)
      have hz := zero25
      have n0 : t.toList.isEmpty = true := by
        rw [ByteArray.toList_eq]
        have : t.data.toList = [] := List.eq_nil_of_length_eq_zero (by rw [data_length]; omega)
        rw [this]; rfl
      clear h1 h2 hp hr he htr ht ht0
      have h0 : Blk (w.alloc (.cells (arrF .u64 4 fun _ => 0) 25)) w.heap.size (arrF .u64 4 fun _ => 0) 25 := Blk.new _ _ _
      go_enter Tryd.func15, Tryd.ntmps15
      go_wp2_with (first | (go_at_call 32; refine (HCUT.out _).mono ?_; rintro e w' ⟨rfl, rfl⟩) | ((with_reducible refine gate_op (.store 25 (.tmp 2) (.tmp 29)) rfl ?_); refine wpl_store_blk rfl 25 (.tmp 2) (.tmp 29) rfl _ rfl _ _ _ rfl h0 4 size25 (arrF_size _ _ _) (arrF_size _ _ _) (arrF_one _ _ _) ?_; intro W2 hO hB2))
      refine ret_blk2 Tryd.results15 _ _ _ _ rfl hB2 Tryd.underlying25 rfl 4 size25 (arrF_size _ _ _) rfl ⟨fun _ => 0, zero_U64, zero_err (by rw [HE.out]; decide), by rw [HE.out]; rfl, Only.below (by repeat (first | exact Below.refl _ _ | assumption | refine below_alloc ?_ _ | refine bel_drewN ?_ _ | refine bel_drew ?_ | refine bel_set ?_ (by simp) _)) hO (by omega)⟩
end Go.Proofs.YtibhijjmmagdcaaDoor
