/- smithylaw04.HexTexts: the walk. -/
import Derived.Test.YtibhijjmmagdcaaDoorFixed04
namespace Go.Proofs.YtibhijjmmagdcaaDoor
set_option linter.unusedVariables false
set_option linter.unusedSimpArgs false
open Go.RowKit Go.Proofs.YtibhijjmmagdcaaDoorW.PrintWords Go.Proofs.YtibhijjmmagdcaaDoorW.PrintLast
/-- A row of the call's own, read. -/
theorem OwnB.reads {w : World} {base : Nat} {v : Value} {l : List Int} (h : OwnB w base v l) : ∃ A c, v = .slice A l.length c ∧ l.length ≤ c ∧ (Kd.int .u8).C w A l.length l := by
  obtain ⟨A, c, he, hr⟩ := own_reads h
  have hc : l.length ≤ c := by
    rcases h.2 with ⟨e, h0⟩ | ⟨g, cap, cur, e, _, _, hle, _⟩
    · rw [he] at e; injection e with _ e1 e2; omega
    · rw [he] at e; injection e with _ e1 e2; omega
  exact ⟨A, c, he, hc, Kd.C_of_reads (d := (0 : Int)) hr⟩
theorem conv_bytes {W : World} {A : Option Addr} {n c : Nat} {l : List Int} (h : (Kd.int .u8).C W A n l) : (convert 22 9 (.slice A n c)).run Tryd.prog W = .ok (.string (strOfNums l)) W :=
  Kd.C_string Tryd.underlying22 Tryd.underlying5 Tryd.underlying9 h
/-- The three calls, as the law asks them. -/
theorem law_bytes {l : List Int} (hl : ∀ c ∈ l, 0 ≤ c ∧ c < 256) (hn : l.length ≤ 3000) (w : World) :
    Calls Tryd.prog 14 #[.string (strOfNums (textL l))] w fun e w' => ∃ A c, e = .returned (.tuple #[.slice A l.length c, .int .i64 0]) ∧ l.length ≤ c ∧ (Kd.int .u8).C w' A l.length l ∧ Below w.heap.size w w' := by
  refine (bytes_hex _ (by rw [strOfNums_size, textL, List.length_cons, List.length_cons, hexOf_length]; omega) w).mono ?_
  rintro e w' ⟨v, rfl, hO, hB⟩
  rw [bytesOf_strOfNums (textL_byte hl), bytesOf_textL hl] at hO ⊢
  obtain ⟨A, c, rfl, hc, hr⟩ := hO.reads
  exact ⟨A, c, rfl, hc, hr, hB⟩
theorem law_word {f : Nat → Int} (hf : U64 f) (w : World) :
    Calls Tryd.prog 15 #[.string (strOfNums (quantL f))] w fun e w' => e = .returned (.tuple #[wordF f, .int .i64 0]) ∧ Below w.heap.size w w' := by
  refine (word_hex _ (by rw [strOfNums_size]; have := quant_len f; omega) w).mono ?_
  rintro e w' ⟨F, hF, hv, rfl, hB⟩
  rw [bytesOf_strOfNums (quant_byte f), quant_err, quant_num hf] at *
  have hr := wval_range hf
  rw [Int.emod_eq_of_lt hr.1 hr.2] at hv
  rw [wordF_eq hF hf hv]
  exact ⟨rfl, hB⟩
theorem eqN_refl (n : Nat) (f : Nat → Int) : eqN n f f = true := eqN_iff.2 fun _ _ => rfl
theorem hexTexts_long (A : Option Addr) (c : Nat) (l : List Int) (f : Nat → Int) (w : World) (hn : 3000 < l.length) :
    Calls Tryd.prog 3 #[.slice A l.length c, wordF f] w fun e w' => e = .returned (.bool true) ∧ Below w.heap.size w w' := by
  have hn' : (3000 : Int) < l.length := by omega
  clear hn
  unfold wordF
  go_enter Tryd.func3, Tryd.ntmps3
  go_wp2_with (go_at_call 11; refine (fixed04 _).mono ?_; rintro e w1 ⟨rfl, hb1⟩)
  go_ret
  exact ⟨rfl, bel_then (below_alloc (Below.refl _ _) _) hb1⟩
set_option maxRecDepth 100000 in
theorem hexTexts_short (A : Option Addr) (c : Nat) (l : List Int) (f : Nat → Int) (w : World) (hr : (Kd.int .u8).C w A l.length l) (hc : l.length ≤ c) (hl : ∀ c ∈ l, 0 ≤ c ∧ c < 256) (hf : U64 f) (hn : l.length ≤ 3000) :
    Calls Tryd.prog 3 #[.slice A l.length c, wordF f] w fun e w' => e = .returned (.bool true) ∧ Below w.heap.size w w' := by
  have hn' : (l.length : Int) ≤ 3000 := by omega
  have HT : Hid (∀ W, Below w.heap.size w W → Calls Tryd.prog 12 #[.slice A l.length c] W fun e w' => e = .returned (.string (strOfNums (textL l))) ∧ Below W.heap.size W w') := fun W hb => text_hex A c l W (Kd.C_below hr hb) hc hl (by omega)
  have HU : Hid (∀ W, Below w.heap.size w W → Calls Tryd.prog 16 #[.slice A l.length c] W fun e w' => e = .returned (.string (strOfNums (textL l))) ∧ Below W.heap.size W w') := fun W hb => text_ref A c l W (Kd.C_below hr hb) hc hl (by omega)
  have HV : Hid (∀ W, Below w.heap.size w W → (convert 22 9 (.slice A l.length c)).run Tryd.prog W = .ok (.string (strOfNums l)) W) := fun W hb => conv_bytes (Kd.C_below hr hb)
  have HB := Lib.hid (law_bytes hl hn)
  have HW := Lib.hid (law_word hf)
  have HQ : Hid (∀ W, Calls Tryd.prog 13 #[wordF f] W fun e w' => e = .returned (.string (strOfNums (quantL f))) ∧ Below W.heap.size W w') := fun W => quantity_hex f W hf
  have HP : Hid (∀ W, Calls Tryd.prog 17 #[wordF f] W fun e w' => e = .returned (.string (strOfNums (quantL f))) ∧ Below W.heap.size W w') := fun W => quantity_ref f W hf
  clear hr hc hl hf hn
  have he := eql25 f f
  rw [eqN_refl] at he
  have hz := zero25
  obtain ⟨s, hs⟩ : ∃ s, s = strOfNums (textL l) := ⟨_, rfl⟩
  obtain ⟨t, ht⟩ : ∃ t, t = strOfNums (quantL f) := ⟨_, rfl⟩
  rw [← hs] at HT HU HB
  rw [← ht] at HQ HP HW
  clear hs ht
  unfold wordF at HW HQ HP ⊢
  go_enter Tryd.func3, Tryd.ntmps3
  go_wp2_with fail
  refine start_ (n := 6) (S := fun W => Below w.heap.size w W ∧ Blk W w.heap.size (arrF .u64 4 f) 25) (ds := []) #[false, false, false, false, false, false] (by kernel_rfl) rfl rfl ⟨by repeat (first | exact Below.refl _ _ | assumption | refine below_alloc ?_ _ | refine bel_drewN ?_ _ | refine bel_drew ?_ | refine bel_set ?_ (by simp) _), (Blk.new _ _ _).drew⟩ (fun hHeld => ?_)
  refine gen_last hHeld ?_
  clear hHeld
  intro wd hHeld
  refine pure_ (i := 0) (N := some 15) (v := ?_) (a' := ?_) #[true, false, false, false, false, false] rfl rfl (by kernel_rfl) (fun _ _ _ h => h) (Or.inl ⟨by rfl, ?_⟩) ?_ ?_
  rotate_left
  · intro w2
    (go_simp; (try go_bits); with_reducible rfl)
  rotate_left
  · simp only [Act.put, List.setIfInBounds_toArray, List.set_cons_zero, List.set_cons_succ, i64_w, i32_w]
    rfl
  refine take_ (i := 2) (N := some 17) (v := ?_) (a' := ?_) #[true, false, true, false, false, false] rfl rfl (by kernel_rfl) (fun _ _ _ h => h) (Or.inl ⟨by rfl, ?_⟩) hHeld ?_ ?_
  rotate_left
  · intro w2 hS2
    skip
    (refine run_load_blk (x := .tmp 3) ?_ ?_ hS2.2 Tryd.underlying25 rfl 4 size25 (arrF_size _ _ _) <;> rfl)
  rotate_left
  · simp only [Act.put, List.setIfInBounds_toArray, List.set_cons_zero, List.set_cons_succ, i64_w, i32_w]
    rfl
  refine one_ (i := 1) (N := some 16) #[true, true, true, false, false, false] rfl rfl (by kernel_rfl) (by decide) (fun K hK => ?_)
  go_simp
  try go_bits
  refine (HT.out _ hHeld.1).mono ?_
  rintro e w1 ⟨rfl, hb⟩
  refine hK.out _ _ ⟨bel_then hHeld.1 hb, hHeld.2.below hb⟩ (fun hHeld => ?_)
  clear hK K
  refine norm_ (a' := ?_) ?_ ?_
  rotate_left
  · first | rfl | (simp only [Act.put, List.setIfInBounds_toArray, List.set_cons_zero, List.set_cons_succ, i64_w, i32_w]; rfl)
  refine one_ (i := 3) (N := some 18) #[true, true, true, true, false, false] rfl rfl (by kernel_rfl) (by decide) (fun K hK => ?_)
  go_simp
  try go_bits
  refine (HQ.out _).mono ?_
  rintro e w1 ⟨rfl, hb⟩
  refine hK.out _ _ ⟨bel_then hHeld.1 hb, hHeld.2.below hb⟩ (fun hHeld => ?_)
  clear hK K
  refine norm_ (a' := ?_) ?_ ?_
  rotate_left
  · first | rfl | (simp only [Act.put, List.setIfInBounds_toArray, List.set_cons_zero, List.set_cons_succ, i64_w, i32_w]; rfl)
  refine pure_ (i := 4) (N := some 5) (v := ?_) (a' := ?_) #[true, true, true, true, true, false] rfl rfl (by kernel_rfl) (fun _ _ _ h => h) (Or.inl ⟨by rfl, ?_⟩) ?_ ?_
  rotate_left
  · intro w2
    (go_simp; (try go_bits); with_reducible rfl)
  rotate_left
  · simp only [Act.put, List.setIfInBounds_toArray, List.set_cons_zero, List.set_cons_succ, i64_w, i32_w]
    rfl
  refine pure_ (i := 5) (N := some 6) (v := ?_) (a' := ?_) #[true, true, true, true, true, true] rfl rfl (by kernel_rfl) (fun _ _ _ h => h) (Or.inl ⟨by rfl, ?_⟩) ?_ ?_
  rotate_left
  · intro w2
    (go_simp; (try go_bits); with_reducible rfl)
  rotate_left
  · simp only [Act.put, List.setIfInBounds_toArray, List.set_cons_zero, List.set_cons_succ, i64_w, i32_w]
    rfl
  refine done_ (by kernel_rfl) ?_
  go_wp2_with (first | (go_at_call 14; refine (HB.out _).mono ?_; rintro e w2 ⟨A2, c2, rfl, hc2, hr2, hb2⟩) | (go_at_call 15; refine (HW.out _).mono ?_; rintro e w3 ⟨rfl, hb3⟩) | ((with_reducible refine gate_op (.store 25 (.tmp 9) (.tmp 27)) rfl ?_); refine wpl_store_blk rfl 25 (.tmp 9) (.tmp 27) rfl _ rfl _ _ _ rfl (Blk.new _ _ _) 4 size25 (arrF_size _ _ _) (arrF_size _ _ _) (arrF_one _ _ _) ?_; intro w4 hO hB4) | (go_at_call 11; refine (fixed04 _).mono ?_; rintro e w5 ⟨rfl, hb5⟩))
  have e34 : Below w3.heap.size w3 w4 := Only.below (below_alloc (Below.refl _ _) _) hO (Nat.le_refl _)
  have e5 := bel_then (bel_then (bel_then (bel_then hHeld.1 hb2) hb3) e34) hb5
  have k5 := (((hHeld.2.below hb2).below hb3).below e34).below hb5
  have g5 := hB4.below hb5
  have r5 := Kd.C_below (Kd.C_below (Kd.C_below hr2 hb3) e34) hb5
  clear hb2 hb3 hb5 hO hB4 hr2 hHeld e34 hb
  refine (HU.out _ e5).mono ?_
  rintro e w6 ⟨rfl, hb6⟩
  have k6 := k5.below hb6
  go_wp2_with ((with_reducible refine gate_op (.load 25 (.tmp 3)) rfl ?_); refine guard_on (by rfl) ?_; refine wpl_load_blk rfl 25 (.tmp 3) rfl _ rfl _ _ _ k6 Tryd.underlying25 rfl 4 size25 (arrF_size _ _ _) ?_)
  refine (HP.out _).mono ?_
  rintro e w7 ⟨rfl, hb7⟩
  have k7 := k6.below hb7
  have g7 := (g5.below hb6).below hb7
  have e7 := bel_then (bel_then e5 hb6) hb7
  have v7 := HV.out _ e7
  have u7 := conv_bytes (c := c2) (Kd.C_below (Kd.C_below r5 hb6) hb7)
  clear k5 g5 r5 hb6 hb7 e5 k6
  go_wp2_with (first | ((with_reducible refine gate_op (.load 25 (.tmp 9)) rfl ?_); refine guard_on (by rfl) ?_; refine wpl_load_blk rfl 25 (.tmp 9) rfl _ rfl _ _ _ g7 Tryd.underlying25 rfl 4 size25 (arrF_size _ _ _) ?_) | ((with_reducible refine gate_op (.load 25 (.tmp 3)) rfl ?_); refine guard_on (by rfl) ?_; refine wpl_load_blk rfl 25 (.tmp 3) rfl _ rfl _ _ _ k7 Tryd.underlying25 rfl 4 size25 (arrF_size _ _ _) ?_))
  go_ret
  exact ⟨rfl, e7⟩
theorem hexTexts_any (A : Option Addr) (c : Nat) (l : List Int) (f : Nat → Int) (w : World) (hr : (Kd.int .u8).C w A l.length l) (hc : l.length ≤ c) (hl : ∀ c ∈ l, 0 ≤ c ∧ c < 256) (hf : U64 f) :
    Calls Tryd.prog 3 #[.slice A l.length c, wordF f] w fun e w' => e = .returned (.bool true) ∧ Below w.heap.size w w' := by
  by_cases hn : l.length ≤ 3000
  · exact hexTexts_short A c l f w hr hc hl hf hn
  · exact hexTexts_long A c l f w (by omega)
end Go.Proofs.YtibhijjmmagdcaaDoor
