/- smithylaw27.AsmTexts: the walk. -/
import Derived.Test.YtibhijjmmagdcaaGreatDoorAsmTextRef2
import Derived.Test.YtibhijjmmagdcaaGreatDoorLawTexts
namespace Go.Proofs.YtibhijjmmagdcaaGreatDoor
set_option linter.unusedVariables false
set_option linter.unusedSimpArgs false
open Go.RowKit Go.Proofs.YtibhijjmmagdcaaGreatDoorW.PrintWords Go.Proofs.YtibhijjmmagdcaaGreatDoorW.PrintLast
theorem lines_bytes : ∀ (ls : List (List Int)), (∀ x ∈ ls, ∀ c ∈ x, 0 ≤ c ∧ c < 256) → ∀ c ∈ (ls.map (· ++ [10])).flatten, 0 ≤ c ∧ c < 256
  | [], _, c, h => by simp at h
  | x :: r, h, c, hc => by
    rw [List.map_cons, List.flatten_cons] at hc
    rcases List.mem_append.1 hc with hc | hc
    · rcases List.mem_append.1 hc with hc | hc
      · exact h x (List.mem_cons_self ..) c hc
      · simp at hc; omega
    · exact lines_bytes r (fun y hy => h y (List.mem_cons_of_mem _ hy)) c hc
theorem byteLine_bytes {x : Int} (h : 0 ≤ x ∧ x < 256) : ∀ c ∈ byteLine x, 0 ≤ c ∧ c < 256 := by
  intro c hc
  rcases List.mem_append.1 hc with hc | hc
  · simp only [BYTE1, List.mem_cons, List.not_mem_nil, or_false] at hc; omega
  · rcases List.mem_cons.1 hc with rfl | hc
    · omega
    · exact textL_byte (fun y hy => by simp at hy; omega) c hc
theorem asmL_bytes : ∀ (f : Nat) (l : List Int), (∀ c ∈ l, 0 ≤ c ∧ c < 256) → ∀ x ∈ asmL f l, ∀ c ∈ x, 0 ≤ c ∧ c < 256
  | 0, _, _, x, h => by simp [asmL] at h
  | _ + 1, [], _, x, h => by simp [asmL] at h
  | f + 1, a :: r, hl, x, h => by
    have ha := hl a (List.mem_cons_self ..)
    have hr : ∀ c ∈ r, 0 ≤ c ∧ c < 256 := fun c hc => hl c (List.mem_cons_of_mem _ hc)
    rw [asmL] at h
    rcases ho : infoF a with _ | o
    · rw [ho] at h
      rcases List.mem_cons.1 h with rfl | h
      · exact byteLine_bytes ha
      · exact asmL_bytes f r hr x h
    · rw [ho] at h
      simp only at h
      split at h
      · obtain ⟨y, hy, rfl⟩ := List.mem_map.1 h
        exact byteLine_bytes (hl y hy)
      · split at h
        · rcases List.mem_cons.1 h with rfl | h
          · intro c hc
            rcases List.mem_append.1 hc with hc | hc
            · exact tells_byte ha.1 ha.2 ho c hc
            · rcases List.mem_cons.1 hc with rfl | hc
              · omega
              · exact textL_byte (fun y hy => hr y (List.mem_of_mem_take hy)) c hc
          · exact asmL_bytes f _ (fun c hc => hr c (List.mem_of_mem_drop hc)) x h
        · rcases List.mem_cons.1 h with rfl | h
          · exact tells_byte ha.1 ha.2 ho
          · exact asmL_bytes f r hr x h
theorem textA_bytes {l : List Int} (hl : ∀ c ∈ l, 0 ≤ c ∧ c < 256) : ∀ c ∈ textA l, 0 ≤ c ∧ c < 256 := lines_bytes _ (asmL_bytes l.length l hl)
theorem asmTexts_long (A : Option Addr) (c : Nat) (l : List Int) (w : World) (hn : 1500 < l.length) (hm : MaxV w) :
    Calls Tryz.prog 3 #[.slice A l.length c] w fun e w' => e = .returned (.bool true) ∧ Below w.heap.size w w' := by
  have hn' : (1500 : Int) < l.length := by omega
  have HM := Lib.hid hm
  clear hn hm
  go_enter Tryz.func3, Tryz.ntmps3
  go_wp2_with (go_at_call 5; refine (fixed27 _ HM.out).mono ?_; rintro e w1 ⟨rfl, hb1⟩)
  go_ret
  exact ⟨rfl, hb1⟩
set_option maxRecDepth 100000 in
theorem asmTexts_short (A : Option Addr) (c : Nat) (l : List Int) (w : World) (hr : (Kd.int .u8).C w A l.length l) (hc : l.length ≤ c) (hl : ∀ c ∈ l, 0 ≤ c ∧ c < 256) (hn : l.length ≤ 1500) (hm : MaxV w) :
    Calls Tryz.prog 3 #[.slice A l.length c] w fun e w' => e = .returned (.bool true) ∧ Below w.heap.size w w' := by
  have hn' : (l.length : Int) ≤ 1500 := by omega
  obtain ⟨T, hT⟩ : ∃ T, T = strOfNums (textA l) := ⟨_, rfl⟩
  have hbT : bytesOf T = textA l := by rw [hT]; exact bytesOf_strOfNums (textA_bytes hl)
  have hcode : codeF (bytesOf T) = (l, 0, 0) := by rw [hbT]; exact code_textA hl (by omega)
  have HM := Lib.hid hm
  have HR1 : Hid (∀ W, Below w.heap.size w W → ReadsInt W .u8 A l.length l) := fun W hb => Kd.reads_of_C (enc := Value.int .u8) (d := (0 : Int)) (h1 := fun _ => rfl) (Kd.C_below hr hb)
  have HCV : Hid (∀ W, Below w.heap.size w W → (convert 22 9 (.slice A l.length c)).run Tryz.prog W = .ok (.string (strOfNums l)) W) := fun W hb => conv_bytes (Kd.C_below hr hb)
  have HE1 : Hid (∀ W A c, (Kd.int .u8).C W A l.length l → l.length ≤ c → Calls Tryz.prog 6 #[.slice A l.length c] W fun e w' => e = .returned (.string T) ∧ Below W.heap.size W w') := fun W A c hr hc => by
    have := asmtext_any A c l W hr hc hl (by omega)
    rw [← hT] at this
    exact this
  have HE2 : Hid (∀ W, Below w.heap.size w W → Calls Tryz.prog 8 #[.slice A l.length c] W fun e w' => e = .returned (.string T) ∧ Below W.heap.size W w') := fun W hb => by
    have := reftext_any A c l W (Kd.C_below hr hb) hc hl (by omega)
    rw [← hT] at this
    exact this
  have HCO : Hid (∀ W, MaxV W → Calls Tryz.prog 7 #[.string T] W fun e w' => ∃ v, e = .returned (.tuple #[v, .int .i64 0, .int .i64 0]) ∧ (∀ W, Below w'.heap.size w' W → (convert 22 9 v).run Tryz.prog W = .ok (.string (strOfNums l)) W) ∧ Below W.heap.size W w') := fun W hm => by
    refine (code_str T W hm).mono ?_
    rintro e w' ⟨v, he, h1, h2, _⟩
    rw [hcode] at he h1
    exact ⟨v, he, h1, h2⟩
  have HN := Lib.hid hn
  clear hr hl hn hT hbT hcode hm
  go_enter Tryz.func3, Tryz.ntmps3
  go_wp2_with (at_builtin; refine print_append_row (w0 := w) w.heap.size rfl (.tmp 12) (.tmp 13) 22 5 .u8 1 rfl Tryz.underlying22 info5 (by decide) _ ([] : List Int) l A l.length c rfl rfl (own_empty (Blk.new' _ _ _ rfl) (Nat.le_refl _)) (HR1.out _ (below_alloc (Below.refl _ _) _)) (below_alloc (Below.refl _ _) _) (by simp) (by have := HN.out; simp; omega) ?_; intro v1 w1 ho1 hb1 _ _)
  obtain ⟨A1, c1, rfl, hc1, hr1⟩ : ∃ A1 c1, v1 = .slice A1 l.length c1 ∧ l.length ≤ c1 ∧ (Kd.int .u8).C w1 A1 l.length l := OwnB.reads (base := w.heap.size) ho1
  have HB1 := Lib.hid hb1
  have HR2 := Lib.hid hr1
  have HC1 := Lib.hid hc1
  clear ho1 hb1 hr1 hc1
  refine (HE1.out _ _ _ HR2.out HC1.out).mono ?_
  rintro e w2 ⟨rfl, hb2⟩
  have HB2 := Lib.hid (bel_then HB1.out hb2)
  have HR3 := Lib.hid (Kd.C_below HR2.out hb2)
  clear hb2
  go_wp2_with (go_at_call 7; refine (HCO.out _ (HM.out.below HM.out.lt HB2.out)).mono ?_; rintro e w3 ⟨v3, rfl, hv3, hb3⟩)
  have HV3 := Lib.hid hv3
  have HB3 := Lib.hid (bel_then HB2.out hb3)
  have HR4 := Lib.hid (Kd.C_below HR3.out hb3)
  clear hb3 hv3
  go_wp2_with (first | (go_at_call 5; refine (fixed27 _ (HM.out.below HM.out.lt HB3.out)).mono ?_; rintro e w4 ⟨rfl, hb4⟩) | (go_at_call 8; refine (HE2.out _ (bel_then HB3.out hb4)).mono ?_; rintro e w5 ⟨rfl, hb5⟩; have cv3 := HV3.out _ (bel_then hb4 hb5); have cv := HCV.out _ (bel_then (bel_then HB3.out hb4) hb5); have co := conv_bytes (c := c1) (Kd.C_below (Kd.C_below HR4.out hb4) hb5)))
  go_ret
  exact ⟨by simp, bel_then (bel_then HB3.out hb4) hb5⟩
theorem asmTexts_any (A : Option Addr) (c : Nat) (l : List Int) (w : World) (hr : (Kd.int .u8).C w A l.length l) (hc : l.length ≤ c) (hl : ∀ c ∈ l, 0 ≤ c ∧ c < 256) (hm : MaxV w) :
    Calls Tryz.prog 3 #[.slice A l.length c] w fun e w' => e = .returned (.bool true) ∧ Below w.heap.size w w' := by
  by_cases h : 1500 < l.length
  · exact asmTexts_long A c l w h hm
  · exact asmTexts_short A c l w hr hc hl (by omega) hm
end Go.Proofs.YtibhijjmmagdcaaGreatDoor
