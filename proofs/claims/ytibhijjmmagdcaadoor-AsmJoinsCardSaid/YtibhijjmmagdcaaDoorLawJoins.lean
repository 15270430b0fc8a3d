/- smithylaw27.AsmJoins: the walk. -/
import Derived.Test.YtibhijjmmagdcaaDoorAsmMain
namespace Go.Proofs.YtibhijjmmagdcaaDoor
set_option linter.unusedVariables false
set_option linter.unusedSimpArgs false
open Go.RowKit Go.Proofs.YtibhijjmmagdcaaDoorW.PrintWords Go.Proofs.YtibhijjmmagdcaaDoorW.PrintLast
theorem bare_of {s : ByteArray} (h : ∀ k, k < s.size → bt s (k : Int) ≠ 58 ∧ bt s (k : Int) ≠ 64) : bare (bytesOf s) := by
  intro c hc
  obtain ⟨k, hk, rfl⟩ := List.mem_iff_getElem.1 hc
  rw [bytesOf_length] at hk
  rw [bytesOf_get s k hk]
  exact h k hk
theorem bytesOf_app (s t : ByteArray) : bytesOf (s ++ t) = bytesOf s ++ bytesOf t := by simp [bytesOf, ByteArray.data_append]
theorem bytesOf_line (s t : ByteArray) : bytesOf (s ++ ⟨#[10]⟩ ++ t) = bytesOf s ++ 10 :: bytesOf t := by
  rw [bytesOf_app, bytesOf_app]
  simp [bytesOf]
set_option maxRecDepth 100000 in
theorem joins_long (s t : ByteArray) (w : World) (hm : MaxV w) (h : 800 < s.size ∨ 800 < t.size) :
    Calls Tryd.prog 7 #[.string s, .string t] w fun e w' => e = .returned (.bool true) ∧ Below w.heap.size w w' := by
  have HM := Lib.hid hm
  have key : (800 : Int) < s.size ∨ (¬ (800 : Int) < s.size ∧ (800 : Int) < t.size) := by omega
  clear h hm
  rcases key with a | ⟨a, b⟩
  all_goals
    go_enter Tryd.func7, Tryd.ntmps7
    go_wp2_with (go_at_call 21; refine (fixed27 _ HM.out).mono ?_; rintro e w1 ⟨rfl, hb1⟩)
    go_ret
    exact ⟨rfl, hb1⟩
/-- One text or the other. -/
def selS (s t : ByteArray) (k : Nat) : ByteArray := if k = 0 then s else t
def JoinS (s t : ByteArray) (w : World) (W : World) : Prop := Below w.heap.size w W ∧ Blk W w.heap.size #[.string s, .string t] 9
set_option maxRecDepth 100000 in
set_option maxHeartbeats 1000000 in
theorem joins_main (s t : ByteArray) (w : World) (hm : MaxV w) (hs : s.size ≤ 800) (ht : t.size ≤ 800) :
    Calls Tryd.prog 7 #[.string s, .string t] w fun e w' => e = .returned (.bool true) ∧ Below w.heap.size w w' := by
  have HM := Lib.hid hm
  have q1 : ¬ (800 : Int) < s.size := by omega
  have q2 : ¬ (800 : Int) < t.size := by omega
  have HSZ : Hid (∀ k, (selS s t k).size ≤ 800) := fun k => by unfold selS; split <;> assumption
  have HS := Lib.hid hs
  have HT := Lib.hid ht
  clear hm hs ht
  go_enter Tryd.func7, Tryd.ntmps7
  go_wp2_with fail
  refine wp_any_world (JoinS s t w) ⟨below_alloc (Below.refl _ _) _, Blk.new _ _ _⟩ ?_
  intro w1 hS
  go_loopw [30] (fun i wr => ∃ k : Nat, k ≤ 2 ∧ i = .int .i64 k ∧ (∀ j, j < k → bare (bytesOf (selS s t j))) ∧ JoinS s t w wr) (fun i _ => 2 - (intOf i).toNat)
  case atStart => exact ⟨0, by omega, rfl, fun j hj => by omega, hS⟩
  case round =>
    clear hS
    obtain ⟨k, hk, rfl, hbar, hB, hblk⟩ := hrel
    by_cases hlt : k < 2
    · have p0 : (0 : Int) ≤ (k : Int) := by omega
      have p1 : (k : Int) < 2 := by omega
      obtain ⟨x, hx⟩ : ∃ x, selS s t k = x := ⟨_, rfl⟩
      have cc : wr.cell? ⟨w.heap.size, k, none⟩ = some (.string x) := by
        rw [hblk.cell k, ← hx]
        obtain rfl | rfl : k = 0 ∨ k = 1 := by omega
        · rfl
        · rfl
      have HX := Lib.hid hx
      have HXS : Hid (x.size ≤ 800) := by rw [← hx]; exact HSZ.out k
      have HBAR := Lib.hid hbar
      have HJ : Hid (JoinS s t w wr) := ⟨hB, hblk⟩
      clear hbar hB hblk hx
      go_wp2_with fail
      clear cc
      obtain ⟨wo, rfl⟩ : ∃ wo : World, wo = wr := ⟨_, rfl⟩
      go_loopw [36] (fun i wx => ∃ m : Nat, m ≤ x.size ∧ i = .int .i64 m ∧ (∀ j, j < m → bt x (j : Int) ≠ 58 ∧ bt x (j : Int) ≠ 64) ∧ wx = wo) (fun i _ => x.size - (intOf i).toNat)
      case atStart => exact ⟨0, by omega, rfl, fun j hj => by omega, rfl⟩
      case round =>
        obtain ⟨m, hm, rfl, hno, rfl⟩ := hrel
        by_cases hmlt : m < x.size
        · have r0 : (0 : Int) ≤ (m : Int) := by omega
          have r1 : (m : Int) < (x.size : Int) := by omega
          have r2 : (m : Int) < 1000000 := by have := HXS.out; omega
          have bb := bt_nat x m
          have HNO := Lib.hid hno
          clear hno
          by_cases h58 : bt x (m : Int) = 58
          · go_wp2_with (go_at_call 21; refine (fixed27 _ (HM.out.below HM.out.lt HJ.out.1)).mono ?_; rintro e w2 ⟨rfl, hb2⟩)
            go_ret
            exact ⟨rfl, bel_then HJ.out.1 hb2⟩
          by_cases h64 : bt x (m : Int) = 64
          · go_wp2_with (go_at_call 21; refine (fixed27 _ (HM.out.below HM.out.lt HJ.out.1)).mono ?_; rintro e w2 ⟨rfl, hb2⟩)
            go_ret
            exact ⟨rfl, bel_then HJ.out.1 hb2⟩
          · have g58 : (bt x (m : Int) == 58) = false := beq_eq_false_iff_ne.2 h58
            have g64 : (bt x (m : Int) == 64) = false := beq_eq_false_iff_ne.2 h64
            have H58 := Lib.hid h58
            have H64 := Lib.hid h64
            clear h58 h64
            go_wp2_with fail
            go_roundw
            case rel => exact ⟨m + 1, by omega, by go_num, fun j hj => by
              rcases Nat.lt_or_ge j m with h | h
              · exact HNO.out j h
              · obtain rfl : j = m := by omega
                exact ⟨H58.out, H64.out⟩, trivial⟩
            case measure => simp [intOf]; omega
        · obtain rfl : m = x.size := by omega
          have HBX := Lib.hid (bare_of hno)
          clear hno
          go_wp2_with fail
          go_roundw
          case rel => exact ⟨k + 1, by omega, by go_num, fun j hj => by
            rcases Nat.lt_or_ge j k with h | h
            · exact HBAR.out j h
            · obtain rfl : j = k := by omega
              rw [HX.out]
              exact HBX.out, HJ.out⟩
          case measure => simp [intOf]; omega
    · obtain rfl : k = 2 := by omega
      have hbs : bare (bytesOf s) := hbar 0 (by omega)
      have hbt : bare (bytesOf t) := hbar 1 (by omega)
      have HC := Lib.hid (code_joins hbs hbt (by rw [bytesOf_length, bytesOf_length]; have := HS.out; have := HT.out; omega))
      have HB := Lib.hid hB
      have HC1 := Lib.hid fun (W : World) (h : Below w.heap.size w W) => code_str s W (HM.out.below HM.out.lt h)
      have HC2 := Lib.hid fun (W : World) (h : Below w.heap.size w W) => code_str t W (HM.out.below HM.out.lt h)
      have HC3 := Lib.hid fun (W : World) (h : Below w.heap.size w W) => code_str (s ++ ⟨#[10]⟩ ++ t) W (HM.out.below HM.out.lt h)
      rw [bytesOf_line] at HC3
      obtain ⟨⟨a, n1, e1⟩, h1⟩ : ∃ r, codeF (bytesOf s) = r := ⟨_, rfl⟩
      obtain ⟨⟨b, n2, e2⟩, h2⟩ : ∃ r, codeF (bytesOf t) = r := ⟨_, rfl⟩
      obtain ⟨⟨c, n3, e3⟩, h3⟩ : ∃ r, codeF (bytesOf s ++ 10 :: bytesOf t) = r := ⟨_, rfl⟩
      rw [h1] at HC1
      rw [h2] at HC2
      rw [h3] at HC3
      rw [h1, h2, h3] at HC
      clear h1 h2 h3 hbs hbt hbar hB hblk
      have z1 : ¬ 9223372036854775807 < s.size + 1 := by have := HS.out; omega
      have z2 : ¬ 9223372036854775807 < (s ++ ⟨#[10]⟩).size + t.size := by have := HS.out; have := HT.out; rw [ByteArray.size_append]; show ¬ _ < s.size + 1 + t.size; omega
      by_cases he : e1 ≠ 0 ∨ e2 ≠ 0
      · have he3 : (e3 != 0) = true := by have := HC.out.1 he; simpa using this
        by_cases he1 : e1 = 0
        · have he2 : (e2 != 0) = true := by rcases he with h | h <;> simp_all
          subst he1
          clear he
          go_wp2_with (first | (go_at_call 23; first | (have _g := E3; refine (HC3.out _ E3.out).mono ?_; rintro e w4 ⟨v4, rfl, hv4, hb4, hl4⟩; have E4 := Lib.hid (bel_then E3.out hb4); have B4 := Lib.hid hb4; have V4 := Lib.hid hv4; have L4 := Lib.hid hl4; clear hb4 hv4 hl4 _g) | (have _g := E2; refine (HC2.out _ E2.out).mono ?_; rintro e w3 ⟨v3, rfl, hv3, hb3, hl3⟩; have E3 := Lib.hid (bel_then E2.out hb3); have B3 := Lib.hid hb3; have V3 := Lib.hid hv3; clear hb3 hv3 hl3 _g) | (refine (HC1.out _ HB.out).mono ?_; rintro e w2 ⟨v2, rfl, hv2, hb2, hl2⟩; have E2 := Lib.hid (bel_then HB.out hb2); have V2 := Lib.hid hv2; clear hb2 hv2 hl2)) | (go_at_call 21; refine (fixed27 _ (HM.out.below HM.out.lt E4.out)).mono ?_; rintro e w5 ⟨rfl, hb5⟩; have B5 := Lib.hid hb5; have k4 := V4.out _ hb5; have k3 := V3.out _ (bel_then B4.out hb5); have k2 := V2.out _ (bel_then (bel_then B3.out B4.out) hb5); clear hb5))
          go_ret
          exact ⟨rfl, bel_then E4.out B5.out⟩
        · have he1b : (e1 != 0) = true := by simpa using he1
          clear he he1
          go_wp2_with (first | (go_at_call 23; first | (have _g := E3; refine (HC3.out _ E3.out).mono ?_; rintro e w4 ⟨v4, rfl, hv4, hb4, hl4⟩; have E4 := Lib.hid (bel_then E3.out hb4); have B4 := Lib.hid hb4; have V4 := Lib.hid hv4; have L4 := Lib.hid hl4; clear hb4 hv4 hl4 _g) | (have _g := E2; refine (HC2.out _ E2.out).mono ?_; rintro e w3 ⟨v3, rfl, hv3, hb3, hl3⟩; have E3 := Lib.hid (bel_then E2.out hb3); have B3 := Lib.hid hb3; have V3 := Lib.hid hv3; clear hb3 hv3 hl3 _g) | (refine (HC1.out _ HB.out).mono ?_; rintro e w2 ⟨v2, rfl, hv2, hb2, hl2⟩; have E2 := Lib.hid (bel_then HB.out hb2); have V2 := Lib.hid hv2; clear hb2 hv2 hl2)) | (go_at_call 21; refine (fixed27 _ (HM.out.below HM.out.lt E4.out)).mono ?_; rintro e w5 ⟨rfl, hb5⟩; have B5 := Lib.hid hb5; have k4 := V4.out _ hb5; have k3 := V3.out _ (bel_then B4.out hb5); have k2 := V2.out _ (bel_then (bel_then B3.out B4.out) hb5); clear hb5))
          go_ret
          exact ⟨rfl, bel_then E4.out B5.out⟩
      · have h1 : e1 = 0 := by omega
        have h2 : e2 = 0 := by omega
        subst h1 h2
        obtain ⟨h3, h4⟩ := HC.out.2 rfl rfl
        simp only at h3 h4
        subst h3 h4
        clear he
        have HSA := Lib.hid (@strOfNums_app)
        have HLN : Hid ((a ++ b).length ≤ 9223372036854775807 → ¬ 9223372036854775807 < (strOfNums a).size + (strOfNums b).size) := fun h => by
          rw [strOfNums_size, strOfNums_size]
          rw [List.length_append] at h
          omega
        go_wp2_with (first | (go_at_call 23; first | (have _g := E3; refine (HC3.out _ E3.out).mono ?_; rintro e w4 ⟨v4, rfl, hv4, hb4, hl4⟩; have E4 := Lib.hid (bel_then E3.out hb4); have B4 := Lib.hid hb4; have V4 := Lib.hid hv4; have L4 := HLN.out hl4; clear hb4 hv4 hl4 _g) | (have _g := E2; refine (HC2.out _ E2.out).mono ?_; rintro e w3 ⟨v3, rfl, hv3, hb3, hl3⟩; have E3 := Lib.hid (bel_then E2.out hb3); have B3 := Lib.hid hb3; have V3 := Lib.hid hv3; clear hb3 hv3 hl3 _g) | (refine (HC1.out _ HB.out).mono ?_; rintro e w2 ⟨v2, rfl, hv2, hb2, hl2⟩; have E2 := Lib.hid (bel_then HB.out hb2); have V2 := Lib.hid hv2; clear hb2 hv2 hl2)) | (go_at_call 21; refine (fixed27 _ (HM.out.below HM.out.lt E4.out)).mono ?_; rintro e w5 ⟨rfl, hb5⟩; have B5 := Lib.hid hb5; have k4 := V4.out _ hb5; rw [strOfNums_app] at k4; have k3 := V3.out _ (bel_then B4.out hb5); have k2 := V2.out _ (bel_then (bel_then B3.out B4.out) hb5); clear hb5))
        go_ret
        exact ⟨rfl, bel_then E4.out B5.out⟩
theorem asmJoins_any (s t : ByteArray) (w : World) (hm : MaxV w) : Calls Tryd.prog 7 #[.string s, .string t] w fun e w' => e = .returned (.bool true) ∧ Below w.heap.size w w' := by
  by_cases h : 800 < s.size ∨ 800 < t.size
  · exact joins_long s t w hm h
  · exact joins_main s t w hm (by omega) (by omega)
end Go.Proofs.YtibhijjmmagdcaaDoor
