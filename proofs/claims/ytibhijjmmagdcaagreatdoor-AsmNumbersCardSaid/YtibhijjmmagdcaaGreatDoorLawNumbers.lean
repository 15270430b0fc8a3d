/- smithylaw27.AsmNumbers: the walk. -/
import Derived.Test.YtibhijjmmagdcaaGreatDoorAsmMain
import Derived.Test.YtibhijjmmagdcaaGreatDoorRefNum3
import Derived.Test.YtibhijjmmagdcaaGreatDoorRefNum3b
import Derived.Test.YtibhijjmmagdcaaGreatDoorRefNum3c
import Derived.Test.YtibhijjmmagdcaaGreatDoorRefNum3d
import Derived.Test.YtibhijjmmagdcaaGreatDoorLawTexts
namespace Go.Proofs.YtibhijjmmagdcaaGreatDoor
set_option linter.unusedVariables false
set_option linter.unusedSimpArgs false
open Go.RowKit Go.Proofs.YtibhijjmmagdcaaGreatDoorW.PrintWords Go.Proofs.YtibhijjmmagdcaaGreatDoorW.PrintLast
theorem refnum_any (s : ByteArray) (hs : s.size ≤ 1000) (w : World) :
    Calls Tryz.prog 10 #[.string s] w fun e w' => e = .returned (.tuple #[wordF (limbF (numVal (bytesOf s))), .int .i64 (numErr (bytesOf s))]) ∧ Below w.heap.size w w' := by
  by_cases h2 : s.size < 2
  · have hr := num_ten (rest0x_none_of (s := s) (.inl h2))
    rw [hr.1, hr.2]
    exact refnum_a s hs w h2
  by_cases h0 : bt s 0 = 48
  · by_cases h1 : bt s 1 = 120
    · have hr := num_six (rest0x_of (s := s) (by omega) h0 h1)
      have hd : bytesOf (s.extract 2 s.size) = (bytesOf s).drop 2 := by
        rw [piece s 2 s.size (by omega) (Nat.le_refl _)]
        exact List.take_of_length_le (by rw [List.length_drop, bytesOf_length]; omega)
      rw [hr.1, hr.2, ← hd]
      exact refnum_d s hs w (by omega) h0 h1 _ rfl
    · have hr := num_ten (rest0x_none_of (s := s) (.inr (.inr h1)))
      rw [hr.1, hr.2]
      exact refnum_c s hs w (by omega) h0 h1
  · have hr := num_ten (rest0x_none_of (s := s) (.inr (.inl h0)))
    rw [hr.1, hr.2]
    exact refnum_b s hs w (by omega) h0
theorem asmNumbers_any (s : ByteArray) (w : World) (hm : MaxV w) : Calls Tryz.prog 4 #[.string s] w fun e w' => e = .returned (.bool true) ∧ Below w.heap.size w w' := by
  have HM := Lib.hid hm
  clear hm
  by_cases h : 300 < s.size
  · have p : (300 : Int) < (s.size : Int) := by omega
    clear h
    go_enter Tryz.func4, Tryz.ntmps4
    go_wp2_with (go_at_call 5; refine (fixed27 _ HM.out).mono ?_; rintro e w1 ⟨rfl, hb1⟩)
    go_ret
    exact ⟨rfl, hb1⟩
  · have p : ¬ (300 : Int) < (s.size : Int) := by omega
    have HA := Lib.hid fun W => number_any s (by omega) W
    have HB := Lib.hid fun W => refnum_any s (by omega) W
    obtain ⟨f, hf⟩ : ∃ f, limbF (numVal (bytesOf s)) = f := ⟨_, rfl⟩
    obtain ⟨x, hx⟩ : ∃ x, numErr (bytesOf s) = x := ⟨_, rfl⟩
    rw [hf, hx] at HA HB
    unfold wordF at HA HB
    have heq := eql25 f f
    rw [eqN_refl] at heq
    have hz := zero25
    clear hf hx h
    go_enter Tryz.func4, Tryz.ntmps4
    go_wp2_with (first | (go_at_call 9; refine (HA.out _).mono ?_; rintro e w1 ⟨rfl, hb1⟩) | ((with_reducible refine gate_op (.store 31 (.tmp 3) (.tmp 14)) rfl ?_); refine wpl_store_blk rfl 31 (.tmp 3) (.tmp 14) rfl _ rfl _ _ _ rfl (Blk.new _ _ _) 4 size25 (arrF_size _ _ _) (arrF_size _ _ _) (arrF_one _ _ _) ?_; intro w2 hO2 hB2) | (go_at_call 10; refine (HB.out _).mono ?_; rintro e w3 ⟨rfl, hb3⟩) | ((with_reducible refine gate_op (.store 31 (.tmp 5) (.tmp 19)) rfl ?_); refine wpl_store_blk rfl 31 (.tmp 5) (.tmp 19) rfl _ rfl _ _ _ rfl (Blk.new _ _ _) 4 size25 (arrF_size _ _ _) (arrF_size _ _ _) (arrF_one _ _ _) ?_; intro w4 hO4 hB4))
    have e12 : Below w1.heap.size w1 w2 := Only.below (below_alloc (Below.refl _ _) _) hO2 (Nat.le_refl _)
    have e34 : Below w3.heap.size w3 w4 := Only.below (below_alloc (Below.refl _ _) _) hO4 (Nat.le_refl _)
    have e4 := bel_then (bel_then (bel_then hb1 e12) hb3) e34
    refine (fixed27 _ (HM.out.below HM.out.lt e4)).mono ?_
    rintro e w5 ⟨rfl, hb5⟩
    have k5 := ((hB2.below hb3).below e34).below hb5
    have g5 := hB4.below hb5
    have e5 := bel_then e4 hb5
    clear hB2 hB4 e12 e34 hb1 hb3 hb5 hO2 hO4 e4
    go_wp2_with (first | ((with_reducible refine gate_op (.load 31 (.tmp 3)) rfl ?_); refine guard_on (by rfl) ?_; refine wpl_load_blk rfl 31 (.tmp 3) rfl _ rfl _ _ _ k5 Tryz.underlying31 rfl 4 size25 (arrF_size _ _ _) ?_) | ((with_reducible refine gate_op (.load 31 (.tmp 5)) rfl ?_); refine guard_on (by rfl) ?_; refine wpl_load_blk rfl 31 (.tmp 5) rfl _ rfl _ _ _ g5 Tryz.underlying31 rfl 4 size25 (arrF_size _ _ _) ?_))
    go_ret
    exact ⟨rfl, e5⟩
end Go.Proofs.YtibhijjmmagdcaaGreatDoor
