/- smithyref27.Number, walked: its other ways in. -/
import Derived.Test.YtibhijjmmagdcaaGreatDoorRefNum3
namespace Go.Proofs.YtibhijjmmagdcaaGreatDoor
set_option linter.unusedVariables false
set_option linter.unusedSimpArgs false
open Go.RowKit Go.Proofs.YtibhijjmmagdcaaGreatDoorW.PrintWords Go.Proofs.YtibhijjmmagdcaaGreatDoorW.PrintLast
set_option maxRecDepth 100000 in
set_option maxHeartbeats 2000000 in
theorem refnum_d (s : ByteArray) (hs : s.size ≤ 1000) (w : World) (h2 : 2 ≤ s.size) (h0 : bt s 0 = 48) (h : bt s 1 = 120) (T : ByteArray) (hT : s.extract 2 s.size = T) :
    Calls Tryz.prog 10 #[.string s] w fun e w' => e = .returned (.tuple #[wordF (limbF (refVal 16 64 (bytesOf T))), .int .i64 (refErr 16 64 (bytesOf T))]) ∧ Below w.heap.size w w' := by
  have ZL : Hid (arrF .u64 4 (limbF 0) = arrF .u64 4 fun _ => 0) := arrF_ext fun i _ => by simp [limbF]
  have hz := zero25
  have HTS : Hid (T.size ≤ 1000) := by unfold Hid; rw [← hT, ByteArray.size_extract]; omega
  have g0 : (2 : Int) ≤ (s.size : Int) := by omega
  have g1 : (bt s 0 == 48) = true := by rw [h0]; rfl
  have g2 : (bt s 1 == 120) = true := by rw [h]; rfl
  have x0 := bt_zero s
  have x1 := bt_one s
  clear h h0 h2 hs
  by_cases t0 : T.size = 0
  · have HE : Hid (refErr 16 64 (bytesOf T) = 2) := by unfold Hid refErr; exact if_pos (.inl (List.eq_nil_of_length_eq_zero (by rw [bytesOf_length]; exact t0)))
    have HV : Hid (refVal 16 64 (bytesOf T) = 0) := by unfold Hid refVal; rw [HE.out]; rfl
    rw [HE.out, HV.out]
    unfold wordF
    rw [ZL.out]
    have tz : ((T.size : Int) == 0) = true := by rw [t0]; rfl
    clear t0
    go_enter Tryz.func10, Tryz.ntmps10
    go_wp2_with ((with_reducible refine gate_op (.store 31 (.tmp 2) (.tmp 28)) rfl ?_); refine wpl_store_blk rfl 31 (.tmp 2) (.tmp 28) rfl _ rfl _ _ _ rfl (Blk.new _ _ _) 4 size25 (arrF_size _ _ _) (arrF_size _ _ _) (arrF_one _ _ _) ?_; intro W4 hO4 hB4)
    refine ret_blk2 Tryz.results10 _ _ _ _ rfl hB4 Tryz.underlying31 rfl 4 size25 (arrF_size _ _ _) rfl ⟨rfl, Only.below (below_alloc (Below.refl _ _) _) hO4 (Nat.le_refl _)⟩
  · have tz : ((T.size : Int) == 0) = false := by rw [beq_eq_false_iff_ne]; omega
    have HNE : Hid (bytesOf T ≠ []) := fun h => t0 (by rw [← bytesOf_length, h]; rfl)
    obtain ⟨ev, hev⟩ : ∃ ev, refErr 16 64 (bytesOf T) = ev := ⟨_, rfl⟩
    obtain ⟨vv, hvv⟩ : ∃ vv, refVal 16 64 (bytesOf T) = vv := ⟨_, rfl⟩
    rw [hev, hvv]
    have HEV := Lib.hid hev
    have HVV := Lib.hid hvv
    unfold wordF
    clear t0 hev hvv
    go_enter Tryz.func10, Tryz.ntmps10
    go_wp2_with fail
    refine wp_any_world (RnS w) ⟨below_alloc (Below.refl _ _) _, Blk.new _ _ _⟩ ?_
    intro w0 hS0
    have HS0 := Lib.hid hS0
    clear hS0
    go_loopw [6] (fun i wr => ∃ k : Nat, k ≤ T.size ∧ i = .int .i64 k ∧ (∀ j, j < k → 0 ≤ hv (bt T (j : Int)) ∧ hv (bt T (j : Int)) < 16) ∧ RnS w wr) (fun i _ => T.size - (intOf i).toNat)
    case atStart => exact ⟨0, by omega, rfl, fun j hj => by omega, HS0.out⟩
    case round =>
      clear HS0
      obtain ⟨k, hk, rfl, hg, hS⟩ := hrel
      have HS := Lib.hid hS
      have HG := Lib.hid hg
      clear hS hg
      by_cases hlt : k < T.size
      · have p0 : (0 : Int) ≤ (k : Int) := by omega
        have p1 : (k : Int) < (T.size : Int) := by omega
        have p2 : (k : Int) < 1000000 := by have := HTS.out; omega
        have bb := bt_nat T k
        have hb := bt_range T (k : Int)
        have HRV := Lib.hid (refvalue_any (bt T (k : Int)) wr hb.1 (by omega))
        have hbad := @bad_at T 16 k hlt
        have HBAD := Lib.hid hbad
        have HSZ := Lib.hid hlt
        have hle := hv_le (bt T (k : Int))
        obtain ⟨d, hd⟩ : ∃ d, hv (bt T (k : Int)) = d := ⟨_, rfl⟩
        have HD := Lib.hid hd
        rw [hd] at HRV HBAD hle
        clear hbad hd hb hlt
        by_cases hx : d < 0 ∨ 16 ≤ d
        · have h2 : ev = 2 := by rw [← HEV.out]; unfold refErr; exact if_pos (.inr (HBAD.out hx))
          have h3 : vv = 0 := by rw [← HVV.out]; unfold refVal; rw [HEV.out, h2]; rfl
          subst h2 h3
          rcases hx with h4 | h4
          · go_wp2_with (first | (go_at_call 28; refine HRV.out.mono ?_; rintro e w1 ⟨rfl, rfl⟩) | ((with_reducible refine gate_op (.store 31 (.tmp 2) (.tmp 46)) rfl ?_); refine wpl_store_blk rfl 31 (.tmp 2) (.tmp 46) rfl _ rfl _ _ _ rfl HS.out.2 4 size25 (arrF_size _ _ _) (arrF_size _ _ _) (arrF_one _ _ _) ?_; intro W4 hO4 hB4))
            refine ret_blk2 Tryz.results10 _ _ _ _ rfl hB4 Tryz.underlying31 rfl 4 size25 (arrF_size _ _ _) rfl ⟨by rw [ZL.out]; rfl, Only.below HS.out.1 hO4 (Nat.le_refl _)⟩
          · have h5 : ¬ d < 0 := by omega
            go_wp2_with (first | (go_at_call 28; refine HRV.out.mono ?_; rintro e w1 ⟨rfl, rfl⟩) | ((with_reducible refine gate_op (.store 31 (.tmp 2) (.tmp 46)) rfl ?_); refine wpl_store_blk rfl 31 (.tmp 2) (.tmp 46) rfl _ rfl _ _ _ rfl HS.out.2 4 size25 (arrF_size _ _ _) (arrF_size _ _ _) (arrF_one _ _ _) ?_; intro W4 hO4 hB4))
            refine ret_blk2 Tryz.results10 _ _ _ _ rfl hB4 Tryz.underlying31 rfl 4 size25 (arrF_size _ _ _) rfl ⟨by rw [ZL.out]; rfl, Only.below HS.out.1 hO4 (Nat.le_refl _)⟩
        · have h5 : ¬ d < 0 := by omega
          have h6 : ¬ 16 ≤ d := by omega
          have HX : Hid (0 ≤ d ∧ d < 16) := ⟨by omega, by omega⟩
          clear hx
          have g5 : decide (d < 0) = false := decide_eq_false h5
          have g6 : decide (16 ≤ d) = false := decide_eq_false h6
          clear h5 h6 hle
          go_wp2_with (first | (go_at_call 28; refine HRV.out.mono ?_; rintro e w1 ⟨rfl, rfl⟩))
          go_roundw
          case rel => exact ⟨k + 1, HSZ.out, by go_num, fun j hj => by
            rcases Nat.lt_or_ge j k with h | h
            · exact HG.out j h
            · obtain rfl : j = k := by omega
              rw [HD.out]
              exact HX.out, HS.out⟩
          case measure => have := HSZ.out; simp [intOf]; omega
      · obtain rfl : k = T.size := by omega
        have HNB := Lib.hid (no_bad_at HG.out)
        have h21 : ¬ (bytesOf T = [] ∨ badB 16 (bytesOf T) = true) := by rw [HNB.out]; rintro (h | h); exact HNE.out h; cases h
        have hE2 : ev = if 64 < T.size then 5 else if M256 ≤ numB 16 (bytesOf T) then 5 else 0 := by rw [← HEV.out]; unfold refErr; rw [if_neg h21, bytesOf_length]
        by_cases hmo : 64 < T.size
        · have h2 : ev = 5 := by rw [hE2, if_pos hmo]
          have h3 : vv = 0 := by rw [← HVV.out]; unfold refVal; rw [HEV.out, h2]; rfl
          subst h2 h3
          have q5 : (64 : Int) < (T.size : Int) := by omega
          clear hE2 h21 hmo
          go_wp2_with ((with_reducible refine gate_op (.store 31 (.tmp 2) (.tmp 51)) rfl ?_); refine wpl_store_blk rfl 31 (.tmp 2) (.tmp 51) rfl _ rfl _ _ _ rfl HS.out.2 4 size25 (arrF_size _ _ _) (arrF_size _ _ _) (arrF_one _ _ _) ?_; intro W4 hO4 hB4)
          refine ret_blk2 Tryz.results10 _ _ _ _ rfl hB4 Tryz.underlying31 rfl 4 size25 (arrF_size _ _ _) rfl ⟨by rw [ZL.out]; rfl, Only.below HS.out.1 hO4 (Nat.le_refl _)⟩
        · have q5 : ¬ (64 : Int) < (T.size : Int) := by omega
          rw [if_neg hmo] at hE2
          have HE2 := Lib.hid hE2
          have HMO := Lib.hid hmo
          clear hE2 h21 hmo
          go_wp2_with fail
          refine wp_any_world (fun W => RnS w W ∧ OwnI W w.heap.size (.slice (some ⟨wr.heap.size, 0, none⟩) 0 0) []) ⟨HS.out.below (below_alloc (Below.refl _ _) _), made_nil wr _ HS.out.1.size⟩ ?_
          intro w2 hS2
          have HS2 := Lib.hid hS2
          clear hS2
          go_loopw [8, 9] (fun v i wx => ∃ (r : List Int) (k : Nat), k ≤ T.size ∧ i = .int .i64 k ∧ NumR wx w.heap.size v r ∧ r.length ≤ 3 * k ∧ pre r r.length = numB 16 ((bytesOf T).take k) ∧ RnS w wx) (fun _ i _ => T.size - (intOf i).toNat)
          case atStart => exact ⟨[], 0, by omega, rfl, ⟨HS2.out.2, fun c hc => by cases hc⟩, by simp, rfl, HS2.out.1⟩
          case round =>
            clear HS2
            obtain ⟨r, k, hk, rfl, hR, hrl, hpr, hS3⟩ := hrel
            obtain ⟨A, c, rfl, _, hrd⟩ := hR.1.reads
            have HR := Lib.hid hR
            have HRD := Lib.hid hrd
            have HS3 := Lib.hid hS3
            have HRL := Lib.hid hrl
            clear hR hrd hS3
            by_cases hlt : k < T.size
            · have p0 : (0 : Int) ≤ (k : Int) := by omega
              have p1 : (k : Int) < (T.size : Int) := by omega
              have p2 : (k : Int) < 1000000 := by have := HTS.out; omega
              have bb := bt_nat T k
              have hb := bt_range T (k : Int)
              have hgk := HG.out k hlt
              have HRV := Lib.hid (fun W => refvalue_any (bt T (k : Int)) W hb.1 (by omega))
              have hnx := numB_next 16 hlt
              rw [← hpr] at hnx
              have HNX := Lib.hid hnx
              have HK := Lib.hid hlt
              have HL2 : Hid (r.length ≤ 3000) := by have := HTS.out; have := HRL.out; unfold Hid; omega
              obtain ⟨d, hd⟩ : ∃ d, hv (bt T (k : Int)) = d := ⟨_, rfl⟩
              rw [hd] at HRV hgk HNX
              have HGK := Lib.hid hgk
              clear hnx hd hb hgk hlt hpr hrl
              go_wp2_with fail
              go_region_with (first | (go_at_call 30; refine (times_one A c r 16 _ _ (Kd.C_below HRD.out (by repeat (first | exact Below.refl _ _ | refine bel_drew ?_ | refine bel_drewN ?_ _ | refine below_alloc ?_ _))) (by go_simp) HR.out.2 (by omega) (by have := HL2.out; omega) (HS3.out.below (by repeat (first | exact Below.refl _ _ | refine bel_drew ?_ | refine bel_drewN ?_ _ | refine below_alloc ?_ _)))).mono ?_; rintro e wA ⟨A1, c1, r1, rfl, hN1, hl1, hp1, hS4, _⟩; have HN1 := Lib.hid hN1; have HP1 := Lib.hid hp1; have HL1 := Lib.hid hl1; have HS4 := Lib.hid hS4; clear hN1 hp1 hl1 hS4) | (go_at_call 28; refine (HRV.out _).mono ?_; rintro e wB ⟨rfl, rfl⟩) | (go_at_call 29; refine (plus_one A1 c1 r1 d _ _ (HN1.out.below (by repeat (first | exact Below.refl _ _ | refine bel_drew ?_ | refine bel_drewN ?_ _ | refine below_alloc ?_ _))) (by go_simp) (by have := HGK.out; omega) (by have := HL1.out; have := HL2.out; omega) (HS4.out.below (by repeat (first | exact Below.refl _ _ | refine bel_drew ?_ | refine bel_drewN ?_ _ | refine below_alloc ?_ _)))).mono ?_; rintro e wC ⟨A2, c2, r2, rfl, hN2, hl2, hp2, hS5⟩; have HN2 := Lib.hid hN2; have HP2 := Lib.hid hp2; have HL3 := Lib.hid hl2; have HS5 := Lib.hid hS5; clear hN2 hp2 hl2 hS5))
              all_goals
                go_wp2_with fail
                go_roundw
                case rel => exact ⟨r2, k + 1, HK.out, by go_num, HN2.out, by have := HL3.out; have := HL1.out; have := HRL.out; omega, by rw [HP2.out, HP1.out, HNX.out], HS5.out⟩
                case measure => have := HK.out; simp [intOf]; omega
            · obtain rfl : k = T.size := by omega
              rw [List.take_of_length_le (by rw [bytesOf_length]; exact Nat.le_refl _)] at hpr
              have HPR := Lib.hid hpr
              have HL2 : Hid (r.length ≤ 3000) := by have := HTS.out; have := HRL.out; unfold Hid; omega
              have HHI := Lib.hid (fun W hb => high_any w.heap.size _ r W (HR.out.1.below (w1 := W) hb) (by have := HL2.out; omega))
              have HZE := Lib.hid (high_zero HR.out.2)
              have HZA : Hid (∀ (W : World) (A : Option Addr) (c : Nat), (Kd.int .i64).C W A (r.drop 32).length (r.drop 32) → Calls Tryz.prog 31 #[.slice A (r.drop 32).length c] W fun e w' => e = .returned (.bool ((r.drop 32).all fun x => decide (x = 0))) ∧ w' = W) := fun W A c h => zero_any A c _ W h (by have := HL2.out; rw [List.length_drop]; omega)
              obtain ⟨mh, hmh⟩ : ∃ mh, (r.drop 32).length = mh := ⟨_, rfl⟩
              obtain ⟨zb, hzb⟩ : ∃ zb, ((r.drop 32).all fun x => decide (x = 0)) = zb := ⟨_, rfl⟩
              rw [hmh] at HHI HZA
              rw [hzb] at HZA HZE
              clear hpr hrl hmh hzb
              by_cases hbig : M256 ≤ numB 16 (bytesOf T)
              · have h2 : ev = 5 := by rw [HE2.out, if_pos hbig]
                have h3 : vv = 0 := by rw [← HVV.out]; unfold refVal; rw [HEV.out, h2]; rfl
                subst h2 h3
                obtain rfl : zb = false := by rw [HZE.out, HPR.out]; exact decide_eq_false (by omega)
                clear hbig
                go_wp2_with (first | (go_at_call 32; refine (HHI.out _ (Below.refl _ _)).mono ?_; rintro e wA ⟨A1, c1, rfl, hc1, hbA⟩; have HB1 := Lib.hid hbA; have HC1 := Lib.hid hc1; clear hbA hc1) | (go_at_call 31; refine (HZA.out _ _ _ HC1.out).mono ?_; rintro e wB ⟨rfl, rfl⟩) | ((with_reducible refine gate_op (.store 31 (.tmp 2) (.tmp 73)) rfl ?_); refine wpl_store_blk rfl 31 (.tmp 2) (.tmp 73) rfl _ rfl _ _ _ rfl (HS3.out.below HB1.out).2 4 size25 (arrF_size _ _ _) (arrF_size _ _ _) (arrF_one _ _ _) ?_; intro W4 hO4 hB4))
                refine ret_blk2 Tryz.results10 _ _ _ _ rfl hB4 Tryz.underlying31 rfl 4 size25 (arrF_size _ _ _) rfl ⟨by rw [ZL.out]; rfl, Only.below (HS3.out.below HB1.out).1 hO4 (Nat.le_refl _)⟩
              · have h2 : ev = 0 := by rw [HE2.out, if_neg hbig]
                have h3 : vv = numB 16 (bytesOf T) := by rw [← HVV.out]; unfold refVal; rw [HEV.out, h2]; rfl
                subst h2
                obtain rfl : zb = true := by rw [HZE.out, HPR.out]; exact decide_eq_true (by omega)
                have HWL : Hid (arrF .u64 4 (fun j => horn 256 (fun i => r.getD i 0) j 8) = arrF .u64 4 (limbF vv)) := by
                  have := word_limb HR.out.2 (by rw [HPR.out]; omega)
                  rw [HPR.out, ← h3] at this
                  unfold wordF at this
                  injection this with this
                have HNW := Lib.hid (fun W hb => nword_any A c r W (Kd.C_below HRD.out hb) HR.out.2)
                unfold wordF at HNW
                rw [HWL.out] at HNW
                clear hbig h3
                go_wp2_with (first | (go_at_call 32; refine (HHI.out _ (Below.refl _ _)).mono ?_; rintro e wA ⟨A1, c1, rfl, hc1, hbA⟩; have HB1 := Lib.hid hbA; have HC1 := Lib.hid hc1; clear hbA hc1) | (go_at_call 31; refine (HZA.out _ _ _ HC1.out).mono ?_; rintro e wB ⟨rfl, rfl⟩) | (go_at_call 33; refine (HNW.out _ HB1.out).mono ?_; rintro e wD ⟨rfl, hbD⟩; have HB2 := Lib.hid (bel_then HB1.out hbD); clear hbD) | ((with_reducible refine gate_op (.store 31 (.tmp 2) (.tmp 75)) rfl ?_); refine wpl_store_blk rfl 31 (.tmp 2) (.tmp 75) rfl _ rfl _ _ _ rfl (HS3.out.below HB2.out).2 4 size25 (arrF_size _ _ _) (arrF_size _ _ _) (arrF_one _ _ _) ?_; intro W4 hO4 hB4))
                refine ret_blk2 Tryz.results10 _ _ _ _ rfl hB4 Tryz.underlying31 rfl 4 size25 (arrF_size _ _ _) rfl ⟨rfl, Only.below (HS3.out.below HB2.out).1 hO4 (Nat.le_refl _)⟩
end Go.Proofs.YtibhijjmmagdcaaGreatDoor
