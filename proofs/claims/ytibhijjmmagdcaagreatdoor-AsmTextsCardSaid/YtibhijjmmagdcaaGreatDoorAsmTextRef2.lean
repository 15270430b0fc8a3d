/- smithyref27.Text, walked. -/
import Derived.Test.YtibhijjmmagdcaaGreatDoorAsmTextRef
namespace Go.Proofs.YtibhijjmmagdcaaGreatDoor
set_option linter.unusedVariables false
set_option linter.unusedSimpArgs false
open Go.RowKit Go.Proofs.YtibhijjmmagdcaaGreatDoorW.PrintWords Go.Proofs.YtibhijjmmagdcaaGreatDoorW.PrintLast
theorem bytes_app2 (a b : ByteArray) : bytesOf (a ++ b) = bytesOf a ++ bytesOf b := by simp [bytesOf, ByteArray.data_append]
set_option maxRecDepth 100000 in
set_option maxHeartbeats 8000000 in
theorem reftext_any (A : Option Addr) (c : Nat) (l : List Int) (w : World) (hr : (Kd.int .u8).C w A l.length l) (hc : l.length ≤ c) (hl : ∀ c ∈ l, 0 ≤ c ∧ c < 256) (hsz : l.length ≤ 3000) :
    Calls Tryz.prog 8 #[.slice A l.length c] w fun e w' => e = .returned (.string (strOfNums (textA l))) ∧ Below w.heap.size w w' := by
  have HOW := Lib.hid (owners_reads A c l w hr hc hl (by omega))
  have HTL := Lib.hid (textA_len hl)
  have HP := Lib.hid (rT_text hl)
  have HGE := Lib.hid (ownS_get 0 0 0 l (by omega) (by omega))
  have HOL := Lib.hid (ownS_len 0 0 0 l)
  have HL := Lib.hid hl
  have HSZ := Lib.hid hsz
  have HC := Lib.hid hc
  have HR := Lib.hid hr
  obtain ⟨own, hown⟩ : ∃ own, own = ownS 0 0 0 l := ⟨_, rfl⟩
  rw [← hown] at HOW HP HOL HGE
  clear hr hl hsz hc hown
  go_enter Tryz.func8, Tryz.ntmps8
  go_wp2_with (go_at_call 18; refine HOW.out.mono ?_; rintro e w1 ⟨A1, c1, rfl, hr1, hb1⟩)
  have HR1 := Lib.hid hr1
  have HB1 := Lib.hid hb1
  clear hr1 hb1
  go_loopw [4, 13] (fun v i wr => ∃ (k : Nat) (S : ByteArray), k ≤ l.length ∧ v = .string S ∧ i = .int .i64 k ∧ textA l = bytesOf S ++ rT l k (own.drop k) ∧ Below w1.heap.size w1 wr) (fun _ i _ => l.length - (intOf i).toNat)
  case atStart => exact ⟨0, ⟨#[]⟩, by omega, rfl, rfl, by rw [List.drop_zero, HP.out]; rfl, Below.refl _ _⟩
  case round =>
    obtain ⟨k, S, hk, rfl, rfl, hspec, hB⟩ := hrel
    by_cases hlt : k < l.length
    · have hlo : k < own.length := by rw [HOL.out]; exact hlt
      have hq0 := HGE.out k hlo
      obtain ⟨ad, hA, HCL⟩ := byte_at HR.out hlt
      subst hA
      obtain ⟨ad1, hA1, HCL1⟩ := ints_at HR1.out hlo
      subst hA1
      rw [List.drop_eq_getElem_cons hlo, rT] at hspec
      obtain ⟨q, hq⟩ : ∃ q : Nat, own[k] = (q : Int) := ⟨(own[k]).toNat, by omega⟩
      rw [hq] at hspec HCL1 hq0
      have hqk : q ≤ k := by omega
      obtain ⟨ad', hA', HCQ⟩ := byte_at HR.out (k := q) (by omega)
      injection hA' with hA'
      subst hA'
      have hbq := HL.out (l[q]'(by omega)) (List.getElem_mem _)
      have c0 := HCQ wr (bel_then HB1.out hB)
      have c1 := HCL1 wr hB
      have p0 : (0 : Int) ≤ (k : Int) := by omega
      have p1 : (k : Int) < (l.length : Int) := by omega
      have p2 : (l.length : Int) ≤ 3000 := by have := HSZ.out; omega
      have p3 : (0 : Int) ≤ (q : Int) := by omega
      have p4 : (q : Int) < (l.length : Int) := by omega
      have p5 : (k : Int) < (own.length : Int) := by omega
      have hgk : l.getD k 0 = l[k] := by rw [List.getD_eq_getElem?_getD, List.getElem?_eq_getElem hlt]; rfl
      have hbk := HL.out l[k] (List.getElem_mem hlt)
      have hlen := congrArg List.length hspec
      rw [List.length_append, bytesOf_length] at hlen
      have hS : S.size ≤ 60000 := by have := HTL.out; have := HSZ.out; omega
      have HTX1 : Hid (∀ W, Below w.heap.size w W → Calls Tryz.prog 20 #[.slice (some (ad.add k)) 1 (c - k)] W fun e w' => e = .returned (.string (strOfNums (textL [l[k]]))) ∧ Below W.heap.size W w') := fun W hb => by
        obtain ⟨ad', ha', hc'⟩ := sub_bytes (Kd.C_below HR.out hb) (k := k) (d := 1) (by omega) (by omega)
        injection ha' with ha'
        subst ha'
        have e1 : (l.drop k).take 1 = [l[k]] := by rw [List.drop_eq_getElem_cons hlt]; rfl
        rw [e1] at hc'
        exact text_ref (some (ad.add k)) (c - k) [l[k]] W hc' (by have := HC.out; simp; omega) (fun y hy => by simp at hy; subst hy; exact hbk) (by simp)
      have HBL := Lib.hid (bytes_byteLine hbk)
      have HIN := Lib.hid fun W => refinfo_any (l[q]'(by omega)) W hbq.1 hbq.2
      rw [info_same hbq.1 hbq.2] at HIN
      have hgq : l.getD ((q : Nat) : Int).toNat 0 = l[q]'(by omega) := by rw [Int.toNat_natCast, List.getD_eq_getElem?_getD, List.getElem?_eq_getElem (by omega)]; rfl
      have hpi : pieceR l k q = pieceO l k q l[k] (infoF (l[q]'(by omega))) := by
        unfold pieceR
        rw [hgq, hgk]
      have HTE := Lib.hid (fun (o : OpI) => @tells (l[q]'(by omega)) hbq.1 hbq.2 o)
      have HTB := Lib.hid (fun (o : OpI) => @tells_byte (l[q]'(by omega)) hbq.1 hbq.2 o)
      have HDA := Lib.hid (fun (o : OpI) => @data_of (l[q]'(by omega)) hbq.1 hbq.2 o)
      have HSP := Lib.hid hspec
      have HLT := Lib.hid hlt
      have HQK := Lib.hid hqk
      have HS := Lib.hid hS
      have HCL1 := Lib.hid HCL1
      have HB := Lib.hid hB
      generalize l[q]'(by omega) = cq at c0 HIN hpi HTE HTB HDA
      generalize hxk : l[k] = xk at HTX1 HBL hpi
      generalize hoi : infoF cq = oi at HIN hpi HTE HTB HDA
      clear hspec hlt hqk hS hlen hxk hgk hbk hgq hbq hoi HCQ hlo hq0 hq HCL
      rcases oi with _ | o
      · unfold opR at HIN
        simp only [pieceO] at hpi
        have HPI := Lib.hid hpi
        clear hpi HTE HTB HDA
        have hts : (strOfNums (textL [xk])).size = 4 := by rw [strOfNums_size]; rfl
        obtain ⟨T1, hT1⟩ : ∃ T1, strOfNums (textL [xk]) = T1 := ⟨_, rfl⟩
        rw [hT1] at HTX1 HBL hts
        have z1 : ¬ 9223372036854775807 < 6 + T1.size := by omega
        have z2 : ¬ 9223372036854775807 < 6 + T1.size + 1 := by omega
        have z3 : ¬ 9223372036854775807 < S.size + (6 + T1.size + 1) := by have := HS.out; omega
        have q1 : (k : Int) + 1 ≤ (c : Int) := by have := HC.out; omega
        have q2 : ¬ c = k := by have := HC.out; have := HLT.out; omega
        clear hts hT1
        go_wp2_with (first | (go_at_call 19; refine (HIN.out _).mono ?_; rintro e w2 ⟨rfl, hb2⟩) | (((with_reducible refine gate_op (.store 41 (.tmp 6) (.tmp 25)) rfl ?_); refine wpl_store_blk rfl 41 (.tmp 6) (.tmp 25) rfl _ rfl _ _ _ rfl (Blk.new _ _ _) 5 size51 rfl rfl (opA_one _) ?_; intro w3 hO hB3); have e13 : Below w1.heap.size w1 w3 := bel_then (bel_then HB.out hb2) (Only.below (below_alloc (Below.refl _ _) _) hO (Nat.le_refl _))))
        go_quiet (fail)
        go_wp2_with (go_at_call 20; refine (HTX1.out _ (bel_drewN (bel_then HB1.out e13) _)).mono ?_; rintro e w4 ⟨rfl, hb4⟩)
        go_roundw
        case rel => exact ⟨k + 1, _, HLT.out, rfl, by go_num, by rw [HSP.out, HPI.out, bytes_app2, HBL.out]; simp only [List.append_assoc], bel_then (bel_drewN e13 _) hb4⟩
        case measure => have := HLT.out; simp [intOf]; omega
      · obtain ⟨d, hd⟩ : ∃ d : Nat, o.2.2.2.2 = (d : Int) := ⟨dataF cq, HDA.out o rfl⟩
        have hd32 : d ≤ 32 := by
          have h32 := (HTE.out o rfl).2.2.2.2.2.2
          rw [hd] at h32
          split at h32
          · rename_i hh; omega
          · omega
        have hbn : bytesOf (strOfNums o.1) = o.1 := bytesOf_strOfNums (HTB.out o rfl)
        have hn14 : (strOfNums o.1).size ≤ 14 := by rw [strOfNums_size]; exact (HTE.out o rfl).2.2.2.2.2.1
        unfold opR at HIN
        have f0 : opA ((some o).getD zeroI) = opA o := rfl
        rw [f0] at HIN
        simp only [pieceO] at hpi
        rw [hd] at hpi
        have HD1 := Lib.hid hd
        have HBN := Lib.hid hbn
        clear f0 HTE HTB HDA hd hbn
        by_cases hw : (q : Int) + (d : Int) < (l.length : Int)
        · rw [if_pos hw] at hpi
          by_cases hqk : q = k
          · subst hqk
            rw [if_pos rfl] at hpi
            have w1' : decide ((q : Int) + (d : Int) < (l.length : Int)) = true := decide_eq_true hw
            have HN14 := Lib.hid hn14
            by_cases hd0 : 0 < d
            · rw [if_pos (by omega), Int.toNat_natCast] at hpi
              have HTX2 : Hid (∀ W, Below w.heap.size w W → Calls Tryz.prog 20 #[.slice (some ⟨ad.block, ad.off + (q + 1), none⟩) d (c - (q + 1))] W fun e w' => e = .returned (.string (strOfNums (textL ((l.drop (q + 1)).take d)))) ∧ Below W.heap.size W w') := fun W hb => by
                obtain ⟨ad', ha', hc'⟩ := sub_bytes (Kd.C_below HR.out hb) (k := q + 1) (d := d) (by omega) (by omega)
                injection ha' with ha'
                subst ha'
                have ea : ad.add (q + 1) = ⟨ad.block, ad.off + (q + 1), none⟩ := by unfold Addr.add; simp
                have e1 : ((l.drop (q + 1)).take d).length = d := by rw [List.length_take, List.length_drop]; omega
                have := text_ref (some (ad.add (q + 1))) (c - (q + 1)) ((l.drop (q + 1)).take d) W (by rw [e1]; exact hc') (by have := HC.out; omega) (fun y hy => HL.out y (List.mem_of_mem_drop (List.mem_of_mem_take hy))) (by omega)
                rw [e1, ea] at this
                exact this
              have hts : (strOfNums (textL ((l.drop (q + 1)).take d))).size ≤ 70 := by
                rw [strOfNums_size, textL, List.length_cons, List.length_cons, hexOf_length, List.length_take]
                omega
              obtain ⟨T1, hT1⟩ : ∃ T1, strOfNums (textL ((l.drop (q + 1)).take d)) = T1 := ⟨_, rfl⟩
              have hbt : bytesOf T1 = textL ((l.drop (q + 1)).take d) := by rw [← hT1]; exact bytesOf_strOfNums (textL_byte fun y hy => HL.out y (List.mem_of_mem_drop (List.mem_of_mem_take hy)))
              rw [hT1] at HTX2 hts
              rw [← hbt] at hpi
              have HPI := Lib.hid hpi
              have z1 : ¬ 9223372036854775807 < S.size + (strOfNums o.1).size := by have := HS.out; omega
              have z2 : ¬ 9223372036854775807 < 1 + T1.size := by omega
              have z3 : ¬ 9223372036854775807 < S.size + (strOfNums o.1).size + (1 + T1.size) := by have := HS.out; omega
              have z4 : ¬ 9223372036854775807 < S.size + (strOfNums o.1).size + (1 + T1.size) + 1 := by have := HS.out; omega
              have n1 : ((q : Int) + 1).toNat = q + 1 := by omega
              have n2 : ((q : Int) + 1 + (d : Int)).toNat = q + 1 + d := by omega
              have n3 : q + 1 + d - (q + 1) = d := by omega
              have y1 : (q : Int) + 1 ≤ (q : Int) + 1 + (d : Int) := by omega
              have y2 : (q : Int) + 1 + (d : Int) ≤ (c : Int) := by have := HC.out; omega
              have y3 : ¬ c = q + 1 := by have := HC.out; omega
              have y4 : (d : Int) < 1000 := by omega
              have y5 : (0 : Int) ≤ (q : Int) + 1 := by omega
              have y6 : (0 : Int) ≤ (q : Int) + 1 + (d : Int) := by omega
              clear hpi hT1 hbt hts hn14 hw
              go_wp2_with (first | (go_at_call 19; refine (HIN.out _).mono ?_; rintro e w2 ⟨rfl, hb2⟩) | (((with_reducible refine gate_op (.store 41 (.tmp 6) (.tmp 25)) rfl ?_); refine wpl_store_blk rfl 41 (.tmp 6) (.tmp 25) rfl _ rfl _ _ _ rfl (Blk.new _ _ _) 5 size51 rfl rfl (opA_one _) ?_; intro w3 hO hB3); have e13 : Below w1.heap.size w1 w3 := bel_then (bel_then HB.out hb2) (Only.below (below_alloc (Below.refl _ _) _) hO (Nat.le_refl _)); have g1 := HCL1.out w3 e13; have f4 : w3.cell? ⟨w2.heap.size, 4, none⟩ = some (.int .i64 (d : Int)) := (hB3.cell 4).trans (by rw [← HD1.out]; rfl); have f0 : w3.cell? ⟨w2.heap.size, 0, none⟩ = some (.string (strOfNums o.1)) := hB3.cell 0))
              go_quiet (fail)
              go_wp2_with (go_at_call 20; refine (HTX2.out _ (bel_drewN (bel_then HB1.out e13) _)).mono ?_; rintro e w4 ⟨rfl, hb4⟩)
              go_roundw
              case rel =>
                refine ⟨q + 1, _, HLT.out, rfl, by go_num, ?_, bel_then (bel_drewN e13 _) hb4⟩
                rw [HSP.out, HPI.out, bytes_app2, bytes_app2, bytes_app2, bytes_app2, HBN.out, show bytesOf ⟨#[32]⟩ = [32] from rfl, show bytesOf ⟨#[10]⟩ = [10] from rfl]
                simp
              case measure => have := HLT.out; simp [intOf]; omega
            · rw [if_neg (by omega)] at hpi
              have HPI := Lib.hid hpi
              have z1 : ¬ 9223372036854775807 < S.size + (strOfNums o.1).size := by have := HS.out; omega
              have z2 : ¬ 9223372036854775807 < S.size + (strOfNums o.1).size + 1 := by have := HS.out; omega
              clear hpi hn14 hw
              go_wp2_with (first | (go_at_call 19; refine (HIN.out _).mono ?_; rintro e w2 ⟨rfl, hb2⟩) | (((with_reducible refine gate_op (.store 41 (.tmp 6) (.tmp 25)) rfl ?_); refine wpl_store_blk rfl 41 (.tmp 6) (.tmp 25) rfl _ rfl _ _ _ rfl (Blk.new _ _ _) 5 size51 rfl rfl (opA_one _) ?_; intro w3 hO hB3); have e13 : Below w1.heap.size w1 w3 := bel_then (bel_then HB.out hb2) (Only.below (below_alloc (Below.refl _ _) _) hO (Nat.le_refl _)); have g1 := HCL1.out w3 e13; have f4 : w3.cell? ⟨w2.heap.size, 4, none⟩ = some (.int .i64 (d : Int)) := (hB3.cell 4).trans (by rw [← HD1.out]; rfl); have f0 : w3.cell? ⟨w2.heap.size, 0, none⟩ = some (.string (strOfNums o.1)) := hB3.cell 0))
              go_quiet (fail)
              go_wp2_with fail
              go_roundw
              case rel =>
                refine ⟨q + 1, _, HLT.out, rfl, by go_num, ?_, bel_drewN e13 _⟩
                rw [HSP.out, HPI.out, bytes_app2, bytes_app2, HBN.out, show bytesOf ⟨#[10]⟩ = [10] from rfl]
                simp
              case measure => have := HLT.out; simp [intOf]; omega
          · have hqi : ¬ (q : Int) = (k : Int) := by omega
            rw [if_neg hqi] at hpi
            have HPI := Lib.hid hpi
            have b1 : ((q : Int) == (k : Int)) = false := by simpa using hqi
            have b2 : ((q : Int) != (k : Int)) = true := by simpa using hqi
            have w1' : decide ((q : Int) + (d : Int) < (l.length : Int)) = true := decide_eq_true hw
            clear hpi hqi hqk hw
            go_wp2_with (first | (go_at_call 19; refine (HIN.out _).mono ?_; rintro e w2 ⟨rfl, hb2⟩) | (((with_reducible refine gate_op (.store 41 (.tmp 6) (.tmp 25)) rfl ?_); refine wpl_store_blk rfl 41 (.tmp 6) (.tmp 25) rfl _ rfl _ _ _ rfl (Blk.new _ _ _) 5 size51 rfl rfl (opA_one _) ?_; intro w3 hO hB3); have e13 : Below w1.heap.size w1 w3 := bel_then (bel_then HB.out hb2) (Only.below (below_alloc (Below.refl _ _) _) hO (Nat.le_refl _)); have g1 := HCL1.out w3 e13; have f4 : w3.cell? ⟨w2.heap.size, 4, none⟩ = some (.int .i64 (d : Int)) := (hB3.cell 4).trans (by rw [← HD1.out]; rfl)))
            go_quiet (fail)
            go_wp2_with fail
            go_roundw
            case rel => exact ⟨k + 1, _, HLT.out, rfl, by go_num, by rw [HSP.out, HPI.out]; rfl, bel_drewN e13 _⟩
            case measure => have := HLT.out; simp [intOf]; omega
        · rw [if_neg hw] at hpi
          have HPI := Lib.hid hpi
          have w1' : decide ((q : Int) + (d : Int) < (l.length : Int)) = false := decide_eq_false hw
          clear hpi hw
          have hts : (strOfNums (textL [xk])).size = 4 := by rw [strOfNums_size]; rfl
          obtain ⟨T1, hT1⟩ : ∃ T1, strOfNums (textL [xk]) = T1 := ⟨_, rfl⟩
          rw [hT1] at HTX1 HBL hts
          have z1 : ¬ 9223372036854775807 < 6 + T1.size := by omega
          have z2 : ¬ 9223372036854775807 < 6 + T1.size + 1 := by omega
          have z3 : ¬ 9223372036854775807 < S.size + (6 + T1.size + 1) := by have := HS.out; omega
          have q1 : (k : Int) + 1 ≤ (c : Int) := by have := HC.out; omega
          have q2 : ¬ c = k := by have := HC.out; have := HLT.out; omega
          clear hts hT1
          go_wp2_with (first | (go_at_call 19; refine (HIN.out _).mono ?_; rintro e w2 ⟨rfl, hb2⟩) | (((with_reducible refine gate_op (.store 41 (.tmp 6) (.tmp 25)) rfl ?_); refine wpl_store_blk rfl 41 (.tmp 6) (.tmp 25) rfl _ rfl _ _ _ rfl (Blk.new _ _ _) 5 size51 rfl rfl (opA_one _) ?_; intro w3 hO hB3); have e13 : Below w1.heap.size w1 w3 := bel_then (bel_then HB.out hb2) (Only.below (below_alloc (Below.refl _ _) _) hO (Nat.le_refl _)); have g1 := HCL1.out w3 e13; have f4 : w3.cell? ⟨w2.heap.size, 4, none⟩ = some (.int .i64 (d : Int)) := (hB3.cell 4).trans (by rw [← HD1.out]; rfl)))
          go_quiet (fail)
          go_wp2_with (go_at_call 20; refine (HTX1.out _ (bel_drewN (bel_then HB1.out e13) _)).mono ?_; rintro e w4 ⟨rfl, hb4⟩)
          go_roundw
          case rel => exact ⟨k + 1, _, HLT.out, rfl, by go_num, by rw [HSP.out, HPI.out, bytes_app2, HBL.out]; simp only [List.append_assoc], bel_then (bel_drewN e13 _) hb4⟩
          case measure => have := HLT.out; simp [intOf]; omega
    · obtain rfl : k = l.length := by omega
      have hend : textA l = bytesOf S := by rw [hspec, List.drop_eq_nil_of_le (by rw [HOL.out]; omega)]; simp [rT]
      have HE := Lib.hid hend
      have p2 : (l.length : Int) ≤ 3000 := by have := HSZ.out; omega
      clear hspec hend
      go_wp2_with fail
      go_ret
      exact ⟨by rw [HE.out, strOfNums_bytesOf]; rfl, bel_then HB1.out hB⟩
end Go.Proofs.YtibhijjmmagdcaaGreatDoor
