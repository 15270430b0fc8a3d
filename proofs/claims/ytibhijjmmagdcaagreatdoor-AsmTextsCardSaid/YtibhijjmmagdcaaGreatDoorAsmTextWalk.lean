/- asm.Text, walked. -/
import Derived.Test.YtibhijjmmagdcaaGreatDoorAsmTextPlain
namespace Go.Proofs.YtibhijjmmagdcaaGreatDoor
set_option linter.unusedVariables false
set_option linter.unusedSimpArgs false
open Go.RowKit Go.Proofs.YtibhijjmmagdcaaGreatDoorW.PrintWords Go.Proofs.YtibhijjmmagdcaaGreatDoorW.PrintLast
theorem textA_len {l : List Int} (h : ∀ c ∈ l, 0 ≤ c ∧ c < 256) : (textA l).length ≤ 20 * l.length := (asmL_ok l.length l (Nat.le_refl _) h).2
theorem sub_bytes {W : World} {A : Option Addr} {l : List Int} (hr : (Kd.int .u8).C W A l.length l) {k d : Nat} (h : k + d ≤ l.length) (hd : 0 < d) : ∃ ad, A = some ad ∧ (Kd.int .u8).C W (some (ad.add k)) d ((l.drop k).take d) := by
  obtain ⟨ad, hA, _⟩ := Kd.at_int hr (0 : Int) (by omega) (by omega)
  refine ⟨ad, hA, ?_⟩
  have hl : ((l.drop k).take d).length = d := by rw [List.length_take, List.length_drop]; omega
  have hg : ReadsOf (Value.int .u8) (0 : Int) W (some (ad.add k)) d ((l.drop k).take d) := ⟨hl, by have := hr.2.1; omega, fun _ => ⟨_, rfl, fun j hj => by
    obtain ⟨ad', hA', hc⟩ := Kd.at_int hr ((k + j : Nat) : Int) (by omega) (by omega)
    rw [hA] at hA'
    injection hA' with hA'
    subst hA'
    rw [Int.toNat_natCast, rd_at (by omega)] at hc
    rw [add_add, hc, List.getD_eq_getElem?_getD, List.getElem?_take_of_lt hj, List.getElem?_drop, List.getElem?_eq_getElem (by omega)]
    rfl⟩⟩
  exact Kd.C_of_reads (d := (0 : Int)) hg
theorem tells_byte {c : Int} (h0 : 0 ≤ c) (h1 : c < 256) {o : OpI} (ho : infoF c = some o) : ∀ x ∈ o.1, 0 ≤ x ∧ x < 256 := by
  have h := tells_all ⟨c.toNat, by omega⟩
  simp only [Int.toNat_of_nonneg h0, tellsB, ho, Bool.and_eq_true, beq_iff_eq, decide_eq_true_eq, List.all_eq_true, Bool.or_eq_true] at h
  intro x hx
  have := h.1.1.1.1.2 x hx
  omega
theorem bytes_line {l : List Int} (h : ∀ x ∈ l, 0 ≤ x ∧ x < 256) : bytesOf (strOfNums l ++ ⟨#[10]⟩) = l ++ [10] := by
  have e : bytesOf (strOfNums l ++ ⟨#[10]⟩) = bytesOf (strOfNums l) ++ [10] := by simp [bytesOf, ByteArray.data_append]
  rw [e, bytesOf_strOfNums h]
theorem bytes_byteLine {x : Int} (h : 0 ≤ x ∧ x < 256) : bytesOf (⟨#[66, 89, 84, 69, 49, 32]⟩ ++ strOfNums (textL [x]) ++ ⟨#[10]⟩) = byteLine x ++ [10] := by
  have e : bytesOf (⟨#[66, 89, 84, 69, 49, 32]⟩ ++ strOfNums (textL [x]) ++ ⟨#[10]⟩) = [66, 89, 84, 69, 49, 32] ++ bytesOf (strOfNums (textL [x])) ++ [10] := by simp [bytesOf, ByteArray.data_append]
  rw [e, bytesOf_strOfNums (textL_byte fun c hc => by simp at hc; omega)]
  rfl
/-- The text that is written so far. -/
def TxS (w : World) (out : List Int) (W : World) : Prop := Below w.heap.size w W ∧ Bld w.heap.size w.heap.size out W ∧ ∀ c ∈ out, 0 ≤ c ∧ c < 256
theorem TxS.below {w W W1 : World} {out : List Int} (h : TxS w out W) (hb : Below W.heap.size W W1) : TxS w out W1 := ⟨bel_then h.1 hb, h.2.1.below hb, h.2.2⟩
theorem TxS.write {w W : World} {out : List Int} (h : TxS w out W) (s : ByteArray) (hl : out.length ≤ 1000000) (hs : s.size ≤ 1000000) :
    Calls Tryz.prog 12 #[.pointer (some ⟨w.heap.size, 0, none⟩), .string s] W fun e w' => e = .returned (.tuple #[.int .i64 s.size, .nilIface]) ∧ TxS w (out ++ bytesOf s) w' ∧ KeepBlk w.heap.size W w' := by
  refine (bld_write s h.2.1 hl hs h.1.size).mono ?_
  rintro e w' ⟨rfl, hB, hb, hk⟩
  refine ⟨rfl, ⟨h.1.trans hb, hB, fun c hc => ?_⟩, hk⟩
  rcases List.mem_append.1 hc with hc | hc
  · exact h.2.2 c hc
  · exact bytesOf_byte s c hc
/-- What is left, each byte by itself. -/
def restS (l : List Int) (j : Nat) : List Int := (((l.drop j).map byteLine).map (· ++ [10])).flatten
theorem restS_step {l : List Int} {j : Nat} (h : j < l.length) : restS l j = byteLine l[j] ++ 10 :: restS l (j + 1) := by
  unfold restS
  rw [List.drop_eq_getElem_cons h, List.map_cons, List.map_cons, List.flatten_cons, List.append_assoc]
  rfl
theorem restS_end {l : List Int} {j : Nat} (h : l.length ≤ j) : restS l j = [] := by
  unfold restS
  rw [List.drop_eq_nil_of_le h]
  rfl
theorem textA_take {l out r : List Int} (h : textA l = out ++ r) (hb : ∀ c ∈ l, 0 ≤ c ∧ c < 256) (hl : l.length ≤ 3000) : out.length ≤ 60000 ∧ r.length ≤ 60000 := by
  have h1 := textA_len hb
  rw [h, List.length_append] at h1
  omega
set_option maxRecDepth 100000 in
set_option maxHeartbeats 8000000 in
theorem asmtext_any (A : Option Addr) (c : Nat) (l : List Int) (w : World) (hr : (Kd.int .u8).C w A l.length l) (hc : l.length ≤ c) (hl : ∀ c ∈ l, 0 ≤ c ∧ c < 256) (hsz : l.length ≤ 3000) :
    Calls Tryz.prog 6 #[.slice A l.length c] w fun e w' => e = .returned (.string (strOfNums (textA l))) ∧ Below w.heap.size w w' := by
  have HL := Lib.hid hl
  have HSZ := Lib.hid hsz
  have HC := Lib.hid hc
  have HR := Lib.hid hr
  clear hr hl hsz hc
  go_enter Tryz.func6, Tryz.ntmps6
  go_wp2_with fail
  refine wp_any_world (TxS w []) ⟨below_alloc (Below.refl _ _) _, Bld.new w, fun c hc => by cases hc⟩ ?_
  intro w0 hS0
  go_loopw [4] (fun i wr => ∃ (k : Nat) (out : List Int), k ≤ l.length ∧ i = .int .i64 k ∧ textA l = out ++ restT l k ∧ TxS w out wr) (fun i _ => l.length - (intOf i).toNat)
  case atStart => exact ⟨0, [], by omega, rfl, rfl, hS0⟩
  case round =>
    clear hS0
    obtain ⟨k, out, hk, rfl, htx, hS⟩ := hrel
    obtain ⟨hol, hrl⟩ := textA_take htx HL.out HSZ.out
    by_cases hlt : k < l.length
    · obtain ⟨ad, rfl, hcell⟩ := byte_at HR.out hlt
      have c0 := hcell wr hS.1
      have hb0 := HL.out l[k] (List.getElem_mem hlt)
      have p0 : (0 : Int) ≤ (k : Int) := by omega
      have p1 : (k : Int) < (l.length : Int) := by omega
      have p2 : (l.length : Int) ≤ 3000 := by have := HSZ.out; omega
      have HIN := Lib.hid fun W => info_any l[k] W hb0.1 hb0.2
      have HTX1 : Hid (∀ W, Below w.heap.size w W → Calls Tryz.prog 13 #[.slice (some (ad.add k)) 1 (c - k)] W fun e w' => e = .returned (.string (strOfNums (textL [l[k]]))) ∧ Below W.heap.size W w') := fun W hb => by
        obtain ⟨ad', ha', hc'⟩ := sub_bytes (Kd.C_below HR.out hb) (k := k) (d := 1) (by omega) (by omega)
        injection ha' with ha'
        subst ha'
        have e1 : (l.drop k).take 1 = [l[k]] := by rw [List.drop_eq_getElem_cons hlt]; rfl
        rw [e1] at hc'
        exact text_hex (some (ad.add k)) (c - k) [l[k]] W hc' (by have := HC.out; simp; omega) (fun y hy => by simp at hy; subst hy; exact hb0) (by simp)
      have HBL := Lib.hid (bytes_byteLine hb0)
      have HN := Lib.hid (@restT_none l k hlt)
      have HSH := Lib.hid (fun (o : OpI) => @restT_short l k hlt o)
      have HPU := Lib.hid (fun (o : OpI) => @restT_push l k hlt o)
      have HNA := Lib.hid (fun (o : OpI) => @restT_name l k hlt o)
      have HTE := Lib.hid (fun (o : OpI) => @tells l[k] hb0.1 hb0.2 o)
      have HTB := Lib.hid (fun (o : OpI) => @tells_byte l[k] hb0.1 hb0.2 o)
      have HS := Lib.hid hS
      have HTX := Lib.hid htx
      have HOL := Lib.hid hol
      have HLT := Lib.hid hlt
      generalize hx : l[k] = x at c0 HIN HN HSH HPU HNA HTE HTB HTX1 HBL
      generalize hoi : infoF x = oi at HIN HN HSH HPU HNA HTE HTB
      clear hS htx hol hrl hlt hx hcell hb0 hoi
      rcases oi with _ | o
      · unfold opR at HIN
        have HRE := Lib.hid (HN.out rfl)
        clear HTE HTB HN HSH HPU HNA
        go_wp2_with (first | (go_at_call 11; refine (HIN.out _).mono ?_; rintro e w1 ⟨rfl, hb1⟩) | (((with_reducible refine gate_op (.store 41 (.tmp 5) (.tmp 19)) rfl ?_); refine wpl_store_blk rfl 41 (.tmp 5) (.tmp 19) rfl _ rfl _ _ _ rfl (Blk.new _ _ _) 5 size51 rfl rfl (opA_one _) ?_; intro w2 hO hB2)))
        have hS2 : TxS w out w2 := (HS.out.below hb1).below (Only.below (below_alloc (Below.refl _ _) _) hO (Nat.le_refl _))
        have HS2 := Lib.hid hS2
        clear hS2 hO hB2 hb1
        obtain ⟨wo, rfl⟩ : ∃ wo : World, wo = w2 := ⟨_, rfl⟩
        have q1 : (k : Int) + 1 ≤ (c : Int) := by have := HC.out; have := HLT.out; omega
        have q2 : ¬ c = k := by have := HC.out; have := HLT.out; omega
        go_loopw [4] (fun i wx => i = .int .i64 (k : Int) ∧ wx = wo) (fun _ _ => 0)
        case atStart => exact ⟨rfl, rfl⟩
        case round =>
          obtain ⟨rfl, rfl⟩ := hrel
          have hts : (strOfNums (textL [x])).size = 4 := by rw [strOfNums_size]; rfl
          obtain ⟨T1, hT1⟩ : ∃ T1, strOfNums (textL [x]) = T1 := ⟨_, rfl⟩
          rw [hT1] at HTX1 HBL hts
          obtain ⟨S, hSe⟩ : ∃ S, (⟨#[66, 89, 84, 69, 49, 32]⟩ : ByteArray) ++ T1 ++ ⟨#[10]⟩ = S := ⟨_, rfl⟩
          have hss : S.size ≤ 1000 := by rw [← hSe, ByteArray.size_append, ByteArray.size_append]; show 6 + T1.size + 1 ≤ _; omega
          rw [hSe] at HBL
          have HSS := Lib.hid hss
          have z1 : ¬ 9223372036854775807 < 6 + T1.size := by omega
          have z2 : ¬ 9223372036854775807 < 6 + T1.size + 1 := by omega
          clear hts hT1 hss
          go_wp2_with (go_at_call 13; refine (HTX1.out _ HS2.out.1).mono ?_; rintro e w4 ⟨rfl, hb4⟩)
          have HWR := Lib.hid ((HS2.out.below hb4).write S (by have := HOL.out; omega) (by have := HSS.out; omega))
          with_reducible refine HWR.out.mono ?_
          rintro e w5 ⟨rfl, hS5, _⟩
          rw [HBL.out] at hS5
          have HS5 := Lib.hid hS5
          clear hS5 hb4 HWR
          go_wp2_with fail
          go_roundw
          case rel => exact ⟨k + 1, _, HLT.out, by go_num, by rw [HTX.out, HRE.out, List.append_assoc, List.append_assoc]; rfl, HS5.out⟩
          case measure => have := HLT.out; simp [intOf]; omega
      · have HO := HTE.out o rfl
        by_cases hs : (l.length : Int) - 1 - k < o.2.2.2.2
        · obtain ⟨dd, hdd1⟩ : ∃ dd : Int, o.2.2.2.2 = dd := ⟨_, rfl⟩
          have hre := HSH.out o rfl hs
          have hre2 : restT l k = restS l k := hre
          have HRE := Lib.hid hre2
          unfold opR at HIN
          have f0 : opA ((some o).getD zeroI) = opA o := rfl
          rw [f0] at HIN
          have hsd : decide (dd > (l.length : Int) - 1 - k) = true := decide_eq_true (by omega)
          have hsd2 : (l.length : Int) - 1 - k < dd := by omega
          have HD1 := Lib.hid hdd1
          have HAD : Hid (∀ j, j < l.length → ∀ W, Below w.heap.size w W → Calls Tryz.prog 13 #[.slice (some (ad.add j)) 1 (c - j)] W fun e w' => e = .returned (.string (strOfNums (textL [l.getD j 0]))) ∧ Below W.heap.size W w') := fun j hj W hb => by
            obtain ⟨ad', ha', hc'⟩ := sub_bytes (Kd.C_below HR.out hb) (k := j) (d := 1) (by omega) (by omega)
            injection ha' with ha'
            subst ha'
            have e1 : (l.drop j).take 1 = [l.getD j 0] := by rw [List.drop_eq_getElem_cons hj, List.getD_eq_getElem?_getD, List.getElem?_eq_getElem hj]; rfl
            rw [e1] at hc'
            exact text_hex (some (ad.add j)) (c - j) [l.getD j 0] W hc' (by have := HC.out; simp; omega) (fun y hy => by
              simp at hy
              subst hy
              rw [List.getElem?_eq_getElem hj]
              exact HL.out _ (List.getElem_mem hj)) (by simp)
          clear f0 HTE HN HSH HPU HNA hs hdd1 hre hre2 HTB HTX1 HBL HO
          go_wp2_with (first | (go_at_call 11; refine (HIN.out _).mono ?_; rintro e w1 ⟨rfl, hb1⟩) | (((with_reducible refine gate_op (.store 41 (.tmp 5) (.tmp 19)) rfl ?_); refine wpl_store_blk rfl 41 (.tmp 5) (.tmp 19) rfl _ rfl _ _ _ rfl (Blk.new _ _ _) 5 size51 rfl rfl (opA_one _) ?_; intro w2 hO hB2); have f4 : w2.cell? ⟨w1.heap.size, 4, none⟩ = some (.int .i64 dd) := (hB2.cell 4).trans (by rw [← HD1.out]; rfl)))
          have hS2 : TxS w out w2 := (HS.out.below hb1).below (Only.below (below_alloc (Below.refl _ _) _) hO (Nat.le_refl _))
          have HS2 := Lib.hid hS2
          clear hS2 hO hB2 hb1 f4
          obtain ⟨wo, rfl⟩ : ∃ wo : World, wo = w2 := ⟨_, rfl⟩
          go_loopw [4] (fun i wx => ∃ (j : Nat) (out2 : List Int), k ≤ j ∧ j < l.length ∧ i = .int .i64 (j : Int) ∧ textA l = out2 ++ restS l j ∧ TxS w out2 wx) (fun i _ => l.length - (intOf i).toNat)
          case atStart => exact ⟨k, out, Nat.le_refl _, HLT.out, rfl, by rw [HTX.out, HRE.out], HS2.out⟩
          case round =>
            clear c0 p0 p1
            obtain ⟨j, out2, hkj, hj, rfl, htx2, hS3⟩ := hrel
            obtain ⟨hol2, hrl2⟩ := textA_take htx2 HL.out HSZ.out
            have hbj := HL.out l[j] (List.getElem_mem hj)
            have hgj : l.getD j 0 = l[j] := by rw [List.getD_eq_getElem?_getD, List.getElem?_eq_getElem hj]; rfl
            have hcl := HAD.out j hj
            rw [hgj] at hcl
            have HST := Lib.hid (restS_step hj)
            have hbl := bytes_byteLine hbj
            have p0 : (0 : Int) ≤ (j : Int) := by omega
            have p1 : (j : Int) < (l.length : Int) := by omega
            have q1 : (j : Int) + 1 ≤ (c : Int) := by have := HC.out; omega
            have q2 : ¬ c = j := by have := HC.out; omega
            have HOL2 := Lib.hid hol2
            have HTX2 := Lib.hid htx2
            have HS3 := Lib.hid hS3
            have HJ := Lib.hid hj
            have HKJ := Lib.hid hkj
            generalize l[j] = xj at hcl HST hbl
            clear hol2 hrl2 htx2 hS3 hbj hgj hj hkj
            have hts : (strOfNums (textL [xj])).size = 4 := by rw [strOfNums_size]; rfl
            obtain ⟨T1, hT1⟩ : ∃ T1, strOfNums (textL [xj]) = T1 := ⟨_, rfl⟩
            rw [hT1] at hcl hbl hts
            obtain ⟨S, hSe⟩ : ∃ S, (⟨#[66, 89, 84, 69, 49, 32]⟩ : ByteArray) ++ T1 ++ ⟨#[10]⟩ = S := ⟨_, rfl⟩
            have hss : S.size ≤ 1000 := by rw [← hSe, ByteArray.size_append, ByteArray.size_append]; show 6 + T1.size + 1 ≤ _; omega
            rw [hSe] at hbl
            have HSS := Lib.hid hss
            have HCL := Lib.hid hcl
            have HBL := Lib.hid hbl
            have z1 : ¬ 9223372036854775807 < 6 + T1.size := by omega
            have z2 : ¬ 9223372036854775807 < 6 + T1.size + 1 := by omega
            clear hts hT1 hss hcl hbl
            by_cases hlast : j + 1 < l.length
            · have r1 : (j : Int) < (l.length : Int) - 1 := by omega
              clear hlast
              go_wp2_with (go_at_call 13; refine (HCL.out _ HS3.out.1).mono ?_; rintro e w4 ⟨rfl, hb4⟩)
              have HWR := Lib.hid ((HS3.out.below hb4).write S (by have := HOL2.out; omega) (by have := HSS.out; omega))
              with_reducible refine HWR.out.mono ?_
              rintro e w5 ⟨rfl, hS5, _⟩
              rw [HBL.out] at hS5
              have HS5 := Lib.hid hS5
              clear hS5 hb4 HWR
              go_wp2_with fail
              go_roundw
              case rel => exact ⟨j + 1, _, by have := HKJ.out; omega, by omega, by go_num, by rw [HTX2.out, HST.out]; simp, HS5.out⟩
              case measure => simp [intOf]; omega
            · have r1 : ¬ (j : Int) < (l.length : Int) - 1 := by omega
              have hje : j + 1 = l.length := by have := HJ.out; omega
              have HJE := Lib.hid hje
              clear hlast hje
              go_wp2_with (go_at_call 13; refine (HCL.out _ HS3.out.1).mono ?_; rintro e w4 ⟨rfl, hb4⟩)
              have HWR := Lib.hid ((HS3.out.below hb4).write S (by have := HOL2.out; omega) (by have := HSS.out; omega))
              with_reducible refine HWR.out.mono ?_
              rintro e w5 ⟨rfl, hS5, _⟩
              rw [HBL.out] at hS5
              have HS5 := Lib.hid hS5
              clear hS5 hb4 HWR
              go_wp2_with fail
              go_roundw
              case rel => exact ⟨j + 1, _, by have := HJE.out; omega, by go_num, by rw [HTX2.out, HST.out, restS_end (by have := HJE.out; omega), restT_end (by have := HJE.out; omega)]; simp, HS5.out⟩
              case measure => have := HLT.out; have := HKJ.out; have := HJE.out; simp [intOf]; omega
        · by_cases hd : 0 < o.2.2.2.2
          · obtain ⟨d, hd1⟩ : ∃ d : Nat, o.2.2.2.2 = (d : Int) := ⟨o.2.2.2.2.toNat, by omega⟩
            have hkd : k + 1 + d ≤ l.length := by omega
            have HRE := Lib.hid (HPU.out o rfl hs hd1 (by omega))
            have HTX2 : Hid (∀ W, Below w.heap.size w W → Calls Tryz.prog 13 #[.slice (some ⟨ad.block, ad.off + (k + 1), none⟩) d (c - (k + 1))] W fun e w' => e = .returned (.string (strOfNums (textL ((l.drop (k + 1)).take d)))) ∧ Below W.heap.size W w') := fun W hb => by
              obtain ⟨ad', ha', hc'⟩ := sub_bytes (Kd.C_below HR.out hb) (k := k + 1) (d := d) (by omega) (by omega)
              injection ha' with ha'
              subst ha'
              have ea : ad.add (k + 1) = ⟨ad.block, ad.off + (k + 1), none⟩ := by unfold Addr.add; simp
              have e1 : ((l.drop (k + 1)).take d).length = d := by rw [List.length_take, List.length_drop]; omega
              have := text_hex (some (ad.add (k + 1))) (c - (k + 1)) ((l.drop (k + 1)).take d) W (by rw [e1]; exact hc') (by have := HC.out; omega) (fun y hy => HL.out y (List.mem_of_mem_drop (List.mem_of_mem_take hy))) (by omega)
              rw [e1, ea] at this
              exact this
            have hd32 : d ≤ 32 := by
              have h32 := HO.2.2.2.2.2.2
              rw [hd1] at h32
              by_cases hr : 96 ≤ x ∧ x ≤ 127
              · rw [if_pos hr] at h32; omega
              · rw [if_neg hr] at h32; omega
            unfold opR at HIN
            have f0 : opA ((some o).getD zeroI) = opA o := rfl
            rw [f0] at HIN
            have hsd : decide ((d : Int) > (l.length : Int) - 1 - k) = false := decide_eq_false (by omega)
            have hdd : decide ((d : Int) > 0) = true := decide_eq_true (by omega)
            have HD1 := Lib.hid hd1
            have hdn : 0 < d := by omega
            clear f0 HTE HN HSH HPU HNA hs hd hd1
            go_wp2_with (first | (go_at_call 11; refine (HIN.out _).mono ?_; rintro e w1 ⟨rfl, hb1⟩) | (((with_reducible refine gate_op (.store 41 (.tmp 5) (.tmp 19)) rfl ?_); refine wpl_store_blk rfl 41 (.tmp 5) (.tmp 19) rfl _ rfl _ _ _ rfl (Blk.new _ _ _) 5 size51 rfl rfl (opA_one _) ?_; intro w2 hO hB2); have f4 : w2.cell? ⟨w1.heap.size, 4, none⟩ = some (.int .i64 (d : Int)) := (hB2.cell 4).trans (by rw [← HD1.out]; rfl); have f0 : w2.cell? ⟨w1.heap.size, 0, none⟩ = some (.string (strOfNums o.1)) := hB2.cell 0))
            have e12 : Below w1.heap.size w1 w2 := Only.below (below_alloc (Below.refl _ _) _) hO (Nat.le_refl _)
            obtain ⟨g, hg⟩ : ∃ g, g = w1.heap.size := ⟨_, rfl⟩
            rw [← hg] at hB2 f0 f4 ⊢
            have hgb : g ≠ w.heap.size := by have := HS.out.2.1.lt; have := hb1.size; omega
            have hSS : TxS w out w2 ∧ Blk w2 g (opA o) 41 := ⟨(HS.out.below hb1).below e12, hB2⟩
            have hn14 : (strOfNums o.1).size ≤ 14 := by rw [strOfNums_size]; exact HO.2.2.2.2.2.1
            have hts : (strOfNums (textL ((l.drop (k + 1)).take d))).size ≤ 70 := by
              rw [strOfNums_size, textL, List.length_cons, List.length_cons, hexOf_length, List.length_take]
              omega
            obtain ⟨T1, hT1⟩ : ∃ T1, strOfNums (textL ((l.drop (k + 1)).take d)) = T1 := ⟨_, rfl⟩
            have hbt : bytesOf T1 = textL ((l.drop (k + 1)).take d) := by rw [← hT1]; exact bytesOf_strOfNums (textL_byte fun y hy => HL.out y (List.mem_of_mem_drop (List.mem_of_mem_take hy)))
            have hbn : bytesOf (strOfNums o.1) = o.1 := bytesOf_strOfNums (HTB.out o rfl)
            have HBS : Hid (bytesOf (strOfNums o.1 ++ ⟨#[32]⟩ ++ T1 ++ ⟨#[10]⟩) = o.1 ++ 32 :: (textL ((l.drop (k + 1)).take d) ++ [10])) := by
              have e : bytesOf (strOfNums o.1 ++ ⟨#[32]⟩ ++ T1 ++ ⟨#[10]⟩) = bytesOf (strOfNums o.1) ++ 32 :: (bytesOf T1 ++ [10]) := by simp [bytesOf, ByteArray.data_append]
              unfold Hid
              rw [e, hbn, hbt]
            rw [hT1] at HTX2 hts
            have HSS1 : Hid ((strOfNums o.1 ++ ⟨#[32]⟩ ++ T1 ++ ⟨#[10]⟩).size ≤ 1000) := by unfold Hid; rw [ByteArray.size_append, ByteArray.size_append, ByteArray.size_append]; show _ + 1 + T1.size + 1 ≤ _; omega
            have z1 : ¬ 9223372036854775807 < (strOfNums o.1).size + 1 := by omega
            have z2 : ¬ 9223372036854775807 < (strOfNums o.1).size + 1 + T1.size := by omega
            have z3 : ¬ 9223372036854775807 < (strOfNums o.1).size + 1 + T1.size + 1 := by omega
            have n1 : ((k : Int) + 1).toNat = k + 1 := by omega
            have n2 : ((k : Int) + 1 + (d : Int)).toNat = k + 1 + d := by omega
            have n3 : k + 1 + d - (k + 1) = d := by omega
            have y1 : (k : Int) + 1 ≤ (k : Int) + 1 + (d : Int) := by omega
            have y2 : (k : Int) + 1 + (d : Int) ≤ (c : Int) := by have := HC.out; omega
            have y3 : ¬ c = k + 1 := by have := HC.out; omega
            have y4 : (d : Int) < 1000 := by omega
            have y5 : (0 : Int) ≤ (k : Int) + 1 := by omega
            have y6 : (0 : Int) ≤ (k : Int) + 1 + (d : Int) := by omega
            clear hg e12 hb1 hO hB2 f0 f4 hT1 hbt hbn hn14 hts HTB HIN c0
            refine start_ (n := 16) (S := fun W => TxS w out W ∧ Blk W g (opA o) 41) (ds := [15]) #[false, false, false, false, false, false, false, false, false, false, false, false, false, false, false, false] (by kernel_rfl) rfl rfl ⟨hSS.1.below (bel_drew (Below.refl _ _)), hSS.2.below (bel_drew (Below.refl _ _))⟩ (fun hHeld => ?_)
            refine gen_last hHeld ?_
            clear hHeld
            intro wd hHeld
            refine pure_ (i := 0) (N := some 70) (v := ?_) (a' := ?_) #[true, false, false, false, false, false, false, false, false, false, false, false, false, false, false, false] rfl rfl (by kernel_rfl) (fun _ _ _ h => h) (Or.inl ⟨by rfl, ?_⟩) ?_ ?_
            rotate_left
            · intro w2
              (go_simp; (try go_bits); with_reducible rfl)
            rotate_left
            · simp only [Act.put, List.setIfInBounds_toArray, List.set_cons_zero, List.set_cons_succ, i64_w, i32_w]
              rfl
            refine pure_ (i := 3) (N := some 73) (v := ?_) (a' := ?_) #[true, false, false, true, false, false, false, false, false, false, false, false, false, false, false, false] rfl rfl (by kernel_rfl) (fun _ _ _ h => h) (Or.inl ⟨by rfl, ?_⟩) ?_ ?_
            rotate_left
            · intro w2
              (go_simp; (try go_bits); with_reducible rfl)
            rotate_left
            · simp only [Act.put, List.setIfInBounds_toArray, List.set_cons_zero, List.set_cons_succ, i64_w, i32_w]
              rfl
            refine pure_ (i := 4) (N := some 74) (v := ?_) (a' := ?_) #[true, false, false, true, true, false, false, false, false, false, false, false, false, false, false, false] rfl rfl (by kernel_rfl) (fun _ _ _ h => h) (Or.inl ⟨by rfl, ?_⟩) ?_ ?_
            rotate_left
            · intro w2
              (go_simp; (try go_bits); with_reducible rfl)
            rotate_left
            · simp only [Act.put, List.setIfInBounds_toArray, List.set_cons_zero, List.set_cons_succ, i64_w, i32_w]
              rfl
            refine pure_ (i := 5) (N := some 75) (v := ?_) (a' := ?_) #[true, false, false, true, true, true, false, false, false, false, false, false, false, false, false, false] rfl rfl (by kernel_rfl) (fun _ _ _ h => h) (Or.inl ⟨by rfl, ?_⟩) ?_ ?_
            rotate_left
            · intro w2
              (go_simp; (try go_bits); with_reducible rfl)
            rotate_left
            · simp only [Act.put, List.setIfInBounds_toArray, List.set_cons_zero, List.set_cons_succ, i64_w, i32_w]
              rfl
            refine pure_ (i := 6) (N := some 76) (v := ?_) (a' := ?_) #[true, false, false, true, true, true, true, false, false, false, false, false, false, false, false, false] rfl rfl (by kernel_rfl) (fun _ _ _ h => h) (Or.inl ⟨by rfl, ?_⟩) ?_ ?_
            rotate_left
            · intro w2
              (go_simp; (try go_bits); with_reducible rfl)
            rotate_left
            · simp only [Act.put, List.setIfInBounds_toArray, List.set_cons_zero, List.set_cons_succ, i64_w, i32_w]
              rfl
            refine pure_ (i := 7) (N := some 77) (v := ?_) (a' := ?_) #[true, false, false, true, true, true, true, true, false, false, false, false, false, false, false, false] rfl rfl (by kernel_rfl) (fun _ _ _ h => h) (Or.inl ⟨by rfl, ?_⟩) ?_ ?_
            rotate_left
            · intro w2
              (go_simp; (try go_bits); with_reducible rfl)
            rotate_left
            · simp only [Act.put, List.setIfInBounds_toArray, List.set_cons_zero, List.set_cons_succ, i64_w, i32_w]
              rfl
            refine pure_ (i := 8) (N := some 78) (v := ?_) (a' := ?_) #[true, false, false, true, true, true, true, true, true, false, false, false, false, false, false, false] rfl rfl (by kernel_rfl) (fun _ _ _ h => h) (Or.inl ⟨by rfl, ?_⟩) ?_ ?_
            rotate_left
            · intro w2
              (go_simp; (try go_bits); with_reducible rfl)
            rotate_left
            · simp only [Act.put, List.setIfInBounds_toArray, List.set_cons_zero, List.set_cons_succ, i64_w, i32_w]
              rfl
            refine take_ (i := 1) (N := some 71) (v := ?_) (a' := ?_) #[true, true, false, true, true, true, true, true, true, false, false, false, false, false, false, false] rfl rfl (by kernel_rfl) (fun _ _ _ h => h) (Or.inl ⟨by rfl, ?_⟩) hHeld ?_ ?_
            rotate_left
            · intro w2 hS2
              have f0 : w2.cell? ⟨g, 0, none⟩ = some (.string (strOfNums o.1)) := hS2.2.cell 0
              have f4 : w2.cell? ⟨g, 4, none⟩ = some (.int .i64 (d : Int)) := (hS2.2.cell 4).trans (by rw [← HD1.out]; rfl)
              (go_simp; (try go_bits); with_reducible rfl)
            rotate_left
            · simp only [Act.put, List.setIfInBounds_toArray, List.set_cons_zero, List.set_cons_succ, i64_w, i32_w]
              rfl
            refine pure_ (i := 2) (N := some 72) (v := ?_) (a' := ?_) #[true, true, true, true, true, true, true, true, true, false, false, false, false, false, false, false] rfl rfl (by kernel_rfl) (fun _ _ _ h => h) (Or.inl ⟨by rfl, ?_⟩) ?_ ?_
            rotate_left
            · intro w2
              (go_simp; (try go_bits); with_reducible rfl)
            rotate_left
            · simp only [Act.put, List.setIfInBounds_toArray, List.set_cons_zero, List.set_cons_succ, i64_w, i32_w]
              rfl
            refine take_ (i := 9) (N := some 79) (v := ?_) (a' := ?_) #[true, true, true, true, true, true, true, true, true, true, false, false, false, false, false, false] rfl rfl (by kernel_rfl) (fun _ _ _ h => h) (Or.inl ⟨by rfl, ?_⟩) hHeld ?_ ?_
            rotate_left
            · intro w2 hS2
              have f0 : w2.cell? ⟨g, 0, none⟩ = some (.string (strOfNums o.1)) := hS2.2.cell 0
              have f4 : w2.cell? ⟨g, 4, none⟩ = some (.int .i64 (d : Int)) := (hS2.2.cell 4).trans (by rw [← HD1.out]; rfl)
              (go_simp; (try go_bits); with_reducible rfl)
            rotate_left
            · simp only [Act.put, List.setIfInBounds_toArray, List.set_cons_zero, List.set_cons_succ, i64_w, i32_w]
              rfl
            refine pure_ (i := 10) (N := some 80) (v := ?_) (a' := ?_) #[true, true, true, true, true, true, true, true, true, true, true, false, false, false, false, false] rfl rfl (by kernel_rfl) (fun _ _ _ h => h) (Or.inl ⟨by rfl, ?_⟩) ?_ ?_
            rotate_left
            · intro w2
              (go_simp; (try go_bits); with_reducible rfl)
            rotate_left
            · simp only [Act.put, List.setIfInBounds_toArray, List.set_cons_zero, List.set_cons_succ, i64_w, i32_w]
              rfl
            refine pure_ (i := 11) (N := some 81) (v := ?_) (a' := ?_) #[true, true, true, true, true, true, true, true, true, true, true, true, false, false, false, false] rfl rfl (by kernel_rfl) (fun _ _ _ h => h) (Or.inl ⟨by rfl, ?_⟩) ?_ ?_
            rotate_left
            · intro w2
              (go_simp; (try go_bits); with_reducible rfl)
            rotate_left
            · simp only [Act.put, List.setIfInBounds_toArray, List.set_cons_zero, List.set_cons_succ, i64_w, i32_w]
              rfl
            refine one_ (i := 12) (N := some 82) #[true, true, true, true, true, true, true, true, true, true, true, true, true, false, false, false] rfl rfl (by kernel_rfl) (by decide) (fun K hK => ?_)
            go_simp
            try go_bits
            refine (HTX2.out _ hHeld.1.1).mono ?_
            rintro e w4 ⟨rfl, hb4⟩
            refine hK.out _ _ ⟨hHeld.1.below hb4, hHeld.2.below hb4⟩ (fun hHeld => ?_)
            clear hK K
            refine norm_ (a' := ?_) ?_ ?_
            rotate_left
            · first | rfl | (simp only [Act.put, List.setIfInBounds_toArray, List.set_cons_zero, List.set_cons_succ, i64_w, i32_w]; rfl)
            refine pure_ (i := 13) (N := some 83) (v := ?_) (a' := ?_) #[true, true, true, true, true, true, true, true, true, true, true, true, true, true, false, false] rfl rfl (by kernel_rfl) (fun _ _ _ h => h) (Or.inl ⟨by rfl, ?_⟩) ?_ ?_
            rotate_left
            · intro w2
              (go_simp; (try go_bits); with_reducible rfl)
            rotate_left
            · simp only [Act.put, List.setIfInBounds_toArray, List.set_cons_zero, List.set_cons_succ, i64_w, i32_w]
              rfl
            refine pure_ (i := 14) (N := some 84) (v := ?_) (a' := ?_) #[true, true, true, true, true, true, true, true, true, true, true, true, true, true, true, false] rfl rfl (by kernel_rfl) (fun _ _ _ h => h) (Or.inl ⟨by rfl, ?_⟩) ?_ ?_
            rotate_left
            · intro w2
              (go_simp; (try go_bits); with_reducible rfl)
            rotate_left
            · simp only [Act.put, List.setIfInBounds_toArray, List.set_cons_zero, List.set_cons_succ, i64_w, i32_w]
              rfl
            refine last_ (i := 15) (N := some 85) #[true, true, true, true, true, true, true, true, true, true, true, true, true, true, true, true] rfl rfl (by kernel_rfl) (by decide) (fun K hK => ?_)
            go_simp
            refine (hHeld.1.write _ (by have := HOL.out; omega) (by have := HSS1.out; omega)).mono ?_
            rintro e w5 ⟨rfl, hS5, kp5⟩
            refine hK.out _ _ ?_
            clear hK K
            refine norm_ (a' := ?_) ?_ ?_
            rotate_left
            · first | rfl | (simp only [Act.put, List.setIfInBounds_toArray, List.set_cons_zero, List.set_cons_succ, i64_w, i32_w]; rfl)
            refine done_ (by kernel_rfl) ?_
            have hg5 := kp5 g (opA o) 41 (by decide) hgb hHeld.2
            have f45 : w5.cell? ⟨g, 4, none⟩ = some (.int .i64 (d : Int)) := (hg5.cell 4).trans (by rw [← HD1.out]; rfl)
            rw [HBS.out] at hS5
            have HS5 := Lib.hid hS5
            have HKD := Lib.hid hkd
            clear hS5 hg5 kp5 hHeld HTX2 hgb hSS n1 n2 n3 y1 y2 y3 z1 z2 z3
            have n4 : (k : Int) + (d : Int) + 1 = ((k + 1 + d : Nat) : Int) := by omega
            have N4 := Lib.hid n4
            clear n4
            go_wp2_with fail
            go_roundw
            case rel => exact ⟨k + 1 + d, _, HKD.out, by rw [← N4.out], by rw [HTX.out, HRE.out]; simp, HS5.out⟩
            case measure => have := HKD.out; simp [intOf]; omega
          · unfold opR at HIN
            have f0 : opA ((some o).getD zeroI) = opA o := rfl
            rw [f0] at HIN
            have HRE := Lib.hid (HNA.out o rfl hs hd)
            have hsd : decide (o.2.2.2.2 > (l.length : Int) - 1 - k) = false := decide_eq_false hs
            have hdd : decide (o.2.2.2.2 > 0) = false := decide_eq_false hd
            have HNL : Hid ((strOfNums o.1).size ≤ 14) := by unfold Hid; rw [strOfNums_size]; exact HO.2.2.2.2.2.1
            have hby := bytes_line (HTB.out o rfl)
            have hsz1 : (strOfNums o.1 ++ ⟨#[10]⟩).size ≤ 1000 := by rw [ByteArray.size_append]; have := HNL.out; show _ + 1 ≤ _; omega
            obtain ⟨S, hSe⟩ : ∃ S, strOfNums o.1 ++ ⟨#[10]⟩ = S := ⟨_, rfl⟩
            rw [hSe] at hby hsz1
            have HBY := Lib.hid hby
            have HSI := Lib.hid hsz1
            clear hby hsz1
            have z1 : ¬ 9223372036854775807 < (strOfNums o.1).size + 1 := by have := HNL.out; omega
            have z2 : ¬ 9223372036854775807 < o.1.length + 1 := by have := HNL.out; rw [strOfNums_size] at this; omega
            clear f0 HTE HTB HN HSH HPU HNA hs hd
            go_wp2_with (first | (go_at_call 11; refine (HIN.out _).mono ?_; rintro e w1 ⟨rfl, hb1⟩) | (((with_reducible refine gate_op (.store 41 (.tmp 5) (.tmp 19)) rfl ?_); refine wpl_store_blk rfl 41 (.tmp 5) (.tmp 19) rfl _ rfl _ _ _ rfl (Blk.new _ _ _) 5 size51 rfl rfl (opA_one _) ?_; intro w2 hO hB2); have f0 : w2.cell? ⟨w1.heap.size, 0, none⟩ = some (.string (strOfNums o.1)) := hB2.cell 0; have f4 : w2.cell? ⟨w1.heap.size, 4, none⟩ = some (.int .i64 o.2.2.2.2) := hB2.cell 4))
            have e12 : Below w1.heap.size w1 w2 := Only.below (below_alloc (Below.refl _ _) _) hO (Nat.le_refl _)
            have hS2 := (HS.out.below hb1).below e12
            have HWR := Lib.hid (hS2.write S (by have := HOL.out; omega) (by have := HSI.out; omega))
            with_reducible refine HWR.out.mono ?_
            rintro e w3 ⟨rfl, hS3, _⟩
            rw [HBY.out] at hS3
            have HS3 := Lib.hid hS3
            clear hS3 hS2 e12 hO hB2 f0 f4 hb1
            go_wp2_with fail
            go_roundw
            case rel => exact ⟨k + 1, _, HLT.out, by go_num, by rw [HTX.out, HRE.out, List.append_assoc, List.append_assoc]; rfl, HS3.out⟩
            case measure => have := HLT.out; simp [intOf]; omega
    · obtain rfl : k = l.length := by omega
      rw [restT_end (Nat.le_refl _), List.append_nil] at htx
      have HTX := Lib.hid htx
      have HS := Lib.hid hS
      have p2 : (l.length : Int) ≤ 3000 := by have := HSZ.out; omega
      clear hS htx hol hrl
      go_wp2_with (go_at_call 14; refine (bld_string HS.out.2.1 HS.out.2.2 HS.out.1.size).mono ?_; rintro e w1 ⟨rfl, hb1⟩)
      go_ret
      exact ⟨by rw [HTX.out]; rfl, HS.out.1.trans hb1⟩
end Go.Proofs.YtibhijjmmagdcaaGreatDoor
