/- smithyref02.Times by a number of one digit, walked. -/
import Derived.Test.YtibhijjmmagdcaaGreatDoorRef02
namespace Go.Proofs.YtibhijjmmagdcaaGreatDoor
set_option linter.unusedVariables false
set_option linter.unusedSimpArgs false
open Go.RowKit Go.Proofs.YtibhijjmmagdcaaGreatDoorW.PrintWords Go.Proofs.YtibhijjmmagdcaaGreatDoorW.PrintLast
theorem getD_set (l : List Int) (i j : Nat) (x : Int) : (l.set i x).getD j 0 = if i = j ∧ i < l.length then x else l.getD j 0 := by
  rw [List.getD_eq_getElem?_getD, List.getElem?_set, List.getD_eq_getElem?_getD]
  by_cases h : i = j
  · subst h
    by_cases h2 : i < l.length
    · simp [h2]
    · simp [h2]
  · simp [h]
theorem set_same {l : List Int} {j : Nat} {x : Int} (h : l.getD j 0 = x) (hj : j < l.length) : l.set j x = l := by
  have : x = l[j] := by rw [← h, List.getD_eq_getElem?_getD, List.getElem?_eq_getElem hj]; rfl
  rw [this, List.set_getElem_self]
theorem Dig.set {a : List Int} (h : Dig a) (i : Nat) {x : Int} (hx : 0 ≤ x ∧ x < 256) : Dig (a.set i x) := fun c hc => by
  rcases List.mem_or_eq_of_mem_set hc with hc | hc
  · exact h c hc
  · subst hc; exact hx
/-- The product, before the digit i. -/
def TimesI (a : List Int) (y : Int) (O : List Int) (i : Nat) : Prop := O.length = a.length + 2 ∧ Dig O ∧ (∀ j, i < j → O.getD j 0 = 0) ∧ pre O (i + 1) = y * pre a i
def outO (O : List Int) (i : Nat) (s : Int) : List Int := (O.set i (s % 256)).set (i + 1) (s / 256)
theorem TimesI.next {a O : List Int} {y s : Int} {i : Nat} (h : TimesI a y O i) (hi : i < a.length) (hs : s = O.getD i 0 + a.getD i 0 * y) (h0 : 0 ≤ s) (h1 : s < 65536) : TimesI a y (outO O i s) (i + 1) := by
  obtain ⟨hl, hd, hz, hp⟩ := h
  have e0 : (outO O i s).getD i 0 = s % 256 := by rw [outO, getD_set, if_neg (by omega), getD_set, if_pos (by omega)]
  have e1 : (outO O i s).getD (i + 1) 0 = s / 256 := by rw [outO, getD_set, if_pos (by rw [List.length_set]; omega)]
  have e2 : ∀ j, j ≠ i → j ≠ i + 1 → (outO O i s).getD j 0 = O.getD j 0 := fun j h2 h3 => by rw [outO, getD_set, if_neg (by omega), getD_set, if_neg (by omega)]
  refine ⟨by simp [outO, hl], (hd.set i (by omega)).set (i + 1) (by omega), fun j hj => by rw [e2 j (by omega) (by omega), hz j (by omega)], ?_⟩
  rw [pre, pre, pre_congr (b := O) (fun j hj => e2 j (by omega) (by omega)), e0, e1, pre, Int.pow_succ]
  rw [pre] at hp
  have h1 : s % 256 = s - 256 * (s / 256) := by omega
  rw [h1, hs]
  grind
theorem OwnI.row {W : World} {base g m : Nat} {P : List Int} (h : OwnI W base (.slice (some ⟨g, 0, none⟩) m m) P) (hl : P.length = m) : W.ownsRow base 3 1 (.slice (some ⟨g, 0, none⟩) m m) m (nums .i64 P) := by
  have h1 : W.ownsRow base 3 1 (.slice (some ⟨g, 0, none⟩) m m) P.length (nums .i64 P) := h
  rw [hl] at h1
  exact h1
theorem OwnI.cellD {W : World} {base g m : Nat} {P : List Int} (h : OwnI W base (.slice (some ⟨g, 0, none⟩) m m) P) (hl : P.length = m) {j : Nat} (hj : j < m) : W.cell? ⟨g, j, none⟩ = some (.int .i64 (P.getD j 0)) ∧ W.frozen? ⟨g, j, none⟩ = false := by
  refine ⟨?_, (h.row hl).frozenAt j⟩
  rw [(h.row hl).cellAt j (by omega)]
  simp [nums, List.getD_eq_getElem?_getD, List.getElem?_eq_getElem (show j < P.length by omega)]
theorem OwnI.put {W : World} {base g m : Nat} {P : List Int} (h : OwnI W base (.slice (some ⟨g, 0, none⟩) m m) P) (hl : P.length = m) (j : Nat) (x : Int) : OwnI (W.setCell ⟨g, j, none⟩ (.int .i64 x)) base (.slice (some ⟨g, 0, none⟩) m m) (P.set j x) := by
  have hs := ((h.row hl).stored j (.int .i64 x)).1
  unfold OwnI
  rw [List.length_set, hl]
  have e : (nums .i64 P).set j (.int .i64 x) = nums .i64 (P.set j x) := by unfold nums; rw [List.map_set]
  rw [e] at hs
  exact hs
set_option maxRecDepth 100000 in
set_option maxHeartbeats 1000000 in
theorem times_any (A B : Option Addr) (ca cb : Nat) (a : List Int) (y : Int) (w : World) (ha : (Kd.int .i64).C w A a.length a) (hb : (Kd.int .i64).C w B 1 [y]) (da : Dig a) (hy : 0 ≤ y ∧ y < 256) (la : a.length ≤ 10000) :
    Calls Tryz.prog 30 #[.slice A a.length ca, .slice B 1 cb] w fun e w' => ∃ v r, e = .returned v ∧ NumR w' w.heap.size v r ∧ r.length = a.length + 2 ∧ pre r r.length = y * pre a a.length ∧ Below w.heap.size w w' := by
  have HB := Lib.hid fun (W : World) (h : Below w.heap.size w W) (i : Nat) (hi : i ≤ 100000) => at_any B cb [y] i W (Kd.C_below hb h) hi
  have HCA : Hid (∀ k, (hk : k < a.length) → ∃ ad, A = some ad ∧ ∀ W, Below w.heap.size w W → W.cell? (ad.add k) = some (.int .i64 (a.getD k 0))) := fun k hk => by
    obtain ⟨ad, hA, _⟩ := Kd.at_int ha (k : Int) (by omega) (by omega)
    refine ⟨ad, hA, fun W hW => ?_⟩
    obtain ⟨ad', hA', hc⟩ := Kd.at_int (Kd.C_below ha hW) (k : Int) (by omega) (by omega)
    rw [hA] at hA'
    injection hA' with hA'
    subst hA'
    rw [Int.toNat_natCast] at hc
    rw [hc, rd]
    simp
  obtain ⟨m, hm⟩ : ∃ m, a.length + 2 = m := ⟨_, rfl⟩
  have hmk := print_make 74 3 .i64 8 Tryz.underlying74 infoI (by decide) m (by omega)
  have e1 : (a.length : Int) + 1 + 1 = (m : Int) := by omega
  have e2 : (a.length : Int) + 2 = (m : Int) := by omega
  have q0 : (a.length : Int) < 100000 := by omega
  have HM := Lib.hid hm
  have HA := Lib.hid la
  have HD := Lib.hid da
  have HY := Lib.hid hy
  clear ha hb da la hy hm
  go_enter Tryz.func30, Tryz.ntmps30
  go_wp2_with fail
  refine wp_any_world (fun W => OwnI W w.heap.size (.slice (some ⟨w.heap.size, 0, none⟩) m m) (List.replicate m 0) ∧ Below w.heap.size w W) ⟨own_made' w _ _ _ _ (Nat.le_refl _) (by have := HM.out; have := HA.out; omega), below_alloc (Below.refl _ _) _⟩ ?_
  intro w1 hS
  go_loopw [19] (fun i wr => ∃ (O : List Int) (k : Nat), k ≤ a.length ∧ i = .int .i64 k ∧ TimesI a y O k ∧ OwnI wr w.heap.size (.slice (some ⟨w.heap.size, 0, none⟩) m m) O ∧ Below w.heap.size w wr) (fun i _ => a.length - (intOf i).toNat)
  case atStart =>
    refine ⟨_, 0, by omega, rfl, ⟨by simp; exact HM.out.symm, fun c hc => ?_, fun j _ => ?_, ?_⟩, hS.1, hS.2⟩
    · have := List.eq_of_mem_replicate hc; omega
    · rw [List.getD_eq_getElem?_getD, List.getElem?_replicate]; split <;> rfl
    · rw [pre, pre, pre, List.getD_eq_getElem?_getD, List.getElem?_replicate]; split <;> simp
  case round =>
    clear hS
    obtain ⟨O, k, hk, rfl, hI, hO, hB⟩ := hrel
    by_cases hlt : k < a.length
    · obtain ⟨ad, rfl, hcell⟩ := HCA.out k hlt
      have p0 : (0 : Int) ≤ (k : Int) := by omega
      have p1 : (k : Int) < (a.length : Int) := by omega
      have xa := HD.out.at k
      have xo := hI.2.1.at k
      have hy := HY.out
      obtain ⟨s, hs⟩ : ∃ s, s = O.getD k 0 + a.getD k 0 * y := ⟨_, rfl⟩
      have hxy : 0 ≤ a.getD k 0 * y ∧ a.getD k 0 * y ≤ 255 * 255 := ⟨Int.mul_nonneg xa.1 hy.1, Int.mul_le_mul (by omega) (by omega) hy.1 (by omega)⟩
      have hs0 : 0 ≤ s := by omega
      have hs1 : s < 65536 := by omega
      have HN := Lib.hid (hI.next hlt hs hs0 hs1)
      have HZ : Hid (O.getD (k + 1) 0 = 0) := hI.2.2.1 (k + 1) (by omega)
      have HOL : Hid (O.length = m) := by unfold Hid; rw [hI.1]; exact HM.out
      have HS := Lib.hid hs
      obtain ⟨x, hx⟩ : ∃ x, a.getD k 0 = x := ⟨_, rfl⟩
      obtain ⟨o, ho⟩ : ∃ o, O.getD k 0 = o := ⟨_, rfl⟩
      rw [hx] at hcell xa HS hxy
      rw [ho] at xo HS
      have HCE := Lib.hid hcell
      have HO0 := Lib.hid ho
      have HOW := Lib.hid hO
      have HBW := Lib.hid hB
      clear hI hs hx ho hcell hO hB
      have HY0 := Lib.hid fun (W : World) (h : Below w.heap.size w W) => HB.out W h 0 (by omega)
      have HY1 := Lib.hid fun (W : World) (h : Below w.heap.size w W) => HB.out W h 1 (by omega)
      go_wp2_with fail
      obtain ⟨wo, rfl⟩ : ∃ wo : World, wo = wr := ⟨_, rfl⟩
      go_loopw [7, 8] (fun cv kv wx => ∃ (q : Nat) (c : Int) (P : List Int), kv = .int .i64 q ∧ cv = .int .i64 c ∧ ((q = 0 ∧ c = 0 ∧ P = O) ∨ (q = 1 ∧ c = s / 256 ∧ P = O.set k (s % 256)) ∨ (q = 2 ∧ c = 0 ∧ P = outO O k s)) ∧ OwnI wx w.heap.size (.slice (some ⟨w.heap.size, 0, none⟩) m m) P ∧ Below w.heap.size w wx) (fun _ kv _ => 2 - (intOf kv).toNat)
      case atStart => exact ⟨0, 0, O, rfl, rfl, .inl ⟨rfl, rfl, rfl⟩, HOW.out, HBW.out⟩
      case round =>
        clear HOW HBW
        obtain ⟨q, c, P, rfl, rfl, hq, hP, hBx⟩ := hrel
        rcases hq with ⟨rfl, rfl, rfl⟩ | ⟨rfl, rfl, rfl⟩ | ⟨rfl, rfl, rfl⟩
        · have hkm : k < m := by have := HM.out; omega
          have hkm2 : (k : Int) < (m : Int) := by omega
          have cA := HCE.out wr hBx
          have ⟨cO, fO⟩ := hP.cellD HOL.out hkm
          rw [HO0.out] at cO
          have HP := Lib.hid hP
          have HBX := Lib.hid hBx
          clear hP hBx hkm
          go_wp2_with fail
          go_quiet ((go_at_call 62; exact Calls.quiet_of_same (HY0.out _ (by first | exact HBX.out | exact bel_drew HBX.out | exact bel_drewN HBX.out _))))
          go_wp2_with fail
          go_roundw
          case rel => exact ⟨1, _, _, rfl, rfl, .inr (.inl ⟨rfl, by rw [HS.out], by rw [HS.out]⟩), (HP.out.below (bel_drewN (Below.refl _ _) _)).put HOL.out k _, (bel_drewN HBX.out _).setCell (p := ⟨w.heap.size, k, none⟩) (Nat.le_refl _) _⟩
          case measure => simp [intOf]
        · have HOL1 : Hid ((O.set k (s % 256)).length = m) := by unfold Hid; rw [List.length_set]; exact HOL.out
          by_cases hc : s / 256 = 0
          · have HX : Hid (O.set k (s % 256) = outO O k s) := by
              have h1 : (O.set k (s % 256)).getD (k + 1) 0 = 0 := by rw [getD_set, if_neg (by omega)]; exact HZ.out
              unfold Hid outO
              rw [hc, set_same h1 (by rw [HOL1.out]; have := HM.out; omega)]
            rw [hc]
            rw [HX.out] at hP
            have HP := Lib.hid hP
            have HBX := Lib.hid hBx
            clear hP hBx hc
            go_wp2_with fail
            go_roundw
            case rel => exact ⟨_, k + 1, by omega, by go_num, HN.out, HP.out, HBX.out⟩
            case measure => simp [intOf]; omega
          · have hkm : k + 1 < m := by have := HM.out; omega
            have hkm2 : (k : Int) + 1 < (m : Int) := by omega
            have qn : ((k : Int) + 1).toNat = k + 1 := by omega
            have cA := HCE.out wr hBx
            have ⟨cO, fO⟩ := hP.cellD HOL1.out hkm
            have h1 : (O.set k (s % 256)).getD (k + 1) 0 = 0 := by rw [getD_set, if_neg (by omega)]; exact HZ.out
            rw [h1] at cO
            obtain ⟨c, hcc⟩ : ∃ c, s / 256 = c := ⟨_, rfl⟩
            have c0 : 0 < c := by omega
            have c1 : c < 256 := by omega
            have HCC := Lib.hid hcc
            have HP := Lib.hid hP
            have HBX := Lib.hid hBx
            rw [hcc] at hc ⊢
            clear hP hBx hkm h1 hcc hc
            have y1 : ([y] : List Int).getD 1 0 = 0 := rfl
            go_wp2_with fail
            go_quiet ((go_at_call 62; exact Calls.quiet_of_same (HY1.out _ (by first | exact HBX.out | exact bel_drew HBX.out | exact bel_drewN HBX.out _))))
            go_wp2_with fail
            have hmod : c % 256 = c := by omega
            have hdiv : c / 256 = 0 := by omega
            try simp only [hmod, hdiv]
            go_roundw
            case rel => exact ⟨2, _, _, rfl, rfl, .inr (.inr ⟨rfl, rfl, by rw [outO, HCC.out]⟩), (HP.out.below (bel_drewN (Below.refl _ _) _)).put HOL1.out (k + 1) _, (bel_drewN HBX.out _).setCell (p := ⟨w.heap.size, k + 1, none⟩) (Nat.le_refl _) _⟩
            case measure => simp [intOf]
        · have HP := Lib.hid hP
          have HBX := Lib.hid hBx
          clear hP hBx
          go_wp2_with fail
          go_roundw
          case rel => exact ⟨_, k + 1, by omega, by go_num, HN.out, HP.out, HBX.out⟩
          case measure => simp [intOf]; omega
    · obtain rfl : k = a.length := by omega
      have hfin : pre O O.length = y * pre a a.length := by
        obtain ⟨h1, _, h2, h3⟩ := hI
        rw [h1, pre, h2 _ (by omega), h3]
        simp
      have HI := Lib.hid hI
      have HF := Lib.hid hfin
      have HP := Lib.hid hO
      have HBX := Lib.hid hB
      clear hI hfin hO hB
      go_wp2_with fail
      go_ret
      exact ⟨_, O, rfl, ⟨HP.out, HI.out.2.1⟩, HI.out.1, HF.out, HBX.out⟩
end Go.Proofs.YtibhijjmmagdcaaGreatDoor
