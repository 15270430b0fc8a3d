/- asm's maker: line, walked. -/
import Derived.Test.YtibhijjmmagdcaaGreatDoorAsmWith2
namespace Go.Proofs.YtibhijjmmagdcaaGreatDoor
set_option linter.unusedVariables false
set_option linter.unusedSimpArgs false
open Go.RowKit Go.Proofs.YtibhijjmmagdcaaGreatDoorW.PrintWords Go.Proofs.YtibhijjmmagdcaaGreatDoorW.PrintLast
theorem words_mem : ∀ (l now : List Int), ∀ x ∈ wordsG now l, x ≠ [] ∧ x.length ≤ now.length + l.length ∧ ∀ c ∈ x, c ∈ now ∨ c ∈ l
  | [], now, x, hx => by
    rw [wordsG] at hx
    split at hx
    · cases hx
    · simp at hx; subst hx; exact ⟨by assumption, by omega, fun c hc => .inl hc⟩
  | c :: r, now, x, hx => by
    rw [wordsG] at hx
    split at hx
    · split at hx
      · have := words_mem r [] x hx
        exact ⟨this.1, by have := this.2.1; simp at this ⊢; omega, fun d hd => .inr (by rcases this.2.2 d hd with h | h; cases h; exact List.mem_cons_of_mem _ h)⟩
      · rcases List.mem_cons.1 hx with rfl | hx
        · exact ⟨by assumption, by omega, fun d hd => .inl hd⟩
        · have := words_mem r [] x hx
          exact ⟨this.1, by have := this.2.1; simp at this ⊢; omega, fun d hd => .inr (by rcases this.2.2 d hd with h | h; cases h; exact List.mem_cons_of_mem _ h)⟩
    · have := words_mem r (now ++ [c]) x hx
      refine ⟨this.1, by have := this.2.1; simp at this ⊢; omega, fun d hd => ?_⟩
      rcases this.2.2 d hd with h | h
      · rcases List.mem_append.1 h with h | h
        · exact .inl h
        · simp at h; subst h; exact .inr List.mem_cons_self
      · exact .inr (List.mem_cons_of_mem _ h)
theorem note_len (l : List Int) : (noteF l).length ≤ l.length := (List.takeWhile_sublist _).length_le
theorem note_mem {l : List Int} {c : Int} (h : c ∈ noteF l) : c ∈ l := (List.takeWhile_sublist _).subset h
theorem MkOut.from {w W : World} {base g N : Nat} {r : Int × MkF} {e : Ending} {w' : World} (h : MkOut W base g r N e w') (hb : Below base w W) (hk : KeepM w W) : MkOut w base g r N e w' :=
  ⟨h.1, h.2.1, hb.trans h.2.2.1, hk.trans h.2.2.2.1, h.2.2.2.2⟩
def lineW (n : Int) (ws : List (List Int)) (st : MkF) : Int × MkF := lineF n ws st
set_option maxRecDepth 100000 in
theorem line_any (n : Int) (s : ByteArray) (hs : s.size ≤ 100000) (w : World) (base g bl bn N : Nat) (vc vu : Value) (st : MkF) (h : MkP w base g vc bl vu bn st N) (hbs : base ≤ w.heap.size) (hN : N ≤ 100000) (hm : MaxV w) :
    Calls Tryz.prog 17 #[.pointer (some ⟨g, 0, none⟩), .int .i64 n, .string s] w fun e w' => MkOut w base g (lineF n (wordsF (bytesOf s)) st) (N + 1) e w' := by
  have hnb : bytesOf (strOfNums (noteF (bytesOf s))) = noteF (bytesOf s) := bytesOf_strOfNums fun c hc => bytesOf_byte s c (note_mem hc)
  have hnl : (strOfNums (noteF (bytesOf s))).size ≤ s.size := by rw [strOfNums_size]; have := note_len (bytesOf s); rw [bytesOf_length] at this; exact this
  have HCT := Lib.hid (cutnote_any s w (by omega) hm)
  have hff := fun W => fields_any (strOfNums (noteF (bytesOf s))) W (by omega)
  rw [hnb] at hff
  have hws : ∀ x ∈ wordsF (bytesOf s), x ≠ [] ∧ x.length ≤ 100000 ∧ ∀ c ∈ x, 0 ≤ c ∧ c < 256 := fun x hx => by
    have := words_mem _ _ x hx
    refine ⟨this.1, by have := this.2.1; have := note_len (bytesOf s); rw [bytesOf_length] at this; simp at *; omega, fun c hc => ?_⟩
    rcases this.2.2 c hc with h | h
    · cases h
    · exact bytesOf_byte s c (note_mem h)
  rw [show wordsG [] (noteF (bytesOf s)) = wordsF (bytesOf s) from rfl] at hff
  have HW : Hid (WithS w base g vc bl vu bn st N w) := ⟨h, Below.refl _ _, KeepM.refl _, hbs⟩
  clear h hm hnb hnl
  obtain ⟨ws, hwe⟩ : ∃ ws, wordsF (bytesOf s) = ws := ⟨_, rfl⟩
  rw [hwe] at hff hws ⊢
  clear hwe
  match ws, hws, hff with
  | [], hws, hff =>
    have HFF := Lib.hid hff
    clear hff hws
    have HE : Hid (lineF n [] st = (0, st)) := rfl
    rw [HE.out]
    go_enter Tryz.func17, Tryz.ntmps17
    go_wp2_with (first | (go_at_call 38; refine (HCT.out).mono ?_; rintro e w1 ⟨t, b, rfl, hb1⟩) | (go_at_call 39; refine (HFF.out _).mono ?_; rintro e w2 ⟨A2, rfl, hcs, hb2⟩; have HC2 := Lib.hid hcs; clear hcs; have E2 := Lib.hid (bel_then hb1 hb2)))
    go_ret
    exact (HW.out.below E2.out).more.out rfl
  | [x], hws, hff =>
    obtain ⟨hx0, hx1, hx2⟩ := hws x (by simp)
    have HFF := Lib.hid hff
    have HX0 := Lib.hid hx0
    have HX2 := Lib.hid hx2
    have xs : (strOfNums x).size ≤ 100000 := by rw [strOfNums_size]; exact hx1
    have xb : bytesOf (strOfNums x) = x := bytesOf_strOfNums hx2
    have hsf := fun W => suffix_any (strOfNums x) W (by omega)
    rw [xb] at hsf
    clear hff hws hx0 hx2
    by_cases hl : x.getLast? = some 58
    · have HE : Hid (lineF n [x] st = labelF x.dropLast st) := if_pos hl
      rw [decide_eq_true hl] at hsf
      have hts := fun W => trimsuf_any (strOfNums x) W (by omega) (by rw [xb]; exact hl)
      rw [xb] at hts
      have HTS := Lib.hid hts
      have HSF := Lib.hid hsf
      have db : bytesOf (strOfNums x.dropLast) = x.dropLast := bytesOf_strOfNums fun c hc => HX2.out c (List.dropLast_subset _ hc)
      have HLB : Hid (∀ W, WithS w base g vc bl vu bn st N W → Calls Tryz.prog 42 #[.pointer (some ⟨g, 0, none⟩), .string (strOfNums x.dropLast)] W fun e w' => MkOut w base g (labelF x.dropLast st) (N + 1) e w') := fun W hW => by
        have := label_any (strOfNums x.dropLast) (by rw [strOfNums_size]; simp; omega) W base g bl bn N vc vu st hW.1 hW.2.2.2 hN
        rw [db] at this
        exact this.mono fun e w' h => h.from hW.2.1 hW.2.2.1
      rw [HE.out]
      clear hl hsf hts db xb
      go_enter Tryz.func17, Tryz.ntmps17
      go_wp2_with (first | (go_at_call 38; refine (HCT.out).mono ?_; rintro e w1 ⟨t, b, rfl, hb1⟩) | (go_at_call 39; refine (HFF.out _).mono ?_; rintro e w2 ⟨A2, rfl, hcs, hb2⟩; have cc0 : w2.cell? ⟨A2, 0, none⟩ = some (.string (strOfNums x)) := hcs 0 (by simp); have HC2 := Lib.hid hcs; clear hcs; have E2 := Lib.hid (bel_then hb1 hb2)) | (go_at_call 41; refine (HSF.out _).mono ?_; rintro e w3 ⟨rfl, rfl⟩) | (go_at_call 43; refine (HTS.out _).mono ?_; rintro e w3 ⟨rfl, rfl⟩) | (go_at_call 42; refine (HLB.out _ (HW.out.below E2.out)).mono ?_; rintro e w3 ⟨rfl, hout⟩))
      go_ret
      exact ⟨rfl, hout⟩
    · have HE : Hid (lineF n [x] st = plainF x st) := if_neg hl
      rw [decide_eq_false hl] at hsf
      have HSF := Lib.hid hsf
      have HPL : Hid (∀ W, WithS w base g vc bl vu bn st N W → Calls Tryz.prog 44 #[.pointer (some ⟨g, 0, none⟩), .string (strOfNums x)] W fun e w' => MkOut w base g (plainF x st) (N + 1) e w') := fun W hW => by
        have := plain_any (strOfNums x) xs W base g bl bn N vc vu st hW.1 hW.2.2.2 hN
        rw [xb] at this
        exact this.mono fun e w' h => h.from hW.2.1 hW.2.2.1
      rw [HE.out]
      clear hl hsf xb
      go_enter Tryz.func17, Tryz.ntmps17
      go_wp2_with (first | (go_at_call 38; refine (HCT.out).mono ?_; rintro e w1 ⟨t, b, rfl, hb1⟩) | (go_at_call 39; refine (HFF.out _).mono ?_; rintro e w2 ⟨A2, rfl, hcs, hb2⟩; have cc0 : w2.cell? ⟨A2, 0, none⟩ = some (.string (strOfNums x)) := hcs 0 (by simp); have HC2 := Lib.hid hcs; clear hcs; have E2 := Lib.hid (bel_then hb1 hb2)) | (go_at_call 41; refine (HSF.out _).mono ?_; rintro e w3 ⟨rfl, rfl⟩) | (go_at_call 44; refine (HPL.out _ (HW.out.below E2.out)).mono ?_; rintro e w3 ⟨rfl, hout⟩))
      go_ret
      exact ⟨rfl, hout⟩
  | [x, y], hws, hff =>
    obtain ⟨hx0, hx1, hx2⟩ := hws x (by simp)
    obtain ⟨hy0, hy1, hy2⟩ := hws y (by simp)
    have HFF := Lib.hid hff
    have xs : (strOfNums x).size ≤ 100000 := by rw [strOfNums_size]; exact hx1
    have ys : (strOfNums y).size ≤ 100000 := by rw [strOfNums_size]; exact hy1
    have xb : bytesOf (strOfNums x) = x := bytesOf_strOfNums hx2
    have yb : bytesOf (strOfNums y) = y := bytesOf_strOfNums hy2
    have HWI : Hid (∀ W, WithS w base g vc bl vu bn st N W → Calls Tryz.prog 45 #[.pointer (some ⟨g, 0, none⟩), .int .i64 n, .string (strOfNums x), .string (strOfNums y)] W fun e w' => MkOut w base g (withF n x y st) (N + 1) e w') := fun W hW => by
      have := with_any n (strOfNums x) (strOfNums y) xs ys W base g bl bn N vc vu st hW.1 hW.2.2.2 hN
      rw [xb, yb] at this
      exact this.mono fun e w' h => h.from hW.2.1 hW.2.2.1
    have HE : Hid (lineF n [x, y] st = withF n x y st) := rfl
    rw [HE.out]
    clear hff hws hx0 hx2 hy0 hy2 xb yb
    go_enter Tryz.func17, Tryz.ntmps17
    go_wp2_with (first | (go_at_call 38; refine (HCT.out).mono ?_; rintro e w1 ⟨t, b, rfl, hb1⟩) | (go_at_call 39; refine (HFF.out _).mono ?_; rintro e w2 ⟨A2, rfl, hcs, hb2⟩; have cc0 : w2.cell? ⟨A2, 0, none⟩ = some (.string (strOfNums x)) := hcs 0 (by simp); have HC2 := Lib.hid hcs; clear hcs; have E2 := Lib.hid (bel_then hb1 hb2)))
    have cc1 : w2.cell? ⟨A2, 1, none⟩ = some (.string (strOfNums y)) := HC2.out 1 (by simp)
    refine start_ (n := 10) (S := fun W => WithS w base g vc bl vu bn st N W ∧ W.cell? ⟨A2, 0, none⟩ = some (.string (strOfNums x)) ∧ W.cell? ⟨A2, 1, none⟩ = some (.string (strOfNums y))) (ds := [8]) #[false, false, false, false, false, false, false, false, false, false] (by kernel_rfl) rfl rfl ⟨(HW.out.below E2.out).drew, by go_simp, by go_simp⟩ (fun hHeld => ?_)
    refine gen_last hHeld ?_
    clear hHeld
    intro wd hHeld
    refine pure_ (i := 0) (N := some 49) (v := ?_) (a' := ?_) #[true, false, false, false, false, false, false, false, false, false] rfl rfl (by kernel_rfl) (fun _ _ _ h => h) (Or.inl ⟨by rfl, ?_⟩) ?_ ?_
    rotate_left
    · intro w2
      (go_simp; (try go_bits); with_reducible rfl)
    rotate_left
    · simp only [Act.put, List.setIfInBounds_toArray, List.set_cons_zero, List.set_cons_succ, i64_w, i32_w]
      rfl
    refine pure_ (i := 1) (N := some 50) (v := ?_) (a' := ?_) #[true, true, false, false, false, false, false, false, false, false] rfl rfl (by kernel_rfl) (fun _ _ _ h => h) (Or.inl ⟨by rfl, ?_⟩) ?_ ?_
    rotate_left
    · intro w2
      (go_simp; (try go_bits); with_reducible rfl)
    rotate_left
    · simp only [Act.put, List.setIfInBounds_toArray, List.set_cons_zero, List.set_cons_succ, i64_w, i32_w]
      rfl
    refine pure_ (i := 2) (N := some 51) (v := ?_) (a' := ?_) #[true, true, true, false, false, false, false, false, false, false] rfl rfl (by kernel_rfl) (fun _ _ _ h => h) (Or.inl ⟨by rfl, ?_⟩) ?_ ?_
    rotate_left
    · intro w2
      (go_simp; (try go_bits); with_reducible rfl)
    rotate_left
    · simp only [Act.put, List.setIfInBounds_toArray, List.set_cons_zero, List.set_cons_succ, i64_w, i32_w]
      rfl
    refine pure_ (i := 3) (N := some 52) (v := ?_) (a' := ?_) #[true, true, true, true, false, false, false, false, false, false] rfl rfl (by kernel_rfl) (fun _ _ _ h => h) (Or.inl ⟨by rfl, ?_⟩) ?_ ?_
    rotate_left
    · intro w2
      (go_simp; (try go_bits); with_reducible rfl)
    rotate_left
    · simp only [Act.put, List.setIfInBounds_toArray, List.set_cons_zero, List.set_cons_succ, i64_w, i32_w]
      rfl
    refine pure_ (i := 5) (N := some 54) (v := ?_) (a' := ?_) #[true, true, true, true, false, true, false, false, false, false] rfl rfl (by kernel_rfl) (fun _ _ _ h => h) (Or.inl ⟨by rfl, ?_⟩) ?_ ?_
    rotate_left
    · intro w2
      (go_simp; (try go_bits); with_reducible rfl)
    rotate_left
    · simp only [Act.put, List.setIfInBounds_toArray, List.set_cons_zero, List.set_cons_succ, i64_w, i32_w]
      rfl
    refine pure_ (i := 6) (N := some 55) (v := ?_) (a' := ?_) #[true, true, true, true, false, true, true, false, false, false] rfl rfl (by kernel_rfl) (fun _ _ _ h => h) (Or.inl ⟨by rfl, ?_⟩) ?_ ?_
    rotate_left
    · intro w2
      (go_simp; (try go_bits); with_reducible rfl)
    rotate_left
    · simp only [Act.put, List.setIfInBounds_toArray, List.set_cons_zero, List.set_cons_succ, i64_w, i32_w]
      rfl
    refine take_ (i := 4) (N := some 53) (v := ?_) (a' := ?_) #[true, true, true, true, true, true, true, false, false, false] rfl rfl (by kernel_rfl) (fun _ _ _ h => h) (Or.inl ⟨by rfl, ?_⟩) hHeld ?_ ?_
    rotate_left
    · intro w2 hS2
      have c0 := hS2.2.1
      have c1 := hS2.2.2
      (go_simp; (try go_bits); with_reducible rfl)
    rotate_left
    · simp only [Act.put, List.setIfInBounds_toArray, List.set_cons_zero, List.set_cons_succ, i64_w, i32_w]
      rfl
    refine take_ (i := 7) (N := some 56) (v := ?_) (a' := ?_) #[true, true, true, true, true, true, true, true, false, false] rfl rfl (by kernel_rfl) (fun _ _ _ h => h) (Or.inl ⟨by rfl, ?_⟩) hHeld ?_ ?_
    rotate_left
    · intro w2 hS2
      have c0 := hS2.2.1
      have c1 := hS2.2.2
      (go_simp; (try go_bits); with_reducible rfl)
    rotate_left
    · simp only [Act.put, List.setIfInBounds_toArray, List.set_cons_zero, List.set_cons_succ, i64_w, i32_w]
      rfl
    refine last_ (i := 8) (N := some 57) #[true, true, true, true, true, true, true, true, true, false] rfl rfl (by kernel_rfl) (by decide) (fun K hK => ?_)
    go_simp
    refine (HWI.out _ hHeld.1).mono ?_
    rintro e w3 ⟨rfl, hout⟩
    refine hK.out _ _ ?_
    clear hK K
    refine norm_ (a' := ?_) ?_ ?_
    rotate_left
    · first | rfl | (simp only [Act.put, List.setIfInBounds_toArray, List.set_cons_zero, List.set_cons_succ, i64_w, i32_w]; rfl)
    refine pure_ (i := 9) (N := some 6) (v := ?_) (a' := ?_) #[true, true, true, true, true, true, true, true, true, true] rfl rfl (by kernel_rfl) (fun _ _ _ h => h) (Or.inl ⟨by rfl, ?_⟩) ?_ ?_
    rotate_left
    · intro w2
      (go_simp; (try go_bits); with_reducible rfl)
    rotate_left
    · simp only [Act.put, List.setIfInBounds_toArray, List.set_cons_zero, List.set_cons_succ, i64_w, i32_w]
      rfl
    refine done_ (by kernel_rfl) ?_
    go_wp2_with fail
    go_ret
    exact ⟨rfl, hout⟩
  | x :: y :: z :: r, hws, hff =>
    have HFF := Lib.hid hff
    have HE : Hid (lineF n (x :: y :: z :: r) st = (2, st)) := rfl
    have q1 : (2 : Int) < ((x :: y :: z :: r).length : Int) := by simp; omega
    have q2 : (((x :: y :: z :: r).length : Int) == 0) = false := by rw [beq_eq_false_iff_ne]; omega
    have q3 : (((x :: y :: z :: r).length : Int) == 1) = false := by rw [beq_eq_false_iff_ne]; omega
    obtain ⟨m, hm⟩ : ∃ m, (x :: y :: z :: r).length = m := ⟨_, rfl⟩
    rw [hm] at q1 q2 q3
    have HFM : Hid (∀ W, Calls Tryz.prog 39 #[.string (strOfNums (noteF (bytesOf s))), .func (.func 40) #[] #[]] W fun e w' => ∃ A, e = .returned (.slice (some ⟨A, 0, none⟩) m m) ∧ Below W.heap.size W w') := fun W => (hff W).mono fun e w' ⟨A, h1, _, h3⟩ => ⟨A, by rw [h1, hm], h3⟩
    rw [HE.out]
    clear hff hws hm
    go_enter Tryz.func17, Tryz.ntmps17
    go_wp2_with (first | (go_at_call 38; refine (HCT.out).mono ?_; rintro e w1 ⟨t, b, rfl, hb1⟩) | (go_at_call 39; refine (HFM.out _).mono ?_; rintro e w2 ⟨A2, rfl, hb2⟩; have E2 := Lib.hid (bel_then hb1 hb2)))
    go_ret
    exact (HW.out.below E2.out).more.out rfl
end Go.Proofs.YtibhijjmmagdcaaGreatDoor
