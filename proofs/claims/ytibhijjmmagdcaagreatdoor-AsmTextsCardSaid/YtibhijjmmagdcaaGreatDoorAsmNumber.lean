/- asm.Number, walked. -/
import Derived.Test.YtibhijjmmagdcaaGreatDoorAsmNums
import Derived.Test.YtibhijjmmagdcaaGreatDoorAsmBase
namespace Go.Proofs.YtibhijjmmagdcaaGreatDoor
set_option linter.unusedVariables false
set_option linter.unusedSimpArgs false
open Go.RowKit Go.Proofs.YtibhijjmmagdcaaGreatDoorW.PrintWords Go.Proofs.YtibhijjmmagdcaaGreatDoorW.PrintLast
theorem dnum_snoc (l : List Int) (c : Int) : dnum (l ++ [c]) = 10 * dnum l + (c - 48) := by simp [dnum]
theorem dnum_more (a b : List Int) (h : b.all isDig = true) (ha : 0 ≤ dnum a) : dnum a ≤ dnum (a ++ b) := by
  induction b generalizing a with
  | nil => simp
  | cons c b ih =>
    rw [List.all_cons, Bool.and_eq_true] at h
    have hc : 48 ≤ c ∧ c ≤ 57 := by simpa [isDig] using h.1
    have h1 := dnum_snoc a c
    have := ih (a ++ [c]) h.2 (by omega)
    rw [List.append_assoc] at this
    exact Int.le_trans (by omega) this
theorem dnum_pos (l : List Int) (h : l.all isDig = true) : 0 ≤ dnum l := dnum_more [] l h (by decide)
theorem dig_at {s : ByteArray} (h : (bytesOf s).all isDig = true) {k : Nat} (hk : k < s.size) : 48 ≤ bt s (k : Int) ∧ bt s (k : Int) ≤ 57 := by
  have := List.all_eq_true.1 h (bt s (k : Int)) (by rw [← bytesOf_get s k hk]; exact List.getElem_mem _)
  simpa [isDig] using this
theorem of_U64 {d : Int} (h0 : 0 ≤ d) (h1 : d < 18446744073709551616) : U64 fun i => if i = 0 then d else 0 := fun i => by
  by_cases e : i = 0
  · simp only [e, if_true]; omega
  · simp only [e, if_false]; omega
theorem of_val (d : Int) : wval (fun i => if i = 0 then d else 0) = d := by simp [wval]
theorem eql_zero {H : Nat → Int} (hH : U64 H) (h : wval H = 0) : eqN 4 H (fun _ => 0) = true := eqN_iff.2 (wval_zero hH h)
theorem eql_pos {H : Nat → Int} (h : wval H ≠ 0) : eqN 4 H (fun _ => 0) = false := by
  cases hb : eqN 4 H (fun _ => 0) with
  | false => rfl
  | true =>
    have := eqN_iff.1 hb
    exact absurd (by simp [wval, this 0 (by omega), this 1 (by omega), this 2 (by omega), this 3 (by omega)]) h
theorem cmp_lt {f g : Nat → Int} (hf : U64 f) (hg : U64 g) : (decide (cmpF f g < 0)) = decide (wval f < wval g) := by
  unfold cmpF
  by_cases h : eqN 4 f g = true
  · have h2 := eqN_iff.1 h
    have : wval f = wval g := by simp [wval, h2 0 (by omega), h2 1 (by omega), h2 2 (by omega), h2 3 (by omega)]
    rw [if_pos h]
    simp [this]
  · rw [if_neg h]
    by_cases h3 : wval f < wval g
    · simp [h3]
    · simp [h3]
/-- What the number's loop keeps: the result's cell, the number's. -/
def NumS (w : World) (g : Nat) (F : Nat → Int) (W : World) : Prop := Below w.heap.size w W ∧ Blk W g (arrF .u64 4 F) 31 ∧ Blk W w.heap.size (arrF .u64 4 fun _ => 0) 31 ∧ w.heap.size < g
theorem NumS.below {w W W1 : World} {g : Nat} {F : Nat → Int} (h : NumS w g F W) (hb : Below W.heap.size W W1) : NumS w g F W1 := ⟨bel_then h.1 hb, h.2.1.below hb, h.2.2.1.below hb, h.2.2.2⟩
theorem NumS.drew {w W : World} {g : Nat} {F : Nat → Int} (h : NumS w g F W) : NumS w g F W.drew := ⟨bel_drew h.1, h.2.1.drew, h.2.2.1.drew, h.2.2.2⟩
theorem NumS.alloc {w W : World} {g : Nat} {F : Nat → Int} (h : NumS w g F W) (o : Obj) : NumS w g F (W.alloc o) := ⟨below_alloc h.1 _, h.2.1.alloc _, h.2.2.1.alloc _, h.2.2.2⟩
theorem NumS.only {w W W1 : World} {g g' : Nat} {F : Nat → Int} (h : NumS w g F W) (ho : Only W W1 g') (h1 : g < g') : NumS w g F W1 := ⟨Only.below h.1 ho (by have := h.2.2.2; omega), Only.blk h.2.1 ho (by omega), Only.blk h.2.2.1 ho (by have := h.2.2.2; omega), h.2.2.2⟩
theorem gen_at {P : Program} {md : Region.Mode} {ops : Array Oper} {Q : Exit → Act → World → Prop} {S : World → Prop} {ds : List Nat} {n : Nat} {l : Array Bool} {a : Act} {w : World} (T : World → Prop) (h : T w)
    (hg : ∀ W, T W → wpAnyLast P md ops Q S ds n l a W) : wpAnyLast P md ops Q S ds n l a w := hg w h
set_option maxHeartbeats 8000000 in
set_option maxRecDepth 100000 in
theorem dec_loop (s : ByteArray) (w : World) (hall : (bytesOf s).all isDig = true) (h0 : 0 < s.size) (h78 : ¬ 78 < s.size) (t : ByteArray)
    (hcut : ∀ W, Calls Tryz.prog 21 #[.string s, .string ⟨#[48, 120]⟩] W fun e w' => e = .returned (.tuple #[.string t, .bool false]) ∧ W = w') :
    ∀ V E : Int, Hid (V = if M256 ≤ dnum (bytesOf s) then 0 else dnum (bytesOf s)) → Hid (E = if M256 ≤ dnum (bytesOf s) then 5 else 0) →
    Calls Tryz.prog 9 #[.string s] w fun e w' => e = .returned (.tuple #[wordF (limbF V), .int .i64 E]) ∧ Below w.heap.size w w' := by
  intro V E HV0 HE0
  have HCUT := Lib.hid hcut
  have HALL := Lib.hid hall
  have HTR : Hid (∀ W, Calls Tryz.prog 23 #[.string s, .string ⟨#[48, 49, 50, 51, 52, 53, 54, 55, 56, 57]⟩] W fun e w' => ∃ t, e = .returned (.string t) ∧ t.toList.isEmpty = true ∧ Below W.heap.size W w') := fun W => by
    refine (trimdig_any s W (by omega)).mono ?_
    rintro e w' ⟨t, rfl, h, hb⟩
    have h2 := h.2 hall
    have : t = ⟨#[]⟩ := by
      cases t with | mk a => congr 1; exact Array.eq_empty_of_size_eq_zero h2
    exact ⟨t, rfl, by subst this; unfold ByteArray.toList ByteArray.toList.loop; rfl, hb⟩
  have n0 := toList_ne h0
  have q78 : ¬ (78 : Int) < (s.size : Int) := by omega
  have HS := Lib.hid (show s.size ≤ 78 by omega)
  have hz := zero25
  have ZL : Hid (arrF .u64 4 (limbF 0) = arrF .u64 4 fun _ => 0) := arrF_ext fun i _ => by simp [limbF]
  have HOF : Hid (∀ W, Calls Tryz.prog 25 #[.int .u64 10] W fun e w' => e = .returned (wordF fun i => if i = 0 then 10 else 0) ∧ Below W.heap.size W w') := fun W => of_any 10 W
  clear hcut hall h0 h78
  unfold wordF at HOF ⊢
  go_enter Tryz.func9, Tryz.ntmps9
  go_wp2_with (first | (go_at_call 21; refine (HCUT.out _).mono ?_; rintro e w' ⟨rfl, rfl⟩) | (go_at_call 23; refine (HTR.out _).mono ?_; rintro e w1 ⟨t1, rfl, ht1, hb1⟩))
  have hlt1 := hb1.size
  refine wp_any_world (NumS w w1.heap.size fun _ => 0) ⟨below_alloc (bel_then (below_alloc (Below.refl _ _) _) hb1) _, Blk.new _ _ _, ((Blk.new _ _ _).below hb1).alloc _, by simp at hlt1; omega⟩ ?_
  intro W hS
  clear ht1 n0 q78 hlt1 hb1
  go_loopw [35] (fun i wr => ∃ (k : Nat) (F : Nat → Int), k ≤ s.size ∧ i = .int .i64 k ∧ U64 F ∧ wval F = dnum ((bytesOf s).take k) ∧ NumS w w1.heap.size F wr) (fun i _ => s.size - (intOf i).toNat)
  case atStart => exact ⟨0, _, by omega, rfl, zero_U64, by rw [zero_val]; rfl, hS⟩
  case round =>
    clear hS
    obtain ⟨k, F, hk, rfl, hF, hv, hS⟩ := hrel
    by_cases hlt : k < s.size
    · have p0 : (0 : Int) ≤ (k : Int) := by omega
      have p1 : (k : Int) < (s.size : Int) := by omega
      have p2 : (k : Int) < 1000 := by have := HS.out; omega
      have x0 := bt_at s (k : Int)
      rw [Int.toNat_natCast] at x0
      have r0 := dig_at HALL.out hlt
      have HF := Lib.hid hF
      have HV := Lib.hid hv
      have HT : Hid (dnum ((bytesOf s).take (k + 1)) = 10 * wval F + (bt s (k : Int) - 48)) := by rw [Hid, bytesOf_take_succ s k hlt, dnum_snoc, hv]
      have HP : Hid (∀ W, Calls Tryz.prog 24 #[.agg (arrF .u64 4 F), .agg (arrF .u64 4 fun i => if i = 0 then 10 else 0)] W fun e w' => ∃ L H, U64 L ∧ U64 H ∧ wval L + M256 * wval H = 10 * wval F ∧ e = .returned (.tuple #[.agg (arrF .u64 4 L), .agg (arrF .u64 4 H)]) ∧ Below W.heap.size W w') := fun W => by
        have := product_any F (fun i => if i = 0 then 10 else 0) W hF (of_U64 (by decide) (by decide))
        rw [of_val, Int.mul_comm] at this
        exact this
      obtain ⟨b, hb⟩ : ∃ b, bt s (k : Int) = b := ⟨_, rfl⟩
      rw [hb] at x0 r0 HT
      clear hF hv hb
      go_wp2_with fail
      refine start_ (n := 10) (S := NumS w w1.heap.size F) (ds := [8, 9]) #[false, false, false, false, false, false, false, false, false, false] (by kernel_rfl) rfl rfl hS.drew (fun hHeld => ?_)
      refine gen_last hHeld ?_
      clear hHeld
      intro wd hHeld
      refine take_ (i := 0) (N := some 39) (v := ?_) (a' := ?_) #[true, false, false, false, false, false, false, false, false, false] rfl rfl (by kernel_rfl) (fun _ _ _ h => h) (Or.inl ⟨by rfl, ?_⟩) hHeld ?_ ?_
      rotate_left
      · intro w2 hS2
        skip
        (refine run_load_blk (x := .tmp 6) ?_ ?_ hS2.2.1 Tryz.underlying31 rfl 4 size25 (arrF_size _ _ _) <;> rfl)
      rotate_left
      · simp only [Act.put, List.setIfInBounds_toArray, List.set_cons_zero, List.set_cons_succ, i64_w, i32_w]
        rfl
      refine join_ (σ := (Nat → Int) × (Nat → Int) × Nat × Nat) 2 #[true, true, true, true, true, true, true, true, false, false] (fun s => [(40, .agg (arrF .u64 4 fun i => if i = 0 then 10 else 0)), (41, .tuple #[.agg (arrF .u64 4 s.1), .agg (arrF .u64 4 s.2.1)]), (38, .tuple #[.agg (arrF .u64 4 s.1), .agg (arrF .u64 4 s.2.1)]), (42, .agg (arrF .u64 4 s.1)), (43, .agg (arrF .u64 4 s.2.1)), (8, .pointer (some ⟨s.2.2.1, 0, none⟩)), (9, .pointer (some ⟨s.2.2.2, 0, none⟩))]) (fun s W => NumS w w1.heap.size F W ∧ U64 s.1 ∧ U64 s.2.1 ∧ wval s.1 + M256 * wval s.2.1 = 10 * wval F ∧ Blk W s.2.2.1 (arrF .u64 4 fun _ => 0) 31 ∧ Blk W s.2.2.2 (arrF .u64 4 fun _ => 0) 31 ∧ w1.heap.size < s.2.2.1 ∧ w1.heap.size < s.2.2.2 ∧ s.2.2.1 ≠ s.2.2.2) ?_ ?_
      rotate_left
      · intro hcont
        simp only [putAll, Act.put, List.setIfInBounds_toArray, List.set_cons_zero, List.set_cons_succ] at hcont
        refine three_ (i := 1) (j := 6) (k := 7) (Ni := some 40) (Nj := some 8) (Nk := some 9) #[true, true, false, false, false, false, false, false, false, false] #[true, false, false, false, false, false, true, false, false, false] #[true, false, false, false, false, false, false, true, false, false] rfl rfl rfl rfl rfl rfl (by kernel_rfl) (by decide) (by decide) (by decide) (fun K hK => ?_) (fun K hK => ?_) (fun K hK => ?_)
        · skip
          go_simp
          try go_bits
          refine (HOF.out _).mono ?_
          rintro e w2 ⟨rfl, hb1⟩
          refine hK.out _ _ (hHeld.below hb1) (fun hHeld => ?_)
          clear hK K
          refine norm_ (a' := ?_) ?_ ?_
          rotate_left
          · first | rfl | (simp only [Act.put, List.setIfInBounds_toArray, List.set_cons_zero, List.set_cons_succ, i64_w, i32_w]; rfl)
          refine gen_at (fun W => (NumS w w1.heap.size F) W) hHeld ?_
          clear hHeld
          rintro wt1 hHeld
          refine three_ (i := 2) (j := 6) (k := 7) (Ni := some 41) (Nj := some 8) (Nk := some 9) #[true, true, true, false, false, false, false, false, false, false] #[true, true, false, false, false, false, true, false, false, false] #[true, true, false, false, false, false, false, true, false, false] rfl rfl rfl rfl rfl rfl (by kernel_rfl) (by decide) (by decide) (by decide) (fun K hK => ?_) (fun K hK => ?_) (fun K hK => ?_)
          · skip
            go_simp
            try go_bits
            refine (HP.out _).mono ?_
            rintro e w2 ⟨L, H, hL, hH, hLH, rfl, hb2⟩
            refine hK.out _ _ (hHeld.below hb2) (fun hHeld => ?_)
            clear hK K
            refine norm_ (a' := ?_) ?_ ?_
            rotate_left
            · first | rfl | (simp only [Act.put, List.setIfInBounds_toArray, List.set_cons_zero, List.set_cons_succ, i64_w, i32_w]; rfl)
            refine gen_at (fun W => (NumS w w1.heap.size F) W) hHeld ?_
            clear hHeld
            rintro wt2 hHeld
            refine pure_ (i := 3) (N := some 38) (v := ?_) (a' := ?_) #[true, true, true, true, false, false, false, false, false, false] rfl rfl (by kernel_rfl) (fun _ _ _ h => h) (Or.inl ⟨by rfl, ?_⟩) ?_ ?_
            rotate_left
            · intro w2
              (go_simp; (try go_bits); with_reducible rfl)
            rotate_left
            · simp only [Act.put, List.setIfInBounds_toArray, List.set_cons_zero, List.set_cons_succ, i64_w, i32_w]
              rfl
            refine pure_ (i := 4) (N := some 42) (v := ?_) (a' := ?_) #[true, true, true, true, true, false, false, false, false, false] rfl rfl (by kernel_rfl) (fun _ _ _ h => h) (Or.inl ⟨by rfl, ?_⟩) ?_ ?_
            rotate_left
            · intro w2
              (go_simp; (try go_bits); with_reducible rfl)
            rotate_left
            · simp only [Act.put, List.setIfInBounds_toArray, List.set_cons_zero, List.set_cons_succ, i64_w, i32_w]
              rfl
            refine pure_ (i := 5) (N := some 43) (v := ?_) (a' := ?_) #[true, true, true, true, true, true, false, false, false, false] rfl rfl (by kernel_rfl) (fun _ _ _ h => h) (Or.inl ⟨by rfl, ?_⟩) ?_ ?_
            rotate_left
            · intro w2
              (go_simp; (try go_bits); with_reducible rfl)
            rotate_left
            · simp only [Act.put, List.setIfInBounds_toArray, List.set_cons_zero, List.set_cons_succ, i64_w, i32_w]
              rfl
            refine two_ (i := 6) (j := 7) (Ni := some 8) (Nj := some 9) #[true, true, true, true, true, true, true, false, false, false] #[true, true, true, true, true, true, false, true, false, false] rfl rfl rfl rfl (by kernel_rfl) (by decide) (by decide) (fun K hK => ?_) (fun K hK => ?_)
            · skip
              go_simp
              try go_bits
              have l6 := hHeld.2.1.lt
              refine hK.out _ _ (hHeld.alloc _) (fun hHeld => ?_)
              clear hK K
              refine norm_ (a' := ?_) ?_ ?_
              rotate_left
              · first | rfl | (simp only [Act.put, List.setIfInBounds_toArray, List.set_cons_zero, List.set_cons_succ, i64_w, i32_w]; rfl)
              refine gen_at (fun W => (NumS w w1.heap.size F) W ∧ Blk W wt2.heap.size (arrF .u64 4 fun _ => 0) 31) ⟨hHeld, Blk.new _ _ _⟩ ?_
              clear hHeld
              rintro wt3 ⟨hHeld, b6⟩
              refine one_ (i := 7) (N := some 9) #[true, true, true, true, true, true, true, true, false, false] rfl rfl (by kernel_rfl) (by decide) (fun K hK => ?_)
              go_simp
              try go_bits
              have l7 := hHeld.2.1.lt
              have dd := b6.lt
              refine hK.out _ _ (hHeld.alloc _) (fun hHeld => ?_)
              clear hK K
              refine norm_ (a' := ?_) ?_ ?_
              rotate_left
              · first | rfl | (simp only [Act.put, List.setIfInBounds_toArray, List.set_cons_zero, List.set_cons_succ, i64_w, i32_w]; rfl)
              refine gen_at (fun W => (NumS w w1.heap.size F) W ∧ Blk W wt2.heap.size (arrF .u64 4 fun _ => 0) 31 ∧ Blk W wt3.heap.size (arrF .u64 4 fun _ => 0) 31) ⟨hHeld, b6.alloc _, Blk.new _ _ _⟩ ?_
              clear hHeld b6
              rintro wt4 ⟨hHeld, b6, b7⟩
              exact hcont (L, H, wt2.heap.size, wt3.heap.size) _ ⟨hHeld, hL, hH, hLH, b6, b7, l6, l7, (Nat.ne_of_lt dd)⟩
            · skip
              go_simp
              try go_bits
              have l7 := hHeld.2.1.lt
              refine hK.out _ _ (hHeld.alloc _) (fun hHeld => ?_)
              clear hK K
              refine norm_ (a' := ?_) ?_ ?_
              rotate_left
              · first | rfl | (simp only [Act.put, List.setIfInBounds_toArray, List.set_cons_zero, List.set_cons_succ, i64_w, i32_w]; rfl)
              refine gen_at (fun W => (NumS w w1.heap.size F) W ∧ Blk W wt2.heap.size (arrF .u64 4 fun _ => 0) 31) ⟨hHeld, Blk.new _ _ _⟩ ?_
              clear hHeld
              rintro wt5 ⟨hHeld, b7⟩
              refine one_ (i := 6) (N := some 8) #[true, true, true, true, true, true, true, true, false, false] rfl rfl (by kernel_rfl) (by decide) (fun K hK => ?_)
              go_simp
              try go_bits
              have l6 := hHeld.2.1.lt
              have dd := b7.lt
              refine hK.out _ _ (hHeld.alloc _) (fun hHeld => ?_)
              clear hK K
              refine norm_ (a' := ?_) ?_ ?_
              rotate_left
              · first | rfl | (simp only [Act.put, List.setIfInBounds_toArray, List.set_cons_zero, List.set_cons_succ, i64_w, i32_w]; rfl)
              refine gen_at (fun W => (NumS w w1.heap.size F) W ∧ Blk W wt2.heap.size (arrF .u64 4 fun _ => 0) 31 ∧ Blk W wt5.heap.size (arrF .u64 4 fun _ => 0) 31) ⟨hHeld, b7.alloc _, Blk.new _ _ _⟩ ?_
              clear hHeld b7
              rintro wt6 ⟨hHeld, b7, b6⟩
              exact hcont (L, H, wt5.heap.size, wt2.heap.size) _ ⟨hHeld, hL, hH, hLH, b6, b7, l6, l7, (Nat.ne_of_gt dd)⟩
          · skip
            go_simp
            try go_bits
            have l6 := hHeld.2.1.lt
            refine hK.out _ _ (hHeld.alloc _) (fun hHeld => ?_)
            clear hK K
            refine norm_ (a' := ?_) ?_ ?_
            rotate_left
            · first | rfl | (simp only [Act.put, List.setIfInBounds_toArray, List.set_cons_zero, List.set_cons_succ, i64_w, i32_w]; rfl)
            refine gen_at (fun W => (NumS w w1.heap.size F) W ∧ Blk W wt1.heap.size (arrF .u64 4 fun _ => 0) 31) ⟨hHeld, Blk.new _ _ _⟩ ?_
            clear hHeld
            rintro wt7 ⟨hHeld, b6⟩
            refine two_ (i := 2) (j := 7) (Ni := some 41) (Nj := some 9) #[true, true, true, false, false, false, true, false, false, false] #[true, true, false, false, false, false, true, true, false, false] rfl rfl rfl rfl (by kernel_rfl) (by decide) (by decide) (fun K hK => ?_) (fun K hK => ?_)
            · skip
              go_simp
              try go_bits
              refine (HP.out _).mono ?_
              rintro e w2 ⟨L, H, hL, hH, hLH, rfl, hb2⟩
              refine hK.out _ _ (hHeld.below hb2) (fun hHeld => ?_)
              clear hK K
              refine norm_ (a' := ?_) ?_ ?_
              rotate_left
              · first | rfl | (simp only [Act.put, List.setIfInBounds_toArray, List.set_cons_zero, List.set_cons_succ, i64_w, i32_w]; rfl)
              refine gen_at (fun W => (NumS w w1.heap.size F) W ∧ Blk W wt1.heap.size (arrF .u64 4 fun _ => 0) 31) ⟨hHeld, b6.below hb2⟩ ?_
              clear hHeld b6
              rintro wt8 ⟨hHeld, b6⟩
              refine pure_ (i := 3) (N := some 38) (v := ?_) (a' := ?_) #[true, true, true, true, false, false, true, false, false, false] rfl rfl (by kernel_rfl) (fun _ _ _ h => h) (Or.inl ⟨by rfl, ?_⟩) ?_ ?_
              rotate_left
              · intro w2
                (go_simp; (try go_bits); with_reducible rfl)
              rotate_left
              · simp only [Act.put, List.setIfInBounds_toArray, List.set_cons_zero, List.set_cons_succ, i64_w, i32_w]
                rfl
              refine pure_ (i := 4) (N := some 42) (v := ?_) (a' := ?_) #[true, true, true, true, true, false, true, false, false, false] rfl rfl (by kernel_rfl) (fun _ _ _ h => h) (Or.inl ⟨by rfl, ?_⟩) ?_ ?_
              rotate_left
              · intro w2
                (go_simp; (try go_bits); with_reducible rfl)
              rotate_left
              · simp only [Act.put, List.setIfInBounds_toArray, List.set_cons_zero, List.set_cons_succ, i64_w, i32_w]
                rfl
              refine pure_ (i := 5) (N := some 43) (v := ?_) (a' := ?_) #[true, true, true, true, true, true, true, false, false, false] rfl rfl (by kernel_rfl) (fun _ _ _ h => h) (Or.inl ⟨by rfl, ?_⟩) ?_ ?_
              rotate_left
              · intro w2
                (go_simp; (try go_bits); with_reducible rfl)
              rotate_left
              · simp only [Act.put, List.setIfInBounds_toArray, List.set_cons_zero, List.set_cons_succ, i64_w, i32_w]
                rfl
              refine one_ (i := 7) (N := some 9) #[true, true, true, true, true, true, true, true, false, false] rfl rfl (by kernel_rfl) (by decide) (fun K hK => ?_)
              go_simp
              try go_bits
              have l7 := hHeld.2.1.lt
              have dd := b6.lt
              refine hK.out _ _ (hHeld.alloc _) (fun hHeld => ?_)
              clear hK K
              refine norm_ (a' := ?_) ?_ ?_
              rotate_left
              · first | rfl | (simp only [Act.put, List.setIfInBounds_toArray, List.set_cons_zero, List.set_cons_succ, i64_w, i32_w]; rfl)
              refine gen_at (fun W => (NumS w w1.heap.size F) W ∧ Blk W wt1.heap.size (arrF .u64 4 fun _ => 0) 31 ∧ Blk W wt8.heap.size (arrF .u64 4 fun _ => 0) 31) ⟨hHeld, b6.alloc _, Blk.new _ _ _⟩ ?_
              clear hHeld b6
              rintro wt9 ⟨hHeld, b6, b7⟩
              exact hcont (L, H, wt1.heap.size, wt8.heap.size) _ ⟨hHeld, hL, hH, hLH, b6, b7, l6, l7, (Nat.ne_of_lt dd)⟩
            · skip
              go_simp
              try go_bits
              have l7 := hHeld.2.1.lt
              have dd := b6.lt
              refine hK.out _ _ (hHeld.alloc _) (fun hHeld => ?_)
              clear hK K
              refine norm_ (a' := ?_) ?_ ?_
              rotate_left
              · first | rfl | (simp only [Act.put, List.setIfInBounds_toArray, List.set_cons_zero, List.set_cons_succ, i64_w, i32_w]; rfl)
              refine gen_at (fun W => (NumS w w1.heap.size F) W ∧ Blk W wt1.heap.size (arrF .u64 4 fun _ => 0) 31 ∧ Blk W wt7.heap.size (arrF .u64 4 fun _ => 0) 31) ⟨hHeld, b6.alloc _, Blk.new _ _ _⟩ ?_
              clear hHeld b6
              rintro wt10 ⟨hHeld, b6, b7⟩
              refine one_ (i := 2) (N := some 41) #[true, true, true, false, false, false, true, true, false, false] rfl rfl (by kernel_rfl) (by decide) (fun K hK => ?_)
              go_simp
              try go_bits
              refine (HP.out _).mono ?_
              rintro e w2 ⟨L, H, hL, hH, hLH, rfl, hb2⟩
              refine hK.out _ _ (hHeld.below hb2) (fun hHeld => ?_)
              clear hK K
              refine norm_ (a' := ?_) ?_ ?_
              rotate_left
              · first | rfl | (simp only [Act.put, List.setIfInBounds_toArray, List.set_cons_zero, List.set_cons_succ, i64_w, i32_w]; rfl)
              refine gen_at (fun W => (NumS w w1.heap.size F) W ∧ Blk W wt1.heap.size (arrF .u64 4 fun _ => 0) 31 ∧ Blk W wt7.heap.size (arrF .u64 4 fun _ => 0) 31) ⟨hHeld, b6.below hb2, b7.below hb2⟩ ?_
              clear hHeld b6 b7
              rintro wt11 ⟨hHeld, b6, b7⟩
              refine pure_ (i := 3) (N := some 38) (v := ?_) (a' := ?_) #[true, true, true, true, false, false, true, true, false, false] rfl rfl (by kernel_rfl) (fun _ _ _ h => h) (Or.inl ⟨by rfl, ?_⟩) ?_ ?_
              rotate_left
              · intro w2
                (go_simp; (try go_bits); with_reducible rfl)
              rotate_left
              · simp only [Act.put, List.setIfInBounds_toArray, List.set_cons_zero, List.set_cons_succ, i64_w, i32_w]
                rfl
              refine pure_ (i := 4) (N := some 42) (v := ?_) (a' := ?_) #[true, true, true, true, true, false, true, true, false, false] rfl rfl (by kernel_rfl) (fun _ _ _ h => h) (Or.inl ⟨by rfl, ?_⟩) ?_ ?_
              rotate_left
              · intro w2
                (go_simp; (try go_bits); with_reducible rfl)
              rotate_left
              · simp only [Act.put, List.setIfInBounds_toArray, List.set_cons_zero, List.set_cons_succ, i64_w, i32_w]
                rfl
              refine pure_ (i := 5) (N := some 43) (v := ?_) (a' := ?_) #[true, true, true, true, true, true, true, true, false, false] rfl rfl (by kernel_rfl) (fun _ _ _ h => h) (Or.inl ⟨by rfl, ?_⟩) ?_ ?_
              rotate_left
              · intro w2
                (go_simp; (try go_bits); with_reducible rfl)
              rotate_left
              · simp only [Act.put, List.setIfInBounds_toArray, List.set_cons_zero, List.set_cons_succ, i64_w, i32_w]
                rfl
              exact hcont (L, H, wt1.heap.size, wt7.heap.size) _ ⟨hHeld, hL, hH, hLH, b6, b7, l6, l7, (Nat.ne_of_lt dd)⟩
          · skip
            go_simp
            try go_bits
            have l7 := hHeld.2.1.lt
            refine hK.out _ _ (hHeld.alloc _) (fun hHeld => ?_)
            clear hK K
            refine norm_ (a' := ?_) ?_ ?_
            rotate_left
            · first | rfl | (simp only [Act.put, List.setIfInBounds_toArray, List.set_cons_zero, List.set_cons_succ, i64_w, i32_w]; rfl)
            refine gen_at (fun W => (NumS w w1.heap.size F) W ∧ Blk W wt1.heap.size (arrF .u64 4 fun _ => 0) 31) ⟨hHeld, Blk.new _ _ _⟩ ?_
            clear hHeld
            rintro wt12 ⟨hHeld, b7⟩
            refine two_ (i := 2) (j := 6) (Ni := some 41) (Nj := some 8) #[true, true, true, false, false, false, false, true, false, false] #[true, true, false, false, false, false, true, true, false, false] rfl rfl rfl rfl (by kernel_rfl) (by decide) (by decide) (fun K hK => ?_) (fun K hK => ?_)
            · skip
              go_simp
              try go_bits
              refine (HP.out _).mono ?_
              rintro e w2 ⟨L, H, hL, hH, hLH, rfl, hb2⟩
              refine hK.out _ _ (hHeld.below hb2) (fun hHeld => ?_)
              clear hK K
              refine norm_ (a' := ?_) ?_ ?_
              rotate_left
              · first | rfl | (simp only [Act.put, List.setIfInBounds_toArray, List.set_cons_zero, List.set_cons_succ, i64_w, i32_w]; rfl)
              refine gen_at (fun W => (NumS w w1.heap.size F) W ∧ Blk W wt1.heap.size (arrF .u64 4 fun _ => 0) 31) ⟨hHeld, b7.below hb2⟩ ?_
              clear hHeld b7
              rintro wt13 ⟨hHeld, b7⟩
              refine pure_ (i := 3) (N := some 38) (v := ?_) (a' := ?_) #[true, true, true, true, false, false, false, true, false, false] rfl rfl (by kernel_rfl) (fun _ _ _ h => h) (Or.inl ⟨by rfl, ?_⟩) ?_ ?_
              rotate_left
              · intro w2
                (go_simp; (try go_bits); with_reducible rfl)
              rotate_left
              · simp only [Act.put, List.setIfInBounds_toArray, List.set_cons_zero, List.set_cons_succ, i64_w, i32_w]
                rfl
              refine pure_ (i := 4) (N := some 42) (v := ?_) (a' := ?_) #[true, true, true, true, true, false, false, true, false, false] rfl rfl (by kernel_rfl) (fun _ _ _ h => h) (Or.inl ⟨by rfl, ?_⟩) ?_ ?_
              rotate_left
              · intro w2
                (go_simp; (try go_bits); with_reducible rfl)
              rotate_left
              · simp only [Act.put, List.setIfInBounds_toArray, List.set_cons_zero, List.set_cons_succ, i64_w, i32_w]
                rfl
              refine pure_ (i := 5) (N := some 43) (v := ?_) (a' := ?_) #[true, true, true, true, true, true, false, true, false, false] rfl rfl (by kernel_rfl) (fun _ _ _ h => h) (Or.inl ⟨by rfl, ?_⟩) ?_ ?_
              rotate_left
              · intro w2
                (go_simp; (try go_bits); with_reducible rfl)
              rotate_left
              · simp only [Act.put, List.setIfInBounds_toArray, List.set_cons_zero, List.set_cons_succ, i64_w, i32_w]
                rfl
              refine one_ (i := 6) (N := some 8) #[true, true, true, true, true, true, true, true, false, false] rfl rfl (by kernel_rfl) (by decide) (fun K hK => ?_)
              go_simp
              try go_bits
              have l6 := hHeld.2.1.lt
              have dd := b7.lt
              refine hK.out _ _ (hHeld.alloc _) (fun hHeld => ?_)
              clear hK K
              refine norm_ (a' := ?_) ?_ ?_
              rotate_left
              · first | rfl | (simp only [Act.put, List.setIfInBounds_toArray, List.set_cons_zero, List.set_cons_succ, i64_w, i32_w]; rfl)
              refine gen_at (fun W => (NumS w w1.heap.size F) W ∧ Blk W wt1.heap.size (arrF .u64 4 fun _ => 0) 31 ∧ Blk W wt13.heap.size (arrF .u64 4 fun _ => 0) 31) ⟨hHeld, b7.alloc _, Blk.new _ _ _⟩ ?_
              clear hHeld b7
              rintro wt14 ⟨hHeld, b7, b6⟩
              exact hcont (L, H, wt13.heap.size, wt1.heap.size) _ ⟨hHeld, hL, hH, hLH, b6, b7, l6, l7, (Nat.ne_of_gt dd)⟩
            · skip
              go_simp
              try go_bits
              have l6 := hHeld.2.1.lt
              have dd := b7.lt
              refine hK.out _ _ (hHeld.alloc _) (fun hHeld => ?_)
              clear hK K
              refine norm_ (a' := ?_) ?_ ?_
              rotate_left
              · first | rfl | (simp only [Act.put, List.setIfInBounds_toArray, List.set_cons_zero, List.set_cons_succ, i64_w, i32_w]; rfl)
              refine gen_at (fun W => (NumS w w1.heap.size F) W ∧ Blk W wt1.heap.size (arrF .u64 4 fun _ => 0) 31 ∧ Blk W wt12.heap.size (arrF .u64 4 fun _ => 0) 31) ⟨hHeld, b7.alloc _, Blk.new _ _ _⟩ ?_
              clear hHeld b7
              rintro wt15 ⟨hHeld, b7, b6⟩
              refine one_ (i := 2) (N := some 41) #[true, true, true, false, false, false, true, true, false, false] rfl rfl (by kernel_rfl) (by decide) (fun K hK => ?_)
              go_simp
              try go_bits
              refine (HP.out _).mono ?_
              rintro e w2 ⟨L, H, hL, hH, hLH, rfl, hb2⟩
              refine hK.out _ _ (hHeld.below hb2) (fun hHeld => ?_)
              clear hK K
              refine norm_ (a' := ?_) ?_ ?_
              rotate_left
              · first | rfl | (simp only [Act.put, List.setIfInBounds_toArray, List.set_cons_zero, List.set_cons_succ, i64_w, i32_w]; rfl)
              refine gen_at (fun W => (NumS w w1.heap.size F) W ∧ Blk W wt12.heap.size (arrF .u64 4 fun _ => 0) 31 ∧ Blk W wt1.heap.size (arrF .u64 4 fun _ => 0) 31) ⟨hHeld, b6.below hb2, b7.below hb2⟩ ?_
              clear hHeld b6 b7
              rintro wt16 ⟨hHeld, b6, b7⟩
              refine pure_ (i := 3) (N := some 38) (v := ?_) (a' := ?_) #[true, true, true, true, false, false, true, true, false, false] rfl rfl (by kernel_rfl) (fun _ _ _ h => h) (Or.inl ⟨by rfl, ?_⟩) ?_ ?_
              rotate_left
              · intro w2
                (go_simp; (try go_bits); with_reducible rfl)
              rotate_left
              · simp only [Act.put, List.setIfInBounds_toArray, List.set_cons_zero, List.set_cons_succ, i64_w, i32_w]
                rfl
              refine pure_ (i := 4) (N := some 42) (v := ?_) (a' := ?_) #[true, true, true, true, true, false, true, true, false, false] rfl rfl (by kernel_rfl) (fun _ _ _ h => h) (Or.inl ⟨by rfl, ?_⟩) ?_ ?_
              rotate_left
              · intro w2
                (go_simp; (try go_bits); with_reducible rfl)
              rotate_left
              · simp only [Act.put, List.setIfInBounds_toArray, List.set_cons_zero, List.set_cons_succ, i64_w, i32_w]
                rfl
              refine pure_ (i := 5) (N := some 43) (v := ?_) (a' := ?_) #[true, true, true, true, true, true, true, true, false, false] rfl rfl (by kernel_rfl) (fun _ _ _ h => h) (Or.inl ⟨by rfl, ?_⟩) ?_ ?_
              rotate_left
              · intro w2
                (go_simp; (try go_bits); with_reducible rfl)
              rotate_left
              · simp only [Act.put, List.setIfInBounds_toArray, List.set_cons_zero, List.set_cons_succ, i64_w, i32_w]
                rfl
              exact hcont (L, H, wt12.heap.size, wt1.heap.size) _ ⟨hHeld, hL, hH, hLH, b6, b7, l6, l7, (Nat.ne_of_gt dd)⟩
        · skip
          go_simp
          try go_bits
          have l6 := hHeld.2.1.lt
          refine hK.out _ _ (hHeld.alloc _) (fun hHeld => ?_)
          clear hK K
          refine norm_ (a' := ?_) ?_ ?_
          rotate_left
          · first | rfl | (simp only [Act.put, List.setIfInBounds_toArray, List.set_cons_zero, List.set_cons_succ, i64_w, i32_w]; rfl)
          refine gen_at (fun W => (NumS w w1.heap.size F) W ∧ Blk W wd.heap.size (arrF .u64 4 fun _ => 0) 31) ⟨hHeld, Blk.new _ _ _⟩ ?_
          clear hHeld
          rintro wt17 ⟨hHeld, b6⟩
          refine two_ (i := 1) (j := 7) (Ni := some 40) (Nj := some 9) #[true, true, false, false, false, false, true, false, false, false] #[true, false, false, false, false, false, true, true, false, false] rfl rfl rfl rfl (by kernel_rfl) (by decide) (by decide) (fun K hK => ?_) (fun K hK => ?_)
          · skip
            go_simp
            try go_bits
            refine (HOF.out _).mono ?_
            rintro e w2 ⟨rfl, hb1⟩
            refine hK.out _ _ (hHeld.below hb1) (fun hHeld => ?_)
            clear hK K
            refine norm_ (a' := ?_) ?_ ?_
            rotate_left
            · first | rfl | (simp only [Act.put, List.setIfInBounds_toArray, List.set_cons_zero, List.set_cons_succ, i64_w, i32_w]; rfl)
            refine gen_at (fun W => (NumS w w1.heap.size F) W ∧ Blk W wd.heap.size (arrF .u64 4 fun _ => 0) 31) ⟨hHeld, b6.below hb1⟩ ?_
            clear hHeld b6
            rintro wt18 ⟨hHeld, b6⟩
            refine two_ (i := 2) (j := 7) (Ni := some 41) (Nj := some 9) #[true, true, true, false, false, false, true, false, false, false] #[true, true, false, false, false, false, true, true, false, false] rfl rfl rfl rfl (by kernel_rfl) (by decide) (by decide) (fun K hK => ?_) (fun K hK => ?_)
            · skip
              go_simp
              try go_bits
              refine (HP.out _).mono ?_
              rintro e w2 ⟨L, H, hL, hH, hLH, rfl, hb2⟩
              refine hK.out _ _ (hHeld.below hb2) (fun hHeld => ?_)
              clear hK K
              refine norm_ (a' := ?_) ?_ ?_
              rotate_left
              · first | rfl | (simp only [Act.put, List.setIfInBounds_toArray, List.set_cons_zero, List.set_cons_succ, i64_w, i32_w]; rfl)
              refine gen_at (fun W => (NumS w w1.heap.size F) W ∧ Blk W wd.heap.size (arrF .u64 4 fun _ => 0) 31) ⟨hHeld, b6.below hb2⟩ ?_
              clear hHeld b6
              rintro wt19 ⟨hHeld, b6⟩
              refine pure_ (i := 3) (N := some 38) (v := ?_) (a' := ?_) #[true, true, true, true, false, false, true, false, false, false] rfl rfl (by kernel_rfl) (fun _ _ _ h => h) (Or.inl ⟨by rfl, ?_⟩) ?_ ?_
              rotate_left
              · intro w2
                (go_simp; (try go_bits); with_reducible rfl)
              rotate_left
              · simp only [Act.put, List.setIfInBounds_toArray, List.set_cons_zero, List.set_cons_succ, i64_w, i32_w]
                rfl
              refine pure_ (i := 4) (N := some 42) (v := ?_) (a' := ?_) #[true, true, true, true, true, false, true, false, false, false] rfl rfl (by kernel_rfl) (fun _ _ _ h => h) (Or.inl ⟨by rfl, ?_⟩) ?_ ?_
              rotate_left
              · intro w2
                (go_simp; (try go_bits); with_reducible rfl)
              rotate_left
              · simp only [Act.put, List.setIfInBounds_toArray, List.set_cons_zero, List.set_cons_succ, i64_w, i32_w]
                rfl
              refine pure_ (i := 5) (N := some 43) (v := ?_) (a' := ?_) #[true, true, true, true, true, true, true, false, false, false] rfl rfl (by kernel_rfl) (fun _ _ _ h => h) (Or.inl ⟨by rfl, ?_⟩) ?_ ?_
              rotate_left
              · intro w2
                (go_simp; (try go_bits); with_reducible rfl)
              rotate_left
              · simp only [Act.put, List.setIfInBounds_toArray, List.set_cons_zero, List.set_cons_succ, i64_w, i32_w]
                rfl
              refine one_ (i := 7) (N := some 9) #[true, true, true, true, true, true, true, true, false, false] rfl rfl (by kernel_rfl) (by decide) (fun K hK => ?_)
              go_simp
              try go_bits
              have l7 := hHeld.2.1.lt
              have dd := b6.lt
              refine hK.out _ _ (hHeld.alloc _) (fun hHeld => ?_)
              clear hK K
              refine norm_ (a' := ?_) ?_ ?_
              rotate_left
              · first | rfl | (simp only [Act.put, List.setIfInBounds_toArray, List.set_cons_zero, List.set_cons_succ, i64_w, i32_w]; rfl)
              refine gen_at (fun W => (NumS w w1.heap.size F) W ∧ Blk W wd.heap.size (arrF .u64 4 fun _ => 0) 31 ∧ Blk W wt19.heap.size (arrF .u64 4 fun _ => 0) 31) ⟨hHeld, b6.alloc _, Blk.new _ _ _⟩ ?_
              clear hHeld b6
              rintro wt20 ⟨hHeld, b6, b7⟩
              exact hcont (L, H, wd.heap.size, wt19.heap.size) _ ⟨hHeld, hL, hH, hLH, b6, b7, l6, l7, (Nat.ne_of_lt dd)⟩
            · skip
              go_simp
              try go_bits
              have l7 := hHeld.2.1.lt
              have dd := b6.lt
              refine hK.out _ _ (hHeld.alloc _) (fun hHeld => ?_)
              clear hK K
              refine norm_ (a' := ?_) ?_ ?_
              rotate_left
              · first | rfl | (simp only [Act.put, List.setIfInBounds_toArray, List.set_cons_zero, List.set_cons_succ, i64_w, i32_w]; rfl)
              refine gen_at (fun W => (NumS w w1.heap.size F) W ∧ Blk W wd.heap.size (arrF .u64 4 fun _ => 0) 31 ∧ Blk W wt18.heap.size (arrF .u64 4 fun _ => 0) 31) ⟨hHeld, b6.alloc _, Blk.new _ _ _⟩ ?_
              clear hHeld b6
              rintro wt21 ⟨hHeld, b6, b7⟩
              refine one_ (i := 2) (N := some 41) #[true, true, true, false, false, false, true, true, false, false] rfl rfl (by kernel_rfl) (by decide) (fun K hK => ?_)
              go_simp
              try go_bits
              refine (HP.out _).mono ?_
              rintro e w2 ⟨L, H, hL, hH, hLH, rfl, hb2⟩
              refine hK.out _ _ (hHeld.below hb2) (fun hHeld => ?_)
              clear hK K
              refine norm_ (a' := ?_) ?_ ?_
              rotate_left
              · first | rfl | (simp only [Act.put, List.setIfInBounds_toArray, List.set_cons_zero, List.set_cons_succ, i64_w, i32_w]; rfl)
              refine gen_at (fun W => (NumS w w1.heap.size F) W ∧ Blk W wd.heap.size (arrF .u64 4 fun _ => 0) 31 ∧ Blk W wt18.heap.size (arrF .u64 4 fun _ => 0) 31) ⟨hHeld, b6.below hb2, b7.below hb2⟩ ?_
              clear hHeld b6 b7
              rintro wt22 ⟨hHeld, b6, b7⟩
              refine pure_ (i := 3) (N := some 38) (v := ?_) (a' := ?_) #[true, true, true, true, false, false, true, true, false, false] rfl rfl (by kernel_rfl) (fun _ _ _ h => h) (Or.inl ⟨by rfl, ?_⟩) ?_ ?_
              rotate_left
              · intro w2
                (go_simp; (try go_bits); with_reducible rfl)
              rotate_left
              · simp only [Act.put, List.setIfInBounds_toArray, List.set_cons_zero, List.set_cons_succ, i64_w, i32_w]
                rfl
              refine pure_ (i := 4) (N := some 42) (v := ?_) (a' := ?_) #[true, true, true, true, true, false, true, true, false, false] rfl rfl (by kernel_rfl) (fun _ _ _ h => h) (Or.inl ⟨by rfl, ?_⟩) ?_ ?_
              rotate_left
              · intro w2
                (go_simp; (try go_bits); with_reducible rfl)
              rotate_left
              · simp only [Act.put, List.setIfInBounds_toArray, List.set_cons_zero, List.set_cons_succ, i64_w, i32_w]
                rfl
              refine pure_ (i := 5) (N := some 43) (v := ?_) (a' := ?_) #[true, true, true, true, true, true, true, true, false, false] rfl rfl (by kernel_rfl) (fun _ _ _ h => h) (Or.inl ⟨by rfl, ?_⟩) ?_ ?_
              rotate_left
              · intro w2
                (go_simp; (try go_bits); with_reducible rfl)
              rotate_left
              · simp only [Act.put, List.setIfInBounds_toArray, List.set_cons_zero, List.set_cons_succ, i64_w, i32_w]
                rfl
              exact hcont (L, H, wd.heap.size, wt18.heap.size) _ ⟨hHeld, hL, hH, hLH, b6, b7, l6, l7, (Nat.ne_of_lt dd)⟩
          · skip
            go_simp
            try go_bits
            have l7 := hHeld.2.1.lt
            have dd := b6.lt
            refine hK.out _ _ (hHeld.alloc _) (fun hHeld => ?_)
            clear hK K
            refine norm_ (a' := ?_) ?_ ?_
            rotate_left
            · first | rfl | (simp only [Act.put, List.setIfInBounds_toArray, List.set_cons_zero, List.set_cons_succ, i64_w, i32_w]; rfl)
            refine gen_at (fun W => (NumS w w1.heap.size F) W ∧ Blk W wd.heap.size (arrF .u64 4 fun _ => 0) 31 ∧ Blk W wt17.heap.size (arrF .u64 4 fun _ => 0) 31) ⟨hHeld, b6.alloc _, Blk.new _ _ _⟩ ?_
            clear hHeld b6
            rintro wt23 ⟨hHeld, b6, b7⟩
            refine one_ (i := 1) (N := some 40) #[true, true, false, false, false, false, true, true, false, false] rfl rfl (by kernel_rfl) (by decide) (fun K hK => ?_)
            go_simp
            try go_bits
            refine (HOF.out _).mono ?_
            rintro e w2 ⟨rfl, hb1⟩
            refine hK.out _ _ (hHeld.below hb1) (fun hHeld => ?_)
            clear hK K
            refine norm_ (a' := ?_) ?_ ?_
            rotate_left
            · first | rfl | (simp only [Act.put, List.setIfInBounds_toArray, List.set_cons_zero, List.set_cons_succ, i64_w, i32_w]; rfl)
            refine gen_at (fun W => (NumS w w1.heap.size F) W ∧ Blk W wd.heap.size (arrF .u64 4 fun _ => 0) 31 ∧ Blk W wt17.heap.size (arrF .u64 4 fun _ => 0) 31) ⟨hHeld, b6.below hb1, b7.below hb1⟩ ?_
            clear hHeld b6 b7
            rintro wt24 ⟨hHeld, b6, b7⟩
            refine one_ (i := 2) (N := some 41) #[true, true, true, false, false, false, true, true, false, false] rfl rfl (by kernel_rfl) (by decide) (fun K hK => ?_)
            go_simp
            try go_bits
            refine (HP.out _).mono ?_
            rintro e w2 ⟨L, H, hL, hH, hLH, rfl, hb2⟩
            refine hK.out _ _ (hHeld.below hb2) (fun hHeld => ?_)
            clear hK K
            refine norm_ (a' := ?_) ?_ ?_
            rotate_left
            · first | rfl | (simp only [Act.put, List.setIfInBounds_toArray, List.set_cons_zero, List.set_cons_succ, i64_w, i32_w]; rfl)
            refine gen_at (fun W => (NumS w w1.heap.size F) W ∧ Blk W wd.heap.size (arrF .u64 4 fun _ => 0) 31 ∧ Blk W wt17.heap.size (arrF .u64 4 fun _ => 0) 31) ⟨hHeld, b6.below hb2, b7.below hb2⟩ ?_
            clear hHeld b6 b7
            rintro wt25 ⟨hHeld, b6, b7⟩
            refine pure_ (i := 3) (N := some 38) (v := ?_) (a' := ?_) #[true, true, true, true, false, false, true, true, false, false] rfl rfl (by kernel_rfl) (fun _ _ _ h => h) (Or.inl ⟨by rfl, ?_⟩) ?_ ?_
            rotate_left
            · intro w2
              (go_simp; (try go_bits); with_reducible rfl)
            rotate_left
            · simp only [Act.put, List.setIfInBounds_toArray, List.set_cons_zero, List.set_cons_succ, i64_w, i32_w]
              rfl
            refine pure_ (i := 4) (N := some 42) (v := ?_) (a' := ?_) #[true, true, true, true, true, false, true, true, false, false] rfl rfl (by kernel_rfl) (fun _ _ _ h => h) (Or.inl ⟨by rfl, ?_⟩) ?_ ?_
            rotate_left
            · intro w2
              (go_simp; (try go_bits); with_reducible rfl)
            rotate_left
            · simp only [Act.put, List.setIfInBounds_toArray, List.set_cons_zero, List.set_cons_succ, i64_w, i32_w]
              rfl
            refine pure_ (i := 5) (N := some 43) (v := ?_) (a' := ?_) #[true, true, true, true, true, true, true, true, false, false] rfl rfl (by kernel_rfl) (fun _ _ _ h => h) (Or.inl ⟨by rfl, ?_⟩) ?_ ?_
            rotate_left
            · intro w2
              (go_simp; (try go_bits); with_reducible rfl)
            rotate_left
            · simp only [Act.put, List.setIfInBounds_toArray, List.set_cons_zero, List.set_cons_succ, i64_w, i32_w]
              rfl
            exact hcont (L, H, wd.heap.size, wt17.heap.size) _ ⟨hHeld, hL, hH, hLH, b6, b7, l6, l7, (Nat.ne_of_lt dd)⟩
        · skip
          go_simp
          try go_bits
          have l7 := hHeld.2.1.lt
          refine hK.out _ _ (hHeld.alloc _) (fun hHeld => ?_)
          clear hK K
          refine norm_ (a' := ?_) ?_ ?_
          rotate_left
          · first | rfl | (simp only [Act.put, List.setIfInBounds_toArray, List.set_cons_zero, List.set_cons_succ, i64_w, i32_w]; rfl)
          refine gen_at (fun W => (NumS w w1.heap.size F) W ∧ Blk W wd.heap.size (arrF .u64 4 fun _ => 0) 31) ⟨hHeld, Blk.new _ _ _⟩ ?_
          clear hHeld
          rintro wt26 ⟨hHeld, b7⟩
          refine two_ (i := 1) (j := 6) (Ni := some 40) (Nj := some 8) #[true, true, false, false, false, false, false, true, false, false] #[true, false, false, false, false, false, true, true, false, false] rfl rfl rfl rfl (by kernel_rfl) (by decide) (by decide) (fun K hK => ?_) (fun K hK => ?_)
          · skip
            go_simp
            try go_bits
            refine (HOF.out _).mono ?_
            rintro e w2 ⟨rfl, hb1⟩
            refine hK.out _ _ (hHeld.below hb1) (fun hHeld => ?_)
            clear hK K
            refine norm_ (a' := ?_) ?_ ?_
            rotate_left
            · first | rfl | (simp only [Act.put, List.setIfInBounds_toArray, List.set_cons_zero, List.set_cons_succ, i64_w, i32_w]; rfl)
            refine gen_at (fun W => (NumS w w1.heap.size F) W ∧ Blk W wd.heap.size (arrF .u64 4 fun _ => 0) 31) ⟨hHeld, b7.below hb1⟩ ?_
            clear hHeld b7
            rintro wt27 ⟨hHeld, b7⟩
            refine two_ (i := 2) (j := 6) (Ni := some 41) (Nj := some 8) #[true, true, true, false, false, false, false, true, false, false] #[true, true, false, false, false, false, true, true, false, false] rfl rfl rfl rfl (by kernel_rfl) (by decide) (by decide) (fun K hK => ?_) (fun K hK => ?_)
            · skip
              go_simp
              try go_bits
              refine (HP.out _).mono ?_
              rintro e w2 ⟨L, H, hL, hH, hLH, rfl, hb2⟩
              refine hK.out _ _ (hHeld.below hb2) (fun hHeld => ?_)
              clear hK K
              refine norm_ (a' := ?_) ?_ ?_
              rotate_left
              · first | rfl | (simp only [Act.put, List.setIfInBounds_toArray, List.set_cons_zero, List.set_cons_succ, i64_w, i32_w]; rfl)
              refine gen_at (fun W => (NumS w w1.heap.size F) W ∧ Blk W wd.heap.size (arrF .u64 4 fun _ => 0) 31) ⟨hHeld, b7.below hb2⟩ ?_
              clear hHeld b7
              rintro wt28 ⟨hHeld, b7⟩
              refine pure_ (i := 3) (N := some 38) (v := ?_) (a' := ?_) #[true, true, true, true, false, false, false, true, false, false] rfl rfl (by kernel_rfl) (fun _ _ _ h => h) (Or.inl ⟨by rfl, ?_⟩) ?_ ?_
              rotate_left
              · intro w2
                (go_simp; (try go_bits); with_reducible rfl)
              rotate_left
              · simp only [Act.put, List.setIfInBounds_toArray, List.set_cons_zero, List.set_cons_succ, i64_w, i32_w]
                rfl
              refine pure_ (i := 4) (N := some 42) (v := ?_) (a' := ?_) #[true, true, true, true, true, false, false, true, false, false] rfl rfl (by kernel_rfl) (fun _ _ _ h => h) (Or.inl ⟨by rfl, ?_⟩) ?_ ?_
              rotate_left
              · intro w2
                (go_simp; (try go_bits); with_reducible rfl)
              rotate_left
              · simp only [Act.put, List.setIfInBounds_toArray, List.set_cons_zero, List.set_cons_succ, i64_w, i32_w]
                rfl
              refine pure_ (i := 5) (N := some 43) (v := ?_) (a' := ?_) #[true, true, true, true, true, true, false, true, false, false] rfl rfl (by kernel_rfl) (fun _ _ _ h => h) (Or.inl ⟨by rfl, ?_⟩) ?_ ?_
              rotate_left
              · intro w2
                (go_simp; (try go_bits); with_reducible rfl)
              rotate_left
              · simp only [Act.put, List.setIfInBounds_toArray, List.set_cons_zero, List.set_cons_succ, i64_w, i32_w]
                rfl
              refine one_ (i := 6) (N := some 8) #[true, true, true, true, true, true, true, true, false, false] rfl rfl (by kernel_rfl) (by decide) (fun K hK => ?_)
              go_simp
              try go_bits
              have l6 := hHeld.2.1.lt
              have dd := b7.lt
              refine hK.out _ _ (hHeld.alloc _) (fun hHeld => ?_)
              clear hK K
              refine norm_ (a' := ?_) ?_ ?_
              rotate_left
              · first | rfl | (simp only [Act.put, List.setIfInBounds_toArray, List.set_cons_zero, List.set_cons_succ, i64_w, i32_w]; rfl)
              refine gen_at (fun W => (NumS w w1.heap.size F) W ∧ Blk W wd.heap.size (arrF .u64 4 fun _ => 0) 31 ∧ Blk W wt28.heap.size (arrF .u64 4 fun _ => 0) 31) ⟨hHeld, b7.alloc _, Blk.new _ _ _⟩ ?_
              clear hHeld b7
              rintro wt29 ⟨hHeld, b7, b6⟩
              exact hcont (L, H, wt28.heap.size, wd.heap.size) _ ⟨hHeld, hL, hH, hLH, b6, b7, l6, l7, (Nat.ne_of_gt dd)⟩
            · skip
              go_simp
              try go_bits
              have l6 := hHeld.2.1.lt
              have dd := b7.lt
              refine hK.out _ _ (hHeld.alloc _) (fun hHeld => ?_)
              clear hK K
              refine norm_ (a' := ?_) ?_ ?_
              rotate_left
              · first | rfl | (simp only [Act.put, List.setIfInBounds_toArray, List.set_cons_zero, List.set_cons_succ, i64_w, i32_w]; rfl)
              refine gen_at (fun W => (NumS w w1.heap.size F) W ∧ Blk W wd.heap.size (arrF .u64 4 fun _ => 0) 31 ∧ Blk W wt27.heap.size (arrF .u64 4 fun _ => 0) 31) ⟨hHeld, b7.alloc _, Blk.new _ _ _⟩ ?_
              clear hHeld b7
              rintro wt30 ⟨hHeld, b7, b6⟩
              refine one_ (i := 2) (N := some 41) #[true, true, true, false, false, false, true, true, false, false] rfl rfl (by kernel_rfl) (by decide) (fun K hK => ?_)
              go_simp
              try go_bits
              refine (HP.out _).mono ?_
              rintro e w2 ⟨L, H, hL, hH, hLH, rfl, hb2⟩
              refine hK.out _ _ (hHeld.below hb2) (fun hHeld => ?_)
              clear hK K
              refine norm_ (a' := ?_) ?_ ?_
              rotate_left
              · first | rfl | (simp only [Act.put, List.setIfInBounds_toArray, List.set_cons_zero, List.set_cons_succ, i64_w, i32_w]; rfl)
              refine gen_at (fun W => (NumS w w1.heap.size F) W ∧ Blk W wt27.heap.size (arrF .u64 4 fun _ => 0) 31 ∧ Blk W wd.heap.size (arrF .u64 4 fun _ => 0) 31) ⟨hHeld, b6.below hb2, b7.below hb2⟩ ?_
              clear hHeld b6 b7
              rintro wt31 ⟨hHeld, b6, b7⟩
              refine pure_ (i := 3) (N := some 38) (v := ?_) (a' := ?_) #[true, true, true, true, false, false, true, true, false, false] rfl rfl (by kernel_rfl) (fun _ _ _ h => h) (Or.inl ⟨by rfl, ?_⟩) ?_ ?_
              rotate_left
              · intro w2
                (go_simp; (try go_bits); with_reducible rfl)
              rotate_left
              · simp only [Act.put, List.setIfInBounds_toArray, List.set_cons_zero, List.set_cons_succ, i64_w, i32_w]
                rfl
              refine pure_ (i := 4) (N := some 42) (v := ?_) (a' := ?_) #[true, true, true, true, true, false, true, true, false, false] rfl rfl (by kernel_rfl) (fun _ _ _ h => h) (Or.inl ⟨by rfl, ?_⟩) ?_ ?_
              rotate_left
              · intro w2
                (go_simp; (try go_bits); with_reducible rfl)
              rotate_left
              · simp only [Act.put, List.setIfInBounds_toArray, List.set_cons_zero, List.set_cons_succ, i64_w, i32_w]
                rfl
              refine pure_ (i := 5) (N := some 43) (v := ?_) (a' := ?_) #[true, true, true, true, true, true, true, true, false, false] rfl rfl (by kernel_rfl) (fun _ _ _ h => h) (Or.inl ⟨by rfl, ?_⟩) ?_ ?_
              rotate_left
              · intro w2
                (go_simp; (try go_bits); with_reducible rfl)
              rotate_left
              · simp only [Act.put, List.setIfInBounds_toArray, List.set_cons_zero, List.set_cons_succ, i64_w, i32_w]
                rfl
              exact hcont (L, H, wt27.heap.size, wd.heap.size) _ ⟨hHeld, hL, hH, hLH, b6, b7, l6, l7, (Nat.ne_of_gt dd)⟩
          · skip
            go_simp
            try go_bits
            have l6 := hHeld.2.1.lt
            have dd := b7.lt
            refine hK.out _ _ (hHeld.alloc _) (fun hHeld => ?_)
            clear hK K
            refine norm_ (a' := ?_) ?_ ?_
            rotate_left
            · first | rfl | (simp only [Act.put, List.setIfInBounds_toArray, List.set_cons_zero, List.set_cons_succ, i64_w, i32_w]; rfl)
            refine gen_at (fun W => (NumS w w1.heap.size F) W ∧ Blk W wd.heap.size (arrF .u64 4 fun _ => 0) 31 ∧ Blk W wt26.heap.size (arrF .u64 4 fun _ => 0) 31) ⟨hHeld, b7.alloc _, Blk.new _ _ _⟩ ?_
            clear hHeld b7
            rintro wt32 ⟨hHeld, b7, b6⟩
            refine one_ (i := 1) (N := some 40) #[true, true, false, false, false, false, true, true, false, false] rfl rfl (by kernel_rfl) (by decide) (fun K hK => ?_)
            go_simp
            try go_bits
            refine (HOF.out _).mono ?_
            rintro e w2 ⟨rfl, hb1⟩
            refine hK.out _ _ (hHeld.below hb1) (fun hHeld => ?_)
            clear hK K
            refine norm_ (a' := ?_) ?_ ?_
            rotate_left
            · first | rfl | (simp only [Act.put, List.setIfInBounds_toArray, List.set_cons_zero, List.set_cons_succ, i64_w, i32_w]; rfl)
            refine gen_at (fun W => (NumS w w1.heap.size F) W ∧ Blk W wt26.heap.size (arrF .u64 4 fun _ => 0) 31 ∧ Blk W wd.heap.size (arrF .u64 4 fun _ => 0) 31) ⟨hHeld, b6.below hb1, b7.below hb1⟩ ?_
            clear hHeld b6 b7
            rintro wt33 ⟨hHeld, b6, b7⟩
            refine one_ (i := 2) (N := some 41) #[true, true, true, false, false, false, true, true, false, false] rfl rfl (by kernel_rfl) (by decide) (fun K hK => ?_)
            go_simp
            try go_bits
            refine (HP.out _).mono ?_
            rintro e w2 ⟨L, H, hL, hH, hLH, rfl, hb2⟩
            refine hK.out _ _ (hHeld.below hb2) (fun hHeld => ?_)
            clear hK K
            refine norm_ (a' := ?_) ?_ ?_
            rotate_left
            · first | rfl | (simp only [Act.put, List.setIfInBounds_toArray, List.set_cons_zero, List.set_cons_succ, i64_w, i32_w]; rfl)
            refine gen_at (fun W => (NumS w w1.heap.size F) W ∧ Blk W wt26.heap.size (arrF .u64 4 fun _ => 0) 31 ∧ Blk W wd.heap.size (arrF .u64 4 fun _ => 0) 31) ⟨hHeld, b6.below hb2, b7.below hb2⟩ ?_
            clear hHeld b6 b7
            rintro wt34 ⟨hHeld, b6, b7⟩
            refine pure_ (i := 3) (N := some 38) (v := ?_) (a' := ?_) #[true, true, true, true, false, false, true, true, false, false] rfl rfl (by kernel_rfl) (fun _ _ _ h => h) (Or.inl ⟨by rfl, ?_⟩) ?_ ?_
            rotate_left
            · intro w2
              (go_simp; (try go_bits); with_reducible rfl)
            rotate_left
            · simp only [Act.put, List.setIfInBounds_toArray, List.set_cons_zero, List.set_cons_succ, i64_w, i32_w]
              rfl
            refine pure_ (i := 4) (N := some 42) (v := ?_) (a' := ?_) #[true, true, true, true, true, false, true, true, false, false] rfl rfl (by kernel_rfl) (fun _ _ _ h => h) (Or.inl ⟨by rfl, ?_⟩) ?_ ?_
            rotate_left
            · intro w2
              (go_simp; (try go_bits); with_reducible rfl)
            rotate_left
            · simp only [Act.put, List.setIfInBounds_toArray, List.set_cons_zero, List.set_cons_succ, i64_w, i32_w]
              rfl
            refine pure_ (i := 5) (N := some 43) (v := ?_) (a' := ?_) #[true, true, true, true, true, true, true, true, false, false] rfl rfl (by kernel_rfl) (fun _ _ _ h => h) (Or.inl ⟨by rfl, ?_⟩) ?_ ?_
            rotate_left
            · intro w2
              (go_simp; (try go_bits); with_reducible rfl)
            rotate_left
            · simp only [Act.put, List.setIfInBounds_toArray, List.set_cons_zero, List.set_cons_succ, i64_w, i32_w]
              rfl
            exact hcont (L, H, wt26.heap.size, wd.heap.size) _ ⟨hHeld, hL, hH, hLH, b6, b7, l6, l7, (Nat.ne_of_gt dd)⟩
      rintro ⟨L, H, g8, g9⟩ wd1 ⟨hN, hL, hH, hLH, hB8, hB9, l8, l9, hne⟩
      refine norm_ (a' := ?_) ?_ ?_
      rotate_left
      · simp only [putAll, Act.put, List.setIfInBounds_toArray, List.set_cons_zero, List.set_cons_succ]
        rfl
      refine last_ (i := 8) (N := none) #[true, true, true, true, true, true, true, true, true, false] rfl rfl (by kernel_rfl) (by decide) (fun K hK => ?_)
      refine ifw rfl ?_
      refine op_store_blk 31 (.tmp 8) (.tmp 42) rfl _ rfl _ _ (arrF .u64 4 L) rfl hB8 4 size25 (arrF_size _ _ _) (arrF_size _ _ _) (arrF_one _ _ _) ?_
      intro W1 hO1 hC8
      refine hK.out _ _ ?_
      clear hK K
      refine norm_ (a' := ?_) ?_ ?_
      rotate_left
      · first | rfl | (simp only [Act.put, List.setIfInBounds_toArray, List.set_cons_zero, List.set_cons_succ, i64_w, i32_w]; rfl)
      refine last_ (i := 9) (N := none) #[true, true, true, true, true, true, true, true, true, true] rfl rfl (by kernel_rfl) (by decide) (fun K hK => ?_)
      refine ifw rfl ?_
      refine op_store_blk 31 (.tmp 9) (.tmp 43) rfl _ rfl _ _ (arrF .u64 4 H) rfl (Only.blk hB9 hO1 (fun e => hne e.symm)) 4 size25 (arrF_size _ _ _) (arrF_size _ _ _) (arrF_one _ _ _) ?_
      intro W2 hO2 hC9
      refine hK.out _ _ ?_
      clear hK K
      refine norm_ (a' := ?_) ?_ ?_
      rotate_left
      · first | rfl | (simp only [Act.put, List.setIfInBounds_toArray, List.set_cons_zero, List.set_cons_succ, i64_w, i32_w]; rfl)
      refine done_ (by kernel_rfl) ?_
      have hS13 : NumS w w1.heap.size F W2 ∧ Blk W2 g8 (arrF .u64 4 L) 31 ∧ Blk W2 g9 (arrF .u64 4 H) 31 := ⟨(hN.only hO1 l8).only hO2 l9, Only.blk hC8 hO2 hne, hC9⟩
      clear hN hB8 hB9 hO1 hC8 hO2 hC9
      have HL := Lib.hid hL
      have HH := Lib.hid hH
      have HLH := Lib.hid hLH
      clear hL hH hLH
      have HOF2 : Hid (∀ W, Calls Tryz.prog 25 #[.int .u64 (b - 48)] W fun e w' => e = .returned (.agg (arrF .u64 4 fun i => if i = 0 then b - 48 else 0)) ∧ Below W.heap.size W w') := fun W => of_any (b - 48) W
      have HUD := Lib.hid (of_U64 (d := b - 48) (by omega) (by omega))
      have HAD : Hid (∀ W, Calls Tryz.prog 26 #[.agg (arrF .u64 4 L), .agg (arrF .u64 4 fun i => if i = 0 then b - 48 else 0)] W fun e w' => e = .returned (.agg (arrF .u64 4 (addW L fun i => if i = 0 then b - 48 else 0))) ∧ Below W.heap.size W w') := fun W => add_word L _ W HL.out HUD.out
      have HNV : Hid (wval (addW L fun i => if i = 0 then b - 48 else 0) = (wval L + (b - 48)) % M256) := by rw [Hid, addW_val HL.out HUD.out, of_val]
      have HNU := Lib.hid (addW_range L fun i => if i = 0 then b - 48 else 0)
      obtain ⟨N, hN⟩ : ∃ N, addW L (fun i => if i = 0 then b - 48 else 0) = N := ⟨_, rfl⟩
      rw [hN] at HAD HNV HNU
      clear hN
      go_wp2_with fail
      refine start_ (n := 10) (S := fun W => NumS w w1.heap.size F W ∧ Blk W g8 (arrF .u64 4 L) 31 ∧ Blk W g9 (arrF .u64 4 H) 31) (ds := [9]) #[false, false, false, false, false, false, false, false, false, false] (by kernel_rfl) rfl rfl ⟨hS13.1.drew, hS13.2.1.drew, hS13.2.2.drew⟩ (fun hHeld => ?_)
      refine gen_last hHeld ?_
      clear hHeld
      intro wd hHeld
      refine take_ (i := 0) (N := some 44) (v := ?_) (a' := ?_) #[true, false, false, false, false, false, false, false, false, false] rfl rfl (by kernel_rfl) (fun _ _ _ h => h) (Or.inl ⟨by rfl, ?_⟩) hHeld ?_ ?_
      rotate_left
      · intro w2 hS2
        skip
        (refine run_load_blk (x := .tmp 8) ?_ ?_ hS2.2.1 Tryz.underlying31 rfl 4 size25 (arrF_size _ _ _) <;> rfl)
      rotate_left
      · simp only [Act.put, List.setIfInBounds_toArray, List.set_cons_zero, List.set_cons_succ, i64_w, i32_w]
        rfl
      refine pure_ (i := 1) (N := some 45) (v := ?_) (a' := ?_) #[true, true, false, false, false, false, false, false, false, false] rfl rfl (by kernel_rfl) (fun _ _ _ h => h) (Or.inl ⟨by rfl, ?_⟩) ?_ ?_
      rotate_left
      · intro w2
        (go_simp; (try go_bits); with_reducible rfl)
      rotate_left
      · simp only [Act.put, List.setIfInBounds_toArray, List.set_cons_zero, List.set_cons_succ, i64_w, i32_w]
        rfl
      refine pure_ (i := 2) (N := some 46) (v := ?_) (a' := ?_) #[true, true, true, false, false, false, false, false, false, false] rfl rfl (by kernel_rfl) (fun _ _ _ h => h) (Or.inl ⟨by rfl, ?_⟩) ?_ ?_
      rotate_left
      · intro w2
        (go_simp; (try go_bits); with_reducible rfl)
      rotate_left
      · simp only [Act.put, List.setIfInBounds_toArray, List.set_cons_zero, List.set_cons_succ, i64_w, i32_w]
        rfl
      refine pure_ (i := 3) (N := some 47) (v := ?_) (a' := ?_) #[true, true, true, true, false, false, false, false, false, false] rfl rfl (by kernel_rfl) (fun _ _ _ h => h) (Or.inl ⟨by rfl, ?_⟩) ?_ ?_
      rotate_left
      · intro w2
        (go_simp; (try go_bits); with_reducible rfl)
      rotate_left
      · simp only [Act.put, List.setIfInBounds_toArray, List.set_cons_zero, List.set_cons_succ, i64_w, i32_w]
        rfl
      refine pure_ (i := 4) (N := some 48) (v := ?_) (a' := ?_) #[true, true, true, true, true, false, false, false, false, false] rfl rfl (by kernel_rfl) (fun _ _ _ h => h) (Or.inl ⟨by rfl, ?_⟩) ?_ ?_
      rotate_left
      · intro w2
        (go_simp; (try go_bits); with_reducible rfl)
      rotate_left
      · simp only [Act.put, List.setIfInBounds_toArray, List.set_cons_zero, List.set_cons_succ, i64_w, i32_w]
        rfl
      refine pure_ (i := 5) (N := some 49) (v := ?_) (a' := ?_) #[true, true, true, true, true, true, false, false, false, false] rfl rfl (by kernel_rfl) (fun _ _ _ h => h) (Or.inl ⟨by rfl, ?_⟩) ?_ ?_
      rotate_left
      · intro w2
        (go_simp; (try go_bits); with_reducible rfl)
      rotate_left
      · simp only [Act.put, List.setIfInBounds_toArray, List.set_cons_zero, List.set_cons_succ, i64_w, i32_w]
        rfl
      refine join_ (σ := Nat) 1 #[true, true, true, true, true, true, true, true, true, false] (fun s => [(50, .agg (arrF .u64 4 fun i => if i = 0 then b - 48 else 0)), (51, .agg (arrF .u64 4 N)), (10, .pointer (some ⟨s, 0, none⟩))]) (fun s W => (NumS w w1.heap.size F W ∧ Blk W g8 (arrF .u64 4 L) 31 ∧ Blk W g9 (arrF .u64 4 H) 31) ∧ Blk W s (arrF .u64 4 fun _ => 0) 31 ∧ w1.heap.size < s ∧ g8 < s ∧ g9 < s) ?_ ?_
      rotate_left
      · intro hcont
        simp only [putAll, Act.put, List.setIfInBounds_toArray, List.set_cons_zero, List.set_cons_succ] at hcont
        refine two_ (i := 6) (j := 8) (Ni := some 50) (Nj := some 10) #[true, true, true, true, true, true, true, false, false, false] #[true, true, true, true, true, true, false, false, true, false] rfl rfl rfl rfl (by kernel_rfl) (by decide) (by decide) (fun K hK => ?_) (fun K hK => ?_)
        · skip
          go_simp
          try go_bits
          refine (HOF2.out _).mono ?_
          rintro e w2 ⟨rfl, hb6⟩
          refine hK.out _ _ ⟨hHeld.1.below hb6, hHeld.2.1.below hb6, hHeld.2.2.below hb6⟩ (fun hHeld => ?_)
          clear hK K
          refine norm_ (a' := ?_) ?_ ?_
          rotate_left
          · first | rfl | (simp only [Act.put, List.setIfInBounds_toArray, List.set_cons_zero, List.set_cons_succ, i64_w, i32_w]; rfl)
          refine gen_at (fun W => (fun W => NumS w w1.heap.size F W ∧ Blk W g8 (arrF .u64 4 L) 31 ∧ Blk W g9 (arrF .u64 4 H) 31) W) hHeld ?_
          clear hHeld
          rintro wt1 hHeld
          refine two_ (i := 7) (j := 8) (Ni := some 51) (Nj := some 10) #[true, true, true, true, true, true, true, true, false, false] #[true, true, true, true, true, true, true, false, true, false] rfl rfl rfl rfl (by kernel_rfl) (by decide) (by decide) (fun K hK => ?_) (fun K hK => ?_)
          · skip
            go_simp
            try go_bits
            refine (HAD.out _).mono ?_
            rintro e w2 ⟨rfl, hb7⟩
            refine hK.out _ _ ⟨hHeld.1.below hb7, hHeld.2.1.below hb7, hHeld.2.2.below hb7⟩ (fun hHeld => ?_)
            clear hK K
            refine norm_ (a' := ?_) ?_ ?_
            rotate_left
            · first | rfl | (simp only [Act.put, List.setIfInBounds_toArray, List.set_cons_zero, List.set_cons_succ, i64_w, i32_w]; rfl)
            refine gen_at (fun W => (fun W => NumS w w1.heap.size F W ∧ Blk W g8 (arrF .u64 4 L) 31 ∧ Blk W g9 (arrF .u64 4 H) 31) W) hHeld ?_
            clear hHeld
            rintro wt2 hHeld
            refine one_ (i := 8) (N := some 10) #[true, true, true, true, true, true, true, true, true, false] rfl rfl (by kernel_rfl) (by decide) (fun K hK => ?_)
            go_simp
            try go_bits
            have l8 := And.intro hHeld.1.2.1.lt (And.intro hHeld.2.1.lt hHeld.2.2.lt)
            refine hK.out _ _ ⟨hHeld.1.alloc _, hHeld.2.1.alloc _, hHeld.2.2.alloc _⟩ (fun hHeld => ?_)
            clear hK K
            refine norm_ (a' := ?_) ?_ ?_
            rotate_left
            · first | rfl | (simp only [Act.put, List.setIfInBounds_toArray, List.set_cons_zero, List.set_cons_succ, i64_w, i32_w]; rfl)
            refine gen_at (fun W => (fun W => NumS w w1.heap.size F W ∧ Blk W g8 (arrF .u64 4 L) 31 ∧ Blk W g9 (arrF .u64 4 H) 31) W ∧ Blk W wt2.heap.size (arrF .u64 4 fun _ => 0) 31) ⟨hHeld, Blk.new _ _ _⟩ ?_
            clear hHeld
            rintro wt3 ⟨hHeld, b8⟩
            exact hcont (wt2.heap.size) _ ⟨hHeld, b8, l8.1, l8.2.1, l8.2.2⟩
          · skip
            go_simp
            try go_bits
            have l8 := And.intro hHeld.1.2.1.lt (And.intro hHeld.2.1.lt hHeld.2.2.lt)
            refine hK.out _ _ ⟨hHeld.1.alloc _, hHeld.2.1.alloc _, hHeld.2.2.alloc _⟩ (fun hHeld => ?_)
            clear hK K
            refine norm_ (a' := ?_) ?_ ?_
            rotate_left
            · first | rfl | (simp only [Act.put, List.setIfInBounds_toArray, List.set_cons_zero, List.set_cons_succ, i64_w, i32_w]; rfl)
            refine gen_at (fun W => (fun W => NumS w w1.heap.size F W ∧ Blk W g8 (arrF .u64 4 L) 31 ∧ Blk W g9 (arrF .u64 4 H) 31) W ∧ Blk W wt1.heap.size (arrF .u64 4 fun _ => 0) 31) ⟨hHeld, Blk.new _ _ _⟩ ?_
            clear hHeld
            rintro wt4 ⟨hHeld, b8⟩
            refine one_ (i := 7) (N := some 51) #[true, true, true, true, true, true, true, true, true, false] rfl rfl (by kernel_rfl) (by decide) (fun K hK => ?_)
            go_simp
            try go_bits
            refine (HAD.out _).mono ?_
            rintro e w2 ⟨rfl, hb7⟩
            refine hK.out _ _ ⟨hHeld.1.below hb7, hHeld.2.1.below hb7, hHeld.2.2.below hb7⟩ (fun hHeld => ?_)
            clear hK K
            refine norm_ (a' := ?_) ?_ ?_
            rotate_left
            · first | rfl | (simp only [Act.put, List.setIfInBounds_toArray, List.set_cons_zero, List.set_cons_succ, i64_w, i32_w]; rfl)
            refine gen_at (fun W => (fun W => NumS w w1.heap.size F W ∧ Blk W g8 (arrF .u64 4 L) 31 ∧ Blk W g9 (arrF .u64 4 H) 31) W ∧ Blk W wt1.heap.size (arrF .u64 4 fun _ => 0) 31) ⟨hHeld, b8.below hb7⟩ ?_
            clear hHeld b8
            rintro wt5 ⟨hHeld, b8⟩
            exact hcont (wt1.heap.size) _ ⟨hHeld, b8, l8.1, l8.2.1, l8.2.2⟩
        · skip
          go_simp
          try go_bits
          have l8 := And.intro hHeld.1.2.1.lt (And.intro hHeld.2.1.lt hHeld.2.2.lt)
          refine hK.out _ _ ⟨hHeld.1.alloc _, hHeld.2.1.alloc _, hHeld.2.2.alloc _⟩ (fun hHeld => ?_)
          clear hK K
          refine norm_ (a' := ?_) ?_ ?_
          rotate_left
          · first | rfl | (simp only [Act.put, List.setIfInBounds_toArray, List.set_cons_zero, List.set_cons_succ, i64_w, i32_w]; rfl)
          refine gen_at (fun W => (fun W => NumS w w1.heap.size F W ∧ Blk W g8 (arrF .u64 4 L) 31 ∧ Blk W g9 (arrF .u64 4 H) 31) W ∧ Blk W wd.heap.size (arrF .u64 4 fun _ => 0) 31) ⟨hHeld, Blk.new _ _ _⟩ ?_
          clear hHeld
          rintro wt6 ⟨hHeld, b8⟩
          refine one_ (i := 6) (N := some 50) #[true, true, true, true, true, true, true, false, true, false] rfl rfl (by kernel_rfl) (by decide) (fun K hK => ?_)
          go_simp
          try go_bits
          refine (HOF2.out _).mono ?_
          rintro e w2 ⟨rfl, hb6⟩
          refine hK.out _ _ ⟨hHeld.1.below hb6, hHeld.2.1.below hb6, hHeld.2.2.below hb6⟩ (fun hHeld => ?_)
          clear hK K
          refine norm_ (a' := ?_) ?_ ?_
          rotate_left
          · first | rfl | (simp only [Act.put, List.setIfInBounds_toArray, List.set_cons_zero, List.set_cons_succ, i64_w, i32_w]; rfl)
          refine gen_at (fun W => (fun W => NumS w w1.heap.size F W ∧ Blk W g8 (arrF .u64 4 L) 31 ∧ Blk W g9 (arrF .u64 4 H) 31) W ∧ Blk W wd.heap.size (arrF .u64 4 fun _ => 0) 31) ⟨hHeld, b8.below hb6⟩ ?_
          clear hHeld b8
          rintro wt7 ⟨hHeld, b8⟩
          refine one_ (i := 7) (N := some 51) #[true, true, true, true, true, true, true, true, true, false] rfl rfl (by kernel_rfl) (by decide) (fun K hK => ?_)
          go_simp
          try go_bits
          refine (HAD.out _).mono ?_
          rintro e w2 ⟨rfl, hb7⟩
          refine hK.out _ _ ⟨hHeld.1.below hb7, hHeld.2.1.below hb7, hHeld.2.2.below hb7⟩ (fun hHeld => ?_)
          clear hK K
          refine norm_ (a' := ?_) ?_ ?_
          rotate_left
          · first | rfl | (simp only [Act.put, List.setIfInBounds_toArray, List.set_cons_zero, List.set_cons_succ, i64_w, i32_w]; rfl)
          refine gen_at (fun W => (fun W => NumS w w1.heap.size F W ∧ Blk W g8 (arrF .u64 4 L) 31 ∧ Blk W g9 (arrF .u64 4 H) 31) W ∧ Blk W wd.heap.size (arrF .u64 4 fun _ => 0) 31) ⟨hHeld, b8.below hb7⟩ ?_
          clear hHeld b8
          rintro wt8 ⟨hHeld, b8⟩
          exact hcont (wd.heap.size) _ ⟨hHeld, b8, l8.1, l8.2.1, l8.2.2⟩
      rintro g10 wd1 ⟨hN, hB10, l10, l108, l109⟩
      refine norm_ (a' := ?_) ?_ ?_
      rotate_left
      · simp only [putAll, Act.put, List.setIfInBounds_toArray, List.set_cons_zero, List.set_cons_succ]
        rfl
      refine last_ (i := 9) (N := none) #[true, true, true, true, true, true, true, true, true, true] rfl rfl (by kernel_rfl) (by decide) (fun K hK => ?_)
      refine ifw rfl ?_
      refine op_store_blk 31 (.tmp 10) (.tmp 51) rfl _ rfl _ _ (arrF .u64 4 N) rfl hB10 4 size25 (arrF_size _ _ _) (arrF_size _ _ _) (arrF_one _ _ _) ?_
      intro W3 hO3 hC10
      refine hK.out _ _ ?_
      clear hK K
      refine norm_ (a' := ?_) ?_ ?_
      rotate_left
      · first | rfl | (simp only [Act.put, List.setIfInBounds_toArray, List.set_cons_zero, List.set_cons_succ, i64_w, i32_w]; rfl)
      refine done_ (by kernel_rfl) ?_
      have hS14 : NumS w w1.heap.size F W3 ∧ Blk W3 g8 (arrF .u64 4 L) 31 ∧ Blk W3 g9 (arrF .u64 4 H) 31 := ⟨hN.1.only hO3 l10, Only.blk hN.2.1 hO3 (by omega), Only.blk hN.2.2 hO3 (by omega)⟩
      clear hN hB10 hO3 hS13
      have HTM : Hid (M256 ≤ 10 * wval F + (b - 48) → M256 ≤ dnum (bytesOf s)) := fun h => by
        have hd := HALL.out
        have h1 : ((bytesOf s).take (k + 1)).all isDig = true := List.all_eq_true.2 fun x hx => List.all_eq_true.1 hd x (List.mem_of_mem_take hx)
        have h2 : ((bytesOf s).drop (k + 1)).all isDig = true := List.all_eq_true.2 fun x hx => List.all_eq_true.1 hd x (List.mem_of_mem_drop hx)
        have h3 := dnum_more _ _ h2 (dnum_pos _ h1)
        rw [List.take_append_drop, HT.out] at h3
        omega
      have rL := wval_range HL.out
      have rH := wval_range HH.out
      have R0 := Lib.hid (show 0 ≤ wval F from (wval_range HF.out).1)
      have he := eql25 H (fun _ => 0)
      obtain ⟨z, hz'⟩ : ∃ z, eqN 4 H (fun _ => 0) = z := ⟨_, rfl⟩
      rw [hz'] at he
      cases z with
      | false =>
        have HBIG : Hid (M256 ≤ dnum (bytesOf s)) := HTM.out (by
          have : wval H ≠ 0 := fun e => by rw [eql_zero HH.out e] at hz'; cases hz'
          have := HLH.out
          unfold M256 at *
          omega)
        clear hz' rL rH
        go_wp2_with (first | ((with_reducible refine gate_op (.load 31 (.tmp 9)) rfl ?_); refine wpl_load_blk rfl 31 (.tmp 9) rfl _ rfl _ _ _ hS14.2.2 Tryz.underlying31 rfl 4 size25 (arrF_size _ _ _) ?_) | ((with_reducible refine gate_op (.store 31 (.tmp 2) (.tmp 61)) rfl ?_); refine wpl_store_blk rfl 31 (.tmp 2) (.tmp 61) rfl _ rfl _ _ _ rfl hS14.1.2.2.1 4 size25 (arrF_size _ _ _) (arrF_size _ _ _) (arrF_one _ _ _) ?_; intro W4 hO4 hB4))
        refine ret_blk2 Tryz.results9 _ _ _ _ rfl hB4 Tryz.underlying31 rfl 4 size25 (arrF_size _ _ _) rfl ⟨?_, Only.below hS14.1.1 hO4 (Nat.le_refl _)⟩
        rw [HV0.out, HE0.out, if_pos HBIG.out, if_pos HBIG.out, ZL.out]
        rfl
      | true =>
        have hH0 : wval H = 0 := by
          have := eqN_iff.1 hz'
          simp [wval, this 0 (by omega), this 1 (by omega), this 2 (by omega), this 3 (by omega)]
        have hLv : wval L = 10 * wval F := by have := HLH.out; rw [hH0] at this; omega
        have HCM := Lib.hid (fun W => compare_any N L W HNU.out HL.out)
        have hcl := cmp_lt HNU.out HL.out
        obtain ⟨q, hq⟩ : ∃ q, cmpF N L = q := ⟨_, rfl⟩
        rw [hq] at HCM hcl
        unfold wordF at HCM
        have hnv := HNV.out
        by_cases hlt2 : wval N < wval L
        · have hq0 : q < 0 := by rw [decide_eq_true hlt2] at hcl; exact of_decide_eq_true hcl
          have HBIG : Hid (M256 ≤ dnum (bytesOf s)) := HTM.out (by unfold M256 at *; omega)
          clear hz' rL rH hH0 hLv hcl hq hnv hlt2
          go_wp2_with (first | ((with_reducible refine gate_op (.load 31 (.tmp 9)) rfl ?_); refine wpl_load_blk rfl 31 (.tmp 9) rfl _ rfl _ _ _ hS14.2.2 Tryz.underlying31 rfl 4 size25 (arrF_size _ _ _) ?_) | ((with_reducible refine gate_op (.load 31 (.tmp 10)) rfl ?_); refine guard_on (by rfl) ?_; refine wpl_load_blk rfl 31 (.tmp 10) rfl _ rfl _ _ _ hC10 Tryz.underlying31 rfl 4 size25 (arrF_size _ _ _) ?_) | ((with_reducible refine gate_op (.load 31 (.tmp 8)) rfl ?_); refine guard_on (by rfl) ?_; refine wpl_load_blk rfl 31 (.tmp 8) rfl _ rfl _ _ _ hS14.2.1 Tryz.underlying31 rfl 4 size25 (arrF_size _ _ _) ?_) | (go_at_call 27; refine (HCM.out _).mono ?_; rintro e w5 ⟨rfl, hb5⟩) | ((with_reducible refine gate_op (.store 31 (.tmp 2) (.tmp 61)) rfl ?_); refine wpl_store_blk rfl 31 (.tmp 2) (.tmp 61) rfl _ rfl _ _ _ rfl (hS14.1.2.2.1.below hb5) 4 size25 (arrF_size _ _ _) (arrF_size _ _ _) (arrF_one _ _ _) ?_; intro W4 hO4 hB4))
          refine ret_blk2 Tryz.results9 _ _ _ _ rfl hB4 Tryz.underlying31 rfl 4 size25 (arrF_size _ _ _) rfl ⟨?_, Only.below (bel_then hS14.1.1 hb5) hO4 (Nat.le_refl _)⟩
          rw [HV0.out, HE0.out, if_pos HBIG.out, if_pos HBIG.out, ZL.out]
          rfl
        · have hq0 : ¬ q < 0 := by rw [decide_eq_false hlt2] at hcl; exact of_decide_eq_false hcl
          have HNT : Hid (wval N = dnum ((bytesOf s).take (k + 1))) := by
            rw [Hid, HT.out]
            have := wval_range HNU.out
            unfold M256 at *
            omega
          clear hz' rL rH hH0 hLv hcl hq hnv hlt2
          go_wp2_with (first | ((with_reducible refine gate_op (.load 31 (.tmp 9)) rfl ?_); refine wpl_load_blk rfl 31 (.tmp 9) rfl _ rfl _ _ _ hS14.2.2 Tryz.underlying31 rfl 4 size25 (arrF_size _ _ _) ?_) | ((with_reducible refine gate_op (.load 31 (.tmp 10)) rfl ?_); refine guard_on (by rfl) ?_; refine wpl_load_blk rfl 31 (.tmp 10) rfl _ rfl _ _ _ hC10 Tryz.underlying31 rfl 4 size25 (arrF_size _ _ _) ?_) | ((with_reducible refine gate_op (.load 31 (.tmp 8)) rfl ?_); refine guard_on (by rfl) ?_; refine wpl_load_blk rfl 31 (.tmp 8) rfl _ rfl _ _ _ hS14.2.1 Tryz.underlying31 rfl 4 size25 (arrF_size _ _ _) ?_) | (go_at_call 27; refine (HCM.out _).mono ?_; rintro e w5 ⟨rfl, hb5⟩) | ((with_reducible refine gate_op (.load 31 (.tmp 10)) rfl ?_); refine wpl_load_blk rfl 31 (.tmp 10) rfl _ rfl _ _ _ (hC10.below hb5) Tryz.underlying31 rfl 4 size25 (arrF_size _ _ _) ?_) | ((with_reducible refine gate_op (.store 31 (.tmp 6) (.tmp 62)) rfl ?_); refine wpl_store_blk rfl 31 (.tmp 6) (.tmp 62) rfl _ rfl _ _ _ rfl (hS14.1.2.1.below hb5) 4 size25 (arrF_size _ _ _) (arrF_size _ _ _) (arrF_one _ _ _) ?_; intro W4 hO4 hB4))
          go_roundw
          case rel => exact ⟨k + 1, N, by omega, by go_num, HNU.out, HNT.out, Only.below (bel_then hS14.1.1 hb5) hO4 (by have := hS14.1.2.2.2; omega), hB4, Only.blk (hS14.1.2.2.1.below hb5) hO4 (by have := hS14.1.2.2.2; omega), hS14.1.2.2.2⟩
          case measure => simp [intOf]; omega
    · obtain rfl : k = s.size := by omega
      have hn : ¬ M256 ≤ dnum (bytesOf s) := by
        have := (wval_range hF).2
        rw [hv, List.take_of_length_le (by rw [bytesOf_length]; omega)] at this
        omega
      have HN := Lib.hid hn
      have HW : Hid (arrF .u64 4 F = arrF .u64 4 (limbF (dnum (bytesOf s)))) := by
        have := wordF_limb hF
        rw [hv, List.take_of_length_le (by rw [bytesOf_length]; omega)] at this
        injection this
      clear hn hv
      go_wp2_with (first | ((with_reducible refine gate_op (.load 31 (.tmp 6)) rfl ?_); refine wpl_load_blk rfl 31 (.tmp 6) rfl _ rfl _ _ _ hS.2.1 Tryz.underlying31 rfl 4 size25 (arrF_size _ _ _) ?_) | ((with_reducible refine gate_op (.store 31 (.tmp 2) (.tmp 64)) rfl ?_); refine wpl_store_blk rfl 31 (.tmp 2) (.tmp 64) rfl _ rfl _ _ _ rfl hS.2.2.1 4 size25 (arrF_size _ _ _) (arrF_size _ _ _) (arrF_one _ _ _) ?_; intro W4 hO4 hB4))
      refine ret_blk2 Tryz.results9 _ _ _ _ rfl hB4 Tryz.underlying31 rfl 4 size25 (arrF_size _ _ _) rfl ⟨?_, Only.below hS.1 hO4 (Nat.le_refl _)⟩
      rw [HV0.out, HE0.out, if_neg (Int.not_le.2 HN.out), if_neg (Int.not_le.2 HN.out), HW.out]
      rfl
theorem numErr_six {l r : List Int} (h : rest0x l = some r) : numErr l = sixErr r := by unfold numErr sixErr; rw [h]
theorem numVal_six {l r : List Int} (h : rest0x l = some r) : numVal l = sixVal r := by unfold numVal; rw [numErr_six h, h]; rfl
theorem number_six (s t : ByteArray) (w : World) (hs : t.size ≤ 100000) (hcut : ∀ W, Calls Tryz.prog 21 #[.string s, .string ⟨#[48, 120]⟩] W fun e w' => e = .returned (.tuple #[.string t, .bool true]) ∧ W = w') :
    Calls Tryz.prog 9 #[.string s] w fun e w' => e = .returned (.tuple #[wordF (limbF (sixVal (bytesOf t))), .int .i64 (sixErr (bytesOf t))]) ∧ Below w.heap.size w w' := by
  have HCUT := Lib.hid hcut
  have HSX : Hid (∀ W, _) := fun W => sixteen_any t hs W
  have hz := zero25
  clear hcut
  unfold wordF at HSX ⊢
  go_enter Tryz.func9, Tryz.ntmps9
  go_wp2_with (first | (go_at_call 21; refine (HCUT.out _).mono ?_; rintro e w' ⟨rfl, rfl⟩) | (go_at_call 22; refine (HSX.out _).mono ?_; rintro e w1 ⟨rfl, hb1⟩) | ((with_reducible refine gate_op (.store 31 (.tmp 2) (.tmp 19)) rfl ?_); refine wpl_store_blk rfl 31 (.tmp 2) (.tmp 19) rfl _ rfl _ _ _ rfl ((Blk.new _ _ _).below hb1) 4 size25 (arrF_size _ _ _) (arrF_size _ _ _) (arrF_one _ _ _) ?_; intro W4 hO4 hB4))
  refine ret_blk2 Tryz.results9 _ _ _ _ rfl hB4 Tryz.underlying31 rfl 4 size25 (arrF_size _ _ _) rfl ⟨rfl, Only.below (bel_then (below_alloc (Below.refl _ _) _) hb1) hO4 (Nat.le_refl _)⟩
theorem number_form (s t : ByteArray) (w : World) (hs : s.size ≤ 100000) (h : s.size = 0 ∨ (bytesOf s).all isDig = false) (hcut : ∀ W, Calls Tryz.prog 21 #[.string s, .string ⟨#[48, 120]⟩] W fun e w' => e = .returned (.tuple #[.string t, .bool false]) ∧ W = w') :
    Calls Tryz.prog 9 #[.string s] w fun e w' => e = .returned (.tuple #[wordF (limbF 0), .int .i64 2]) ∧ Below w.heap.size w w' := by
  have HCUT := Lib.hid hcut
  have ZL : Hid (arrF .u64 4 (limbF 0) = arrF .u64 4 fun _ => 0) := arrF_ext fun i _ => by simp [limbF]
  have hz := zero25
  clear hcut
  unfold wordF
  rw [ZL.out]
  by_cases h0 : s.size = 0
  · have n0 : s.toList.isEmpty = true := by
      have : s = ⟨#[]⟩ := by
        cases s with | mk a => congr 1; exact Array.eq_empty_of_size_eq_zero h0
      subst this; unfold ByteArray.toList ByteArray.toList.loop; rfl
    clear h h0
    go_enter Tryz.func9, Tryz.ntmps9
    go_wp2_with (first | (go_at_call 21; refine (HCUT.out _).mono ?_; rintro e w' ⟨rfl, rfl⟩) | ((with_reducible refine gate_op (.store 31 (.tmp 2) (.tmp 28)) rfl ?_); refine wpl_store_blk rfl 31 (.tmp 2) (.tmp 28) rfl _ rfl _ _ _ rfl (Blk.new _ _ _) 4 size25 (arrF_size _ _ _) (arrF_size _ _ _) (arrF_one _ _ _) ?_; intro W4 hO4 hB4))
    refine ret_blk2 Tryz.results9 _ _ _ _ rfl hB4 Tryz.underlying31 rfl 4 size25 (arrF_size _ _ _) rfl ⟨rfl, Only.below (below_alloc (Below.refl _ _) _) hO4 (Nat.le_refl _)⟩
  · have n0 := toList_ne (Nat.pos_of_ne_zero h0)
    have hd : (bytesOf s).all isDig = false := by
      rcases h with h | h
      · exact absurd h h0
      · exact h
    have HTR : Hid (∀ W, Calls Tryz.prog 23 #[.string s, .string ⟨#[48, 49, 50, 51, 52, 53, 54, 55, 56, 57]⟩] W fun e w' => ∃ t, e = .returned (.string t) ∧ t.toList.isEmpty = false ∧ Below W.heap.size W w') := fun W => by
      refine (trimdig_any s W (by omega)).mono ?_
      rintro e w' ⟨t, rfl, h, hb⟩
      refine ⟨t, rfl, toList_ne ?_, hb⟩
      rcases Nat.eq_zero_or_pos t.size with h1 | h1
      · rw [h.1 h1] at hd; cases hd
      · exact h1
    clear h h0 hd
    go_enter Tryz.func9, Tryz.ntmps9
    go_wp2_with (first | (go_at_call 21; refine (HCUT.out _).mono ?_; rintro e w' ⟨rfl, rfl⟩) | (go_at_call 23; refine (HTR.out _).mono ?_; rintro e w1 ⟨t1, rfl, ht1, hb1⟩) | ((with_reducible refine gate_op (.store 31 (.tmp 2) (.tmp 28)) rfl ?_); refine wpl_store_blk rfl 31 (.tmp 2) (.tmp 28) rfl _ rfl _ _ _ rfl ((Blk.new _ _ _).below hb1) 4 size25 (arrF_size _ _ _) (arrF_size _ _ _) (arrF_one _ _ _) ?_; intro W4 hO4 hB4))
    refine ret_blk2 Tryz.results9 _ _ _ _ rfl hB4 Tryz.underlying31 rfl 4 size25 (arrF_size _ _ _) rfl ⟨rfl, Only.below (bel_then (below_alloc (Below.refl _ _) _) hb1) hO4 (Nat.le_refl _)⟩
theorem number_long (s t : ByteArray) (w : World) (hs : s.size ≤ 100000) (h78 : 78 < s.size) (hd : (bytesOf s).all isDig = true) (hcut : ∀ W, Calls Tryz.prog 21 #[.string s, .string ⟨#[48, 120]⟩] W fun e w' => e = .returned (.tuple #[.string t, .bool false]) ∧ W = w') :
    Calls Tryz.prog 9 #[.string s] w fun e w' => e = .returned (.tuple #[wordF (limbF 0), .int .i64 5]) ∧ Below w.heap.size w w' := by
  have HCUT := Lib.hid hcut
  have ZL : Hid (arrF .u64 4 (limbF 0) = arrF .u64 4 fun _ => 0) := arrF_ext fun i _ => by simp [limbF]
  have hz := zero25
  have n0 := toList_ne (show 0 < s.size by omega)
  have HTR : Hid (∀ W, Calls Tryz.prog 23 #[.string s, .string ⟨#[48, 49, 50, 51, 52, 53, 54, 55, 56, 57]⟩] W fun e w' => ∃ t, e = .returned (.string t) ∧ t.toList.isEmpty = true ∧ Below W.heap.size W w') := fun W => by
    refine (trimdig_any s W (by omega)).mono ?_
    rintro e w' ⟨t, rfl, h, hb⟩
    have h2 := h.2 hd
    have : t = ⟨#[]⟩ := by
      cases t with | mk a => congr 1; exact Array.eq_empty_of_size_eq_zero h2
    exact ⟨t, rfl, by subst this; unfold ByteArray.toList ByteArray.toList.loop; rfl, hb⟩
  have q : (78 : Int) < (s.size : Int) := by omega
  clear hcut hd h78 hs
  unfold wordF
  rw [ZL.out]
  go_enter Tryz.func9, Tryz.ntmps9
  go_wp2_with (first | (go_at_call 21; refine (HCUT.out _).mono ?_; rintro e w' ⟨rfl, rfl⟩) | (go_at_call 23; refine (HTR.out _).mono ?_; rintro e w1 ⟨t1, rfl, ht1, hb1⟩) | ((with_reducible refine gate_op (.store 31 (.tmp 2) (.tmp 32)) rfl ?_); refine wpl_store_blk rfl 31 (.tmp 2) (.tmp 32) rfl _ rfl _ _ _ rfl ((Blk.new _ _ _).below hb1) 4 size25 (arrF_size _ _ _) (arrF_size _ _ _) (arrF_one _ _ _) ?_; intro W4 hO4 hB4))
  refine ret_blk2 Tryz.results9 _ _ _ _ rfl hB4 Tryz.underlying31 rfl 4 size25 (arrF_size _ _ _) rfl ⟨rfl, Only.below (bel_then (below_alloc (Below.refl _ _) _) hb1) hO4 (Nat.le_refl _)⟩
/-- asm.Number. -/
theorem number_any (s : ByteArray) (hs : s.size ≤ 100000) (w : World) :
    Calls Tryz.prog 9 #[.string s] w fun e w' => e = .returned (.tuple #[wordF (limbF (numVal (bytesOf s))), .int .i64 (numErr (bytesOf s))]) ∧ Below w.heap.size w w' := by
  cases hr : rest0x (bytesOf s) with
  | some r =>
    obtain ⟨t, ht, htr, hsz⟩ := rest0x_some hr
    have hp : Lib.hasPrefix s.data.toList [48, 120] = true := by rw [hasPrefix_0x, hr]; rfl
    rw [numVal_six hr, numErr_six hr, ← ht]
    exact number_six s t w (by omega) (fun W => cut_yes htr hp W)
  | none =>
    have hp : Lib.hasPrefix s.data.toList [48, 120] = false := by rw [hasPrefix_0x, hr]; rfl
    have hcut : ∀ W, Calls Tryz.prog 21 #[.string s, .string ⟨#[48, 120]⟩] W fun e w' => e = .returned (.tuple #[.string ⟨(Lib.trimPrefix s.data.toList [48, 120]).toArray⟩, .bool false]) ∧ W = w' := fun W =>
      (Tryz.strings_CutPrefix s ⟨#[48, 120]⟩ W).mono fun e w' ⟨he, hw⟩ => ⟨he.trans (by show Ending.returned (.tuple #[.string ⟨(Lib.trimPrefix s.data.toList [48, 120]).toArray⟩, .bool (Lib.hasPrefix s.data.toList [48, 120])]) = _; rw [hp]), hw.symm⟩
    have e1 : numErr (bytesOf s) = if bytesOf s = [] ∨ (bytesOf s).all isDig = false then 2 else if 78 < (bytesOf s).length ∨ M256 ≤ dnum (bytesOf s) then 5 else 0 := by unfold numErr; rw [hr]
    have e2 : numVal (bytesOf s) = if numErr (bytesOf s) ≠ 0 then 0 else dnum (bytesOf s) := by unfold numVal; rw [hr]
    have hlen := bytesOf_length s
    by_cases h : s.size = 0 ∨ (bytesOf s).all isDig = false
    · have e3 : numErr (bytesOf s) = 2 := by
        rw [e1, if_pos]
        rcases h with h | h
        · exact .inl (List.eq_nil_of_length_eq_zero (by omega))
        · exact .inr h
      rw [e2, e3, if_pos (by decide)]
      exact number_form s _ w hs h hcut
    · have hno : ¬ (bytesOf s = [] ∨ (bytesOf s).all isDig = false) := by
        rintro (h1 | h1)
        · exact h (.inl (by rw [← hlen, h1]; rfl))
        · exact h (.inr h1)
      have hd : (bytesOf s).all isDig = true := by
        cases hb : (bytesOf s).all isDig with
        | true => rfl
        | false => exact absurd (.inr hb) hno
      rw [if_neg hno, hlen] at e1
      by_cases h78 : 78 < s.size
      · have e3 : numErr (bytesOf s) = 5 := by rw [e1, if_pos (.inl h78)]
        rw [e2, e3, if_pos (by decide)]
        exact number_long s _ w hs h78 hd hcut
      · have h0 : 0 < s.size := Nat.pos_of_ne_zero fun e => h (.inl e)
        have := dec_loop s w hd h0 h78 _ hcut _ _ rfl rfl
        by_cases hm : M256 ≤ dnum (bytesOf s)
        · have e3 : numErr (bytesOf s) = 5 := by rw [e1, if_pos (.inr hm)]
          rw [if_pos hm, if_pos hm] at this
          rw [e2, e3, if_pos (by decide)]
          exact this
        · have e3 : numErr (bytesOf s) = 0 := by
            rw [e1, if_neg]
            rintro (h1 | h1)
            · exact h78 h1
            · exact hm h1
          rw [if_neg hm, if_neg hm] at this
          rw [e2, e3, if_neg (by decide)]
          exact this
end Go.Proofs.YtibhijjmmagdcaaGreatDoor
