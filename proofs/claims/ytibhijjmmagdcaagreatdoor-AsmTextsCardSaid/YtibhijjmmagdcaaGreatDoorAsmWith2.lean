/- asm's maker: with, behind its tests of the name, walked. -/
import Derived.Test.YtibhijjmmagdcaaGreatDoorAsmMaker
namespace Go.Proofs.YtibhijjmmagdcaaGreatDoor
set_option linter.unusedVariables false
set_option linter.unusedSimpArgs false
open Go.RowKit Go.Proofs.YtibhijjmmagdcaaGreatDoorW.PrintWords Go.Proofs.YtibhijjmmagdcaaGreatDoorW.PrintLast
theorem three_cells (w : World) {g0 : Nat} (hg0 : g0 = w.heap.size) : ∀ j u, (nums .u8 [97, 0, 0])[j]? = some u → (w.alloc (.cells #[.int .u8 97, .int .u8 0, .int .u8 0] 5)).cell? ((⟨g0, 0, none⟩ : Addr).add j) = some u := by
  subst hg0
  intro j u hj
  rw [add_plain, (Blk.new w _ _).cell, ← Array.getElem?_toList]
  exact hj
theorem use_cells (w : World) (a b : Int) (l : List Int) : ∀ j u, (useCells [(a, b, l)])[j]? = some u → (w.alloc (.cells #[.int .i64 a, .int .i64 b, .string (strOfNums l)] 60)).cell? ((⟨w.heap.size, 0, none⟩ : Addr).add j) = some u := by
  intro j u hj
  rw [add_plain, (Blk.new w _ _).cell, ← Array.getElem?_toList]
  exact hj
theorem tail_size {l : List Int} {n : Nat} (h : l.length ≤ n) : (strOfNums l.tail).size ≤ n := by rw [strOfNums_size]; simp; omega
def WithS (w : World) (base g : Nat) (vc : Value) (bl : Nat) (vu : Value) (bn : Nat) (st : MkF) (N : Nat) (W : World) : Prop := MkP W base g vc bl vu bn st N ∧ Below base w W ∧ KeepM w W ∧ base ≤ W.heap.size
theorem WithS.below {w W W1 : World} {base g bl bn N : Nat} {vc vu : Value} {st : MkF} (h : WithS w base g vc bl vu bn st N W) (hb : Below W.heap.size W W1) : WithS w base g vc bl vu bn st N W1 :=
  ⟨h.1.below hb, below_low h.2.1 h.2.2.2 hb, h.2.2.1.below hb, Nat.le_trans h.2.2.2 hb.size⟩
theorem WithS.alloc {w W : World} {base g bl bn N : Nat} {vc vu : Value} {st : MkF} (h : WithS w base g vc bl vu bn st N W) (o : Obj) : WithS w base g vc bl vu bn st N (W.alloc o) := h.below (below_alloc (Below.refl _ _) o)
theorem WithS.drew {w W : World} {base g bl bn N : Nat} {vc vu : Value} {st : MkF} (h : WithS w base g vc bl vu bn st N W) : WithS w base g vc bl vu bn st N W.drew := h.below (bel_drew (Below.refl _ _))
theorem WithS.code {w W W1 : World} {base g bl bn N : Nat} {vc vu : Value} {st : MkF} (h : WithS w base g vc bl vu bn st N W) {v1 : Value} {c1 : List Int} (ho : OwnB W1 base v1 c1) (hg : W.grownBy W1 vc.ownBlock) (hl : c1.length ≤ 40 * N) : WithS w base g v1 bl vu bn { st with code := c1 } N (W1.setCell ⟨g, 0, none⟩ v1) :=
  ⟨h.1.setCode ho hg hl, below_code h.1 h.2.1 h.2.2.2 hg _, keep_code h.1 h.2.2.1 hg _, by have := hg.size; have := h.2.2.2; simp; omega⟩
theorem WithS.uses {w W W1 : World} {base g bl bn N : Nat} {vc vu : Value} {st : MkF} (h : WithS w base g vc bl vu bn st N W) {v1 : Value} {c1 : List (Int × Int × List Int)} (ho : OwnU W1 base v1 c1) (hg : W.grownBy W1 vu.ownBlock) (hl : c1.length ≤ N) : WithS w base g vc bl v1 bn { st with uses := c1 } N (W1.setCell ⟨g, 2, none⟩ v1) :=
  ⟨h.1.setUses ho hg hl, below_uses h.1 h.2.1 h.2.2.2 hg _, keep_uses h.1 h.2.2.1 hg _, by have := hg.size; have := h.2.2.2; simp; omega⟩
theorem WithS.out {w W : World} {base g bl bn N : Nat} {vc vu : Value} {st : MkF} (h : WithS w base g vc bl vu bn st N W) {r : Int} {e : Ending} (he : e = .returned (.int .i64 r)) : MkOut w base g (r, st) N e W := ⟨he, ⟨_, _, _, _, h.1⟩, h.2.1, h.2.2.1, h.2.2.2⟩
theorem WithS.more {w W : World} {base g bl bn N : Nat} {vc vu : Value} {st : MkF} (h : WithS w base g vc bl vu bn st N W) : WithS w base g vc bl vu bn st (N + 1) W := ⟨h.1.more (by omega), h.2⟩
theorem OwnU.len {w : World} {base n c : Nat} {A : Option Addr} {l : List (Int × Int × List Int)} (h : OwnU w base (.slice A l.length c) l) (e : l.length = n) : OwnU w base (.slice A n c) l := e ▸ h
theorem wpl_append_bytes {ops : Array Oper} {rest : List Oper} {o : Oper} {a : Act} {Q : Exit → Act → World → Prop} {W : World} (base : Nat) (hgd : o.guard = none) (s x : Operand) (ho : o.op = .call { callee := .builtin .append, args := #[s, x], argTypes := #[22, 22] }) {v : Value} (l : List Int) (hs : a.eval s = v) (hO : OwnB W base v l)
    {ad : Addr} {c : Nat} (ms : List Int) (hx : a.eval x = .slice (some ad) ms.length c) (hcells : ∀ j u, (nums .u8 ms)[j]? = some u → W.cell? (ad.add j) = some u) (hlen : l.length + ms.length ≤ 8000000) (hbase : base ≤ W.heap.size)
    (h : ∀ v' w', OwnB w' base v' (l ++ ms) → W.grownBy w' v.ownBlock → wpList Tryz.prog ops Q rest (a.put o.dst v') w') : wpList Tryz.prog ops Q (o :: rest) a W :=
  wpList_plain hgd fun K' hK' => op_append_bytes s x ho hs hO hx hcells hlen hbase fun v' w' h1 h2 => hK' _ _ (h v' w' h1 h2)
set_option maxHeartbeats 1000000 in
set_option maxRecDepth 100000 in
theorem with_use (n : Int) (what : ByteArray) (hs : what.size ≤ 100000) (h64 : (bytesOf what).head? = some 64) (w : World) (base g bl bn N : Nat) (vc vu : Value) (st : MkF) (h : MkP w base g vc bl vu bn st N) (hbs : base ≤ w.heap.size) (hN : N ≤ 100000) :
    Calls Tryz.prog 45 #[.pointer (some ⟨g, 0, none⟩), .int .i64 n, .string ⟨#[80, 85, 83, 72]⟩, .string what] w fun e w' => MkOut w base g (withT n PUSH (bytesOf what) st) (N + 1) e w' := by
  obtain ⟨A, c, rfl⟩ := mk_slice h
  obtain ⟨Au, cu, rfl⟩ := own_slice h.uses
  have hpu := pushes_any ⟨#[80, 85, 83, 72]⟩ (by decide) w base g bl bn N _ _ st h
  have HPU : Hid (Calls Tryz.prog 76 #[.pointer (some ⟨g, 0, none⟩), .string ⟨#[80, 85, 83, 72]⟩] w fun e w' => e = .returned (.tuple #[.int .i64 0, .bool true]) ∧ w = w') := hpu
  have HCU : Hid (∀ W, Calls Tryz.prog 21 #[.string what, .string ⟨#[64]⟩] W fun e w' => e = .returned (.tuple #[.string (strOfNums (bytesOf what).tail), .bool true]) ∧ W = w') := fun W => by
    refine (cutat_any what W).mono ?_
    rintro e w' ⟨t, rfl, ht, rfl⟩
    exact ⟨by rw [ht h64, h64]; rfl, rfl⟩
  have c3 := h.cell3
  have lk := NM.ask h.names ⟨#[80, 85, 83, 72]⟩ (by decide)
  have HW : Hid (WithS w base g (.slice A st.code.length c) bl (.slice Au st.uses.length cu) bn st N w) := ⟨h, Below.refl _ _, KeepM.refl _, hbs⟩
  have HLC := Lib.hid h.lc
  have HLU := Lib.hid h.lu
  have htl : bytesOf (strOfNums (bytesOf what).tail) = (bytesOf what).tail := bytesOf_strOfNums fun x hx => bytesOf_byte what x (List.mem_of_mem_tail hx)
  have hna := fun W => named_any (strOfNums (bytesOf what).tail) W
  rw [htl] at hna
  have hcl : st.code.length ≤ 4000000 := by have := h.lc; omega
  have hul : st.uses.length ≤ 100000 := by have := h.lu; omega
  have hcl' : (st.code.length : Int) ≤ 4000000 := by omega
  have e0 : withT n PUSH (bytesOf what) st = if namedF (bytesOf what).tail then (0, { st with uses := st.uses ++ [((st.code.length : Int) + 1, n, (bytesOf what).tail)], code := st.code ++ [97, 0, 0] }) else (2, st) := if_pos ⟨rfl, h64⟩
  obtain ⟨tl, htl'⟩ : ∃ tl, (bytesOf what).tail = tl := ⟨_, rfl⟩
  rw [htl'] at hna e0 HCU
  clear h hpu h64 htl htl'
  cases hn : namedF tl with
  | false =>
    rw [hn] at hna e0
    have HE : Hid (withT n PUSH (bytesOf what) st = (2, st)) := e0.trans (if_neg (by decide))
    have HNA := Lib.hid hna
    rw [HE.out]
    clear e0 hn hna
    go_enter Tryz.func45, Tryz.ntmps45
    go_wp2_with (first | (go_at_call 76; refine HPU.out.mono ?_; rintro e w1 ⟨rfl, rfl⟩) | (go_at_call 21; refine (HCU.out _).mono ?_; rintro e w2 ⟨rfl, rfl⟩) | (go_at_call 74; refine (HNA.out _).mono ?_; rintro e w3 ⟨rfl, hb3⟩))
    go_ret
    exact (HW.out.below hb3).more.out rfl
  | true =>
    rw [hn] at hna e0
    have HE : Hid (withT n PUSH (bytesOf what) st = (0, { st with uses := st.uses ++ [((st.code.length : Int) + 1, n, tl)], code := st.code ++ [97, 0, 0] })) := e0.trans (if_pos rfl)
    have HNA := Lib.hid hna
    rw [HE.out]
    clear e0 hn hna
    go_enter Tryz.func45, Tryz.ntmps45
    go_wp2_with (first | (go_at_call 76; refine HPU.out.mono ?_; rintro e w1 ⟨rfl, rfl⟩) | (go_at_call 21; refine (HCU.out _).mono ?_; rintro e w2 ⟨rfl, rfl⟩) | (go_at_call 74; refine (HNA.out _).mono ?_; rintro e w3 ⟨rfl, hb3⟩))
    refine start_ (n := 19) (S := WithS w base g (.slice A st.code.length c) bl (.slice Au st.uses.length cu) bn st N) (ds := [15, 18]) #[false, false, false, false, false, false, false, false, false, false, false, false, false, false, false, false, false, false, false] (by kernel_rfl) rfl rfl (HW.out.below hb3).drew (fun hHeld => ?_)
    refine gen_last hHeld ?_
    clear hHeld
    intro wd hHeld
    refine pure_ (i := 0) (N := some 62) (v := ?_) (a' := ?_) #[true, false, false, false, false, false, false, false, false, false, false, false, false, false, false, false, false, false, false] rfl rfl (by kernel_rfl) (fun _ _ _ h => h) (Or.inl ⟨by rfl, ?_⟩) ?_ ?_
    rotate_left
    · intro w2
      (go_simp; (try go_bits); with_reducible rfl)
    rotate_left
    · simp only [Act.put, List.setIfInBounds_toArray, List.set_cons_zero, List.set_cons_succ, i64_w, i32_w]
      rfl
    refine pure_ (i := 1) (N := some 63) (v := ?_) (a' := ?_) #[true, true, false, false, false, false, false, false, false, false, false, false, false, false, false, false, false, false, false] rfl rfl (by kernel_rfl) (fun _ _ _ h => h) (Or.inl ⟨by rfl, ?_⟩) ?_ ?_
    rotate_left
    · intro w2
      (go_simp; (try go_bits); with_reducible rfl)
    rotate_left
    · simp only [Act.put, List.setIfInBounds_toArray, List.set_cons_zero, List.set_cons_succ, i64_w, i32_w]
      rfl
    refine pure_ (i := 2) (N := some 64) (v := ?_) (a' := ?_) #[true, true, true, false, false, false, false, false, false, false, false, false, false, false, false, false, false, false, false] rfl rfl (by kernel_rfl) (fun _ _ _ h => h) (Or.inl ⟨by rfl, ?_⟩) ?_ ?_
    rotate_left
    · intro w2
      (go_simp; (try go_bits); with_reducible rfl)
    rotate_left
    · simp only [Act.put, List.setIfInBounds_toArray, List.set_cons_zero, List.set_cons_succ, i64_w, i32_w]
      rfl
    refine pure_ (i := 3) (N := some 65) (v := ?_) (a' := ?_) #[true, true, true, true, false, false, false, false, false, false, false, false, false, false, false, false, false, false, false] rfl rfl (by kernel_rfl) (fun _ _ _ h => h) (Or.inl ⟨by rfl, ?_⟩) ?_ ?_
    rotate_left
    · intro w2
      (go_simp; (try go_bits); with_reducible rfl)
    rotate_left
    · simp only [Act.put, List.setIfInBounds_toArray, List.set_cons_zero, List.set_cons_succ, i64_w, i32_w]
      rfl
    refine pure_ (i := 5) (N := some 67) (v := ?_) (a' := ?_) #[true, true, true, true, false, true, false, false, false, false, false, false, false, false, false, false, false, false, false] rfl rfl (by kernel_rfl) (fun _ _ _ h => h) (Or.inl ⟨by rfl, ?_⟩) ?_ ?_
    rotate_left
    · intro w2
      (go_simp; (try go_bits); with_reducible rfl)
    rotate_left
    · simp only [Act.put, List.setIfInBounds_toArray, List.set_cons_zero, List.set_cons_succ, i64_w, i32_w]
      rfl
    refine pure_ (i := 6) (N := some 68) (v := ?_) (a' := ?_) #[true, true, true, true, false, true, true, false, false, false, false, false, false, false, false, false, false, false, false] rfl rfl (by kernel_rfl) (fun _ _ _ h => h) (Or.inl ⟨by rfl, ?_⟩) ?_ ?_
    rotate_left
    · intro w2
      (go_simp; (try go_bits); with_reducible rfl)
    rotate_left
    · simp only [Act.put, List.setIfInBounds_toArray, List.set_cons_zero, List.set_cons_succ, i64_w, i32_w]
      rfl
    refine pure_ (i := 7) (N := some 69) (v := ?_) (a' := ?_) #[true, true, true, true, false, true, true, true, false, false, false, false, false, false, false, false, false, false, false] rfl rfl (by kernel_rfl) (fun _ _ _ h => h) (Or.inl ⟨by rfl, ?_⟩) ?_ ?_
    rotate_left
    · intro w2
      (go_simp; (try go_bits); with_reducible rfl)
    rotate_left
    · simp only [Act.put, List.setIfInBounds_toArray, List.set_cons_zero, List.set_cons_succ, i64_w, i32_w]
      rfl
    refine pure_ (i := 11) (N := some 73) (v := ?_) (a' := ?_) #[true, true, true, true, false, true, true, true, false, false, false, true, false, false, false, false, false, false, false] rfl rfl (by kernel_rfl) (fun _ _ _ h => h) (Or.inl ⟨by rfl, ?_⟩) ?_ ?_
    rotate_left
    · intro w2
      (go_simp; (try go_bits); with_reducible rfl)
    rotate_left
    · simp only [Act.put, List.setIfInBounds_toArray, List.set_cons_zero, List.set_cons_succ, i64_w, i32_w]
      rfl
    refine pure_ (i := 12) (N := some 74) (v := ?_) (a' := ?_) #[true, true, true, true, false, true, true, true, false, false, false, true, true, false, false, false, false, false, false] rfl rfl (by kernel_rfl) (fun _ _ _ h => h) (Or.inl ⟨by rfl, ?_⟩) ?_ ?_
    rotate_left
    · intro w2
      (go_simp; (try go_bits); with_reducible rfl)
    rotate_left
    · simp only [Act.put, List.setIfInBounds_toArray, List.set_cons_zero, List.set_cons_succ, i64_w, i32_w]
      rfl
    refine take_ (i := 4) (N := some 66) (v := ?_) (a' := ?_) #[true, true, true, true, true, true, true, true, false, false, false, true, true, false, false, false, false, false, false] rfl rfl (by kernel_rfl) (fun _ _ _ h => h) (Or.inl ⟨by rfl, ?_⟩) hHeld ?_ ?_
    rotate_left
    · intro w2 hS2
      have c0 := hS2.1.cell0
      have c2 := hS2.1.cell2
      (go_simp; (try go_bits); with_reducible rfl)
    rotate_left
    · simp only [Act.put, List.setIfInBounds_toArray, List.set_cons_zero, List.set_cons_succ, i64_w, i32_w]
      rfl
    refine take_ (i := 8) (N := some 70) (v := ?_) (a' := ?_) #[true, true, true, true, true, true, true, true, true, false, false, true, true, false, false, false, false, false, false] rfl rfl (by kernel_rfl) (fun _ _ _ h => h) (Or.inl ⟨by rfl, ?_⟩) hHeld ?_ ?_
    rotate_left
    · intro w2 hS2
      have c0 := hS2.1.cell0
      have c2 := hS2.1.cell2
      (go_simp; (try go_bits); with_reducible rfl)
    rotate_left
    · simp only [Act.put, List.setIfInBounds_toArray, List.set_cons_zero, List.set_cons_succ, i64_w, i32_w]
      rfl
    refine pure_ (i := 9) (N := some 71) (v := ?_) (a' := ?_) #[true, true, true, true, true, true, true, true, true, true, false, true, true, false, false, false, false, false, false] rfl rfl (by kernel_rfl) (fun _ _ _ h => h) (Or.inl ⟨by rfl, ?_⟩) ?_ ?_
    rotate_left
    · intro w2
      (go_simp; (try go_bits); with_reducible rfl)
    rotate_left
    · simp only [Act.put, List.setIfInBounds_toArray, List.set_cons_zero, List.set_cons_succ, i64_w, i32_w]
      rfl
    refine pure_ (i := 10) (N := some 72) (v := ?_) (a' := ?_) #[true, true, true, true, true, true, true, true, true, true, true, true, true, false, false, false, false, false, false] rfl rfl (by kernel_rfl) (fun _ _ _ h => h) (Or.inl ⟨by rfl, ?_⟩) ?_ ?_
    rotate_left
    · intro w2
      (go_simp; (try go_bits); with_reducible rfl)
    rotate_left
    · simp only [Act.put, List.setIfInBounds_toArray, List.set_cons_zero, List.set_cons_succ, i64_w, i32_w]
      rfl
    refine pure_ (i := 13) (N := some 75) (v := ?_) (a' := ?_) #[true, true, true, true, true, true, true, true, true, true, true, true, true, true, false, false, false, false, false] rfl rfl (by kernel_rfl) (fun _ _ _ h => h) (Or.inl ⟨by rfl, ?_⟩) ?_ ?_
    rotate_left
    · intro w2
      (go_simp; (try go_bits); with_reducible rfl)
    rotate_left
    · simp only [Act.put, List.setIfInBounds_toArray, List.set_cons_zero, List.set_cons_succ, i64_w, i32_w]
      rfl
    refine one_ (i := 14) (N := some 76) #[true, true, true, true, true, true, true, true, true, true, true, true, true, true, true, false, false, false, false] rfl rfl (by kernel_rfl) (by decide) (fun K hK => ?_)
    go_simp
    try go_bits
    skip
    refine hK.out _ _ (hHeld.alloc _) (fun hHeld => ?_)
    clear hK K
    refine norm_ (a' := ?_) ?_ ?_
    rotate_left
    · first | rfl | (simp only [Act.put, List.setIfInBounds_toArray, List.set_cons_zero, List.set_cons_succ, i64_w, i32_w]; rfl)
    refine last_ (i := 15) (N := some 77) #[true, true, true, true, true, true, true, true, true, true, true, true, true, true, true, true, false, false, false] rfl rfl (by kernel_rfl) (by decide) (fun K hK => ?_)
    refine ifw rfl ?_
    refine op_append_use (.tmp 66) (.tmp 76) rfl (l := st.uses) rfl hHeld.1.uses ((st.code.length : Int) + 1, n, tl) rfl (use_cells _ _ _ _) (by omega) hHeld.2.2.2 ?_
    intro v6 w6 ho6 hg6
    obtain ⟨A6, c6, rfl⟩ := own_slice ho6
    have z0 : w6.cell? ⟨g, 2, none⟩ = some (.slice Au st.uses.length cu) := (hHeld.1.blkUses hg6).cell 2
    have z1 := (hHeld.1.blkUses hg6).frozen 2
    refine hK.out _ _ ?_
    clear hK K
    refine norm_ (a' := ?_) ?_ ?_
    rotate_left
    · first | rfl | (simp only [Act.put, List.setIfInBounds_toArray, List.set_cons_zero, List.set_cons_succ, i64_w, i32_w]; rfl)
    refine pure_ (i := 16) (N := some 78) (v := ?_) (a' := ?_) #[true, true, true, true, true, true, true, true, true, true, true, true, true, true, true, true, true, false, false] rfl rfl (by kernel_rfl) (fun _ _ _ h => h) (Or.inl ⟨by rfl, ?_⟩) ?_ ?_
    rotate_left
    · intro w2
      (go_simp; (try go_bits); with_reducible rfl)
    rotate_left
    · simp only [Act.put, List.setIfInBounds_toArray, List.set_cons_zero, List.set_cons_succ, i64_w, i32_w]
      rfl
    refine pure_ (i := 17) (N := some 79) (v := ?_) (a' := ?_) #[true, true, true, true, true, true, true, true, true, true, true, true, true, true, true, true, true, true, false] rfl rfl (by kernel_rfl) (fun _ _ _ h => h) (Or.inl ⟨by rfl, ?_⟩) ?_ ?_
    rotate_left
    · intro w2
      (go_simp; (try go_bits); with_reducible rfl)
    rotate_left
    · simp only [Act.put, List.setIfInBounds_toArray, List.set_cons_zero, List.set_cons_succ, i64_w, i32_w]
      rfl
    refine last_ (i := 18) (N := none) #[true, true, true, true, true, true, true, true, true, true, true, true, true, true, true, true, true, true, true] rfl rfl (by kernel_rfl) (by decide) (fun K hK => ?_)
    (go_simp)
    refine hK.out _ _ ?_
    clear hK K
    refine norm_ (a' := ?_) ?_ ?_
    rotate_left
    · first | rfl | (simp only [Act.put, List.setIfInBounds_toArray, List.set_cons_zero, List.set_cons_succ, i64_w, i32_w]; rfl)
    refine done_ (by kernel_rfl) ?_
    have hW2 : WithS w base g (.slice A st.code.length c) bl (.slice A6 (st.uses.length + 1) c6) bn { st with uses := st.uses ++ [((st.code.length : Int) + 1, n, tl)] } (N + 1) (w6.setCell ⟨g, 2, none⟩ (.slice A6 (st.uses.length + 1) c6)) := hHeld.more.uses (OwnU.len ho6 (by simp)) hg6 (by have := HLU.out; simp; omega)
    have HW2 := Lib.hid hW2
    have c0 := hW2.1.cell0
    clear hW2 ho6 hg6 hHeld z0 z1 c3 lk
    go_wp2_with (at_builtin; refine wpl_append_bytes base rfl (.tmp 84) (.tmp 85) rfl st.code rfl (HW2.out.alloc _).1.code [97, 0, 0] rfl (three_cells _ (by simp)) (by simp; omega) (HW2.out.alloc _).2.2.2 ?_; intro v7 w7 ho7 hg7; obtain ⟨A7, c7, rfl, _⟩ := own_slice_of ho7; have z0 : w7.cell? ⟨g, 0, none⟩ = some (.slice A st.code.length c) := ((HW2.out.alloc _).1.blkCode hg7).cell 0; have z1 := ((HW2.out.alloc _).1.blkCode hg7).frozen 0)
    go_ret
    exact ((HW2.out.alloc _).code (OwnB.len ho7 (by simp)) hg7 (by have := HLC.out; simp; omega)).out rfl
set_option maxHeartbeats 1000000 in
set_option maxRecDepth 100000 in
theorem with_num (n : Int) (nm what : ByteArray) (hsn : nm.size ≤ 100000) (hs : what.size ≤ 100000) (w : World) (base g bl bn N : Nat) (vc vu : Value) (st : MkF) (h : MkP w base g vc bl vu bn st N) (hbs : base ≤ w.heap.size) (hN : N ≤ 100000)
    (hp : (pushesF (bytesOf nm)).isSome ∨ nm = ⟨#[66, 89, 84, 69, 49]⟩) (hno : ¬ (bytesOf nm = PUSH ∧ (bytesOf what).head? = some 64)) :
    Calls Tryz.prog 45 #[.pointer (some ⟨g, 0, none⟩), .int .i64 n, .string nm, .string what] w fun e w' => MkOut w base g (withT n (bytesOf nm) (bytesOf what) st) (N + 1) e w' := by
  obtain ⟨A, c, rfl⟩ := mk_slice h
  have hpu := pushes_any nm hsn w base g bl bn N _ _ st h
  have HCU : Hid (∀ W, Calls Tryz.prog 21 #[.string what, .string ⟨#[64]⟩] W fun e w' => ∃ t, e = .returned (.tuple #[.string t, .bool (decide ((bytesOf what).head? = some 64))]) ∧ W = w') := fun W => by
    refine (cutat_any what W).mono ?_
    rintro e w' ⟨t, rfl, _, rfl⟩
    exact ⟨t, rfl, rfl⟩
  have key : decide ((bytesOf what).head? = some 64) = false ∨ (decide ((bytesOf what).head? = some 64) = true ∧ (nm.toList == [80, 85, 83, 72]) = false) := by
    by_cases h64 : (bytesOf what).head? = some 64
    · refine .inr ⟨decide_eq_true h64, str_ne (l := [80, 85, 83, 72]) fun e => hno ⟨?_, h64⟩⟩
      rw [e]; rfl
    · exact .inl (decide_eq_false h64)
  obtain ⟨b64, hb64⟩ : ∃ b, decide ((bytesOf what).head? = some 64) = b := ⟨_, rfl⟩
  rw [hb64] at HCU key
  have c3 := h.cell3
  have lk := NM.ask h.names nm (by unfold maxLen; omega)
  have HW : Hid (WithS w base g (.slice A st.code.length c) bl vu bn st N w) := ⟨h, Below.refl _ _, KeepM.refl _, hbs⟩
  have HLC := Lib.hid h.lc
  have hcl : st.code.length ≤ 4000000 := by have := h.lc; omega
  have HNU : Hid (∀ W, Calls Tryz.prog 9 #[.string what] W fun e w' => e = .returned (.tuple #[wordF (limbF (numVal (bytesOf what))), .int .i64 (numErr (bytesOf what))]) ∧ Below W.heap.size W w') := fun W => number_any what hs W
  have hvr := numVal_range (bytesOf what)
  have e0 : withT n (bytesOf nm) (bytesOf what) st = if numErr (bytesOf what) ≠ 0 then (numErr (bytesOf what), st) else match pushesF (bytesOf nm) with | none => if 1 < sizeN (numVal (bytesOf what)) then (5, st) else (0, { st with code := st.code ++ [numVal (bytesOf what)] }) | some k => pushF k.toNat (numVal (bytesOf what)) st := if_neg hno
  have hz := zero25
  have hev := numErr_vals (bytesOf what)
  obtain ⟨er, her⟩ : ∃ er, numErr (bytesOf what) = er := ⟨_, rfl⟩
  obtain ⟨v, hv⟩ : ∃ v, numVal (bytesOf what) = v := ⟨_, rfl⟩
  rw [her] at HNU e0 hev
  rw [hv] at HNU e0 hvr
  clear h hb64 her hv hno
  unfold wordF at HNU
  by_cases he : er = 0
  · subst he
    cases hps : pushesF (bytesOf nm) with
    | some k =>
      have hkr := pushes_range hps
      obtain ⟨m, rfl⟩ : ∃ m : Nat, k = m := ⟨k.toNat, by omega⟩
      rw [hps] at hpu e0
      have HPU := Lib.hid hpu
      have HE : Hid (withT n (bytesOf nm) (bytesOf what) st = pushF m v st) := e0
      have HPP : Hid (∀ W, WithS w base g (.slice A st.code.length c) bl vu bn st N W → Calls Tryz.prog 79 #[.pointer (some ⟨g, 0, none⟩), .int .i64 m, wordF (limbF v)] W fun e w' => MkOut w base g (pushF m v st) (N + 1) e w') := fun W hW => by
        refine (push_any m (by omega) v hvr W base g bl bn N _ _ st hW.1 hW.2.2.2 hN).mono ?_
        rintro e w' ⟨h1, h2, h3, h4, h5⟩
        exact ⟨h1, h2, hW.2.1.trans h3, hW.2.2.1.trans h4, h5⟩
      rw [HE.out]
      unfold wordF at HPP
      clear hp hps hpu e0 hev
      rcases key with k1 | ⟨k1, k2⟩
      all_goals
        subst k1
        go_enter Tryz.func45, Tryz.ntmps45
        go_wp2_with (first | (go_at_call 76; refine HPU.out.mono ?_; rintro e w1 ⟨rfl, rfl⟩) | (go_at_call 21; refine (HCU.out _).mono ?_; rintro e w2 ⟨t, rfl, rfl⟩) | (go_at_call 9; refine (HNU.out _).mono ?_; rintro e w3 ⟨rfl, hb3⟩) | (((with_reducible refine gate_op (.store 31 (.tmp 15) (.tmp 92)) rfl ?_); refine wpl_store_blk rfl 31 (.tmp 15) (.tmp 92) rfl _ rfl _ _ _ rfl (Blk.new _ _ _) 4 size25 (arrF_size _ _ _) (arrF_size _ _ _) (arrF_one _ _ _) ?_; intro w4 hO4 hB4); have e4 := bel_then hb3 (Only.below (below_alloc (Below.refl _ _) _) hO4 (Nat.le_refl _))) | ((with_reducible refine gate_op (.load 31 (.tmp 15)) rfl ?_); refine wpl_load_blk rfl 31 (.tmp 15) rfl _ rfl _ _ _ hB4 Tryz.underlying31 rfl 4 size25 (arrF_size _ _ _) ?_) | (go_at_call 79; refine (HPP.out _ (HW.out.below e4)).mono ?_; rintro e w5 ⟨rfl, hout⟩))
        go_ret
        exact ⟨rfl, hout⟩
    | none =>
      rw [hps] at hpu e0
      have HPU := Lib.hid hpu
      have hb : nm = ⟨#[66, 89, 84, 69, 49]⟩ := by
        rcases hp with h | h
        · rw [hps] at h; cases h
        · exact h
      subst hb
      by_cases hsz : 1 < sizeN v
      · have HE : Hid (withT n (bytesOf ⟨#[66, 89, 84, 69, 49]⟩) (bytesOf what) st = (5, st)) := by rw [Hid, e0, if_neg (by decide)]; exact if_pos hsz
        have HSZ : Hid (∀ W, Calls Tryz.prog 77 #[wordF (limbF v)] W fun e w' => e = .returned (.int .i64 (sizeN v)) ∧ Below W.heap.size W w') := fun W => by
          have := size_any (limbF v) W (limbF_U64 v)
          rw [limbF_val hvr.1 hvr.2] at this
          exact this
        have q1 : (1 : Int) < (sizeN v : Int) := by omega
        rw [HE.out]
        unfold wordF at HSZ
        clear hp hps hpu e0 hev hsz
        rcases key with k1 | ⟨k1, k2⟩
        all_goals
          subst k1
          go_enter Tryz.func45, Tryz.ntmps45
          go_wp2_with (first | (go_at_call 76; refine HPU.out.mono ?_; rintro e w1 ⟨rfl, rfl⟩) | (go_at_call 21; refine (HCU.out _).mono ?_; rintro e w2 ⟨t, rfl, rfl⟩) | (go_at_call 9; refine (HNU.out _).mono ?_; rintro e w3 ⟨rfl, hb3⟩) | (((with_reducible refine gate_op (.store 31 (.tmp 15) (.tmp 92)) rfl ?_); refine wpl_store_blk rfl 31 (.tmp 15) (.tmp 92) rfl _ rfl _ _ _ rfl (Blk.new _ _ _) 4 size25 (arrF_size _ _ _) (arrF_size _ _ _) (arrF_one _ _ _) ?_; intro w4 hO4 hB4); have e4 := bel_then hb3 (Only.below (below_alloc (Below.refl _ _) _) hO4 (Nat.le_refl _))) | ((with_reducible refine gate_op (.load 31 (.tmp 15)) rfl ?_); refine wpl_load_blk rfl 31 (.tmp 15) rfl _ rfl _ _ _ hB4 Tryz.underlying31 rfl 4 size25 (arrF_size _ _ _) ?_) | (go_at_call 77; refine (HSZ.out _).mono ?_; rintro e w5 ⟨rfl, hb5⟩))
          go_ret
          exact (HW.out.below (bel_then e4 hb5)).more.out rfl
      · have hv0 : 0 ≤ v ∧ v < 256 := by
          have := (sizeN_le v hvr.1 1).1 (by omega)
          omega
        have HE : Hid (withT n (bytesOf ⟨#[66, 89, 84, 69, 49]⟩) (bytesOf what) st = (0, { st with code := st.code ++ [v] })) := by rw [Hid, e0, if_neg (by decide)]; exact if_neg hsz
        have HSZ : Hid (∀ W, Calls Tryz.prog 77 #[wordF (limbF v)] W fun e w' => e = .returned (.int .i64 (sizeN v)) ∧ Below W.heap.size W w') := fun W => by
          have := size_any (limbF v) W (limbF_U64 v)
          rw [limbF_val hvr.1 hvr.2] at this
          exact this
        have HBT : Hid (∀ W, Calls Tryz.prog 78 #[wordF (limbF v), .int .u64 31] W fun e w' => e = .returned (.int .u8 v) ∧ Below W.heap.size W w') := fun W => by
          have := byte31_any (limbF v) W (limbF_U64 v)
          have e : limbF v 0 % 256 = v := by simp only [limbF, if_true]; omega
          rw [e] at this
          exact this
        have q1 : ¬ (1 : Int) < (sizeN v : Int) := by omega
        rw [HE.out]
        unfold wordF at HSZ HBT
        clear hp hps hpu e0 hev hsz
        rcases key with k1 | ⟨k1, k2⟩
        all_goals
          subst k1
          go_enter Tryz.func45, Tryz.ntmps45
          go_wp2_with (first | (go_at_call 76; refine HPU.out.mono ?_; rintro e w1 ⟨rfl, rfl⟩) | (go_at_call 21; refine (HCU.out _).mono ?_; rintro e w2 ⟨t, rfl, rfl⟩) | (go_at_call 9; refine (HNU.out _).mono ?_; rintro e w3 ⟨rfl, hb3⟩) | (((with_reducible refine gate_op (.store 31 (.tmp 15) (.tmp 92)) rfl ?_); refine wpl_store_blk rfl 31 (.tmp 15) (.tmp 92) rfl _ rfl _ _ _ rfl (Blk.new _ _ _) 4 size25 (arrF_size _ _ _) (arrF_size _ _ _) (arrF_one _ _ _) ?_; intro w4 hO4 hB4); have e4 := bel_then hb3 (Only.below (below_alloc (Below.refl _ _) _) hO4 (Nat.le_refl _))) | ((with_reducible refine gate_op (.load 31 (.tmp 15)) rfl ?_); refine wpl_load_blk rfl 31 (.tmp 15) rfl _ rfl _ _ _ hB4 Tryz.underlying31 rfl 4 size25 (arrF_size _ _ _) ?_) | (go_at_call 77; refine (HSZ.out _).mono ?_; rintro e w5 ⟨rfl, hb5⟩))
          refine start_ (n := 12) (S := fun W => WithS w base g (.slice A st.code.length c) bl vu bn st N W ∧ Blk W w3.heap.size (arrF .u64 4 (limbF v)) 31) (ds := [8, 11]) #[false, false, false, false, false, false, false, false, false, false, false, false] (by kernel_rfl) rfl rfl ⟨(HW.out.below (bel_then e4 hb5)).drew, (hB4.below hb5).drew⟩ (fun hHeld => ?_)
          refine gen_last hHeld ?_
          clear hHeld
          intro wd hHeld
          refine pure_ (i := 0) (N := some 102) (v := ?_) (a' := ?_) #[true, false, false, false, false, false, false, false, false, false, false, false] rfl rfl (by kernel_rfl) (fun _ _ _ h => h) (Or.inl ⟨by rfl, ?_⟩) ?_ ?_
          rotate_left
          · intro w2
            (go_simp; (try go_bits); with_reducible rfl)
          rotate_left
          · simp only [Act.put, List.setIfInBounds_toArray, List.set_cons_zero, List.set_cons_succ, i64_w, i32_w]
            rfl
          refine pure_ (i := 1) (N := some 103) (v := ?_) (a' := ?_) #[true, true, false, false, false, false, false, false, false, false, false, false] rfl rfl (by kernel_rfl) (fun _ _ _ h => h) (Or.inl ⟨by rfl, ?_⟩) ?_ ?_
          rotate_left
          · intro w2
            (go_simp; (try go_bits); with_reducible rfl)
          rotate_left
          · simp only [Act.put, List.setIfInBounds_toArray, List.set_cons_zero, List.set_cons_succ, i64_w, i32_w]
            rfl
          refine pure_ (i := 2) (N := some 104) (v := ?_) (a' := ?_) #[true, true, true, false, false, false, false, false, false, false, false, false] rfl rfl (by kernel_rfl) (fun _ _ _ h => h) (Or.inl ⟨by rfl, ?_⟩) ?_ ?_
          rotate_left
          · intro w2
            (go_simp; (try go_bits); with_reducible rfl)
          rotate_left
          · simp only [Act.put, List.setIfInBounds_toArray, List.set_cons_zero, List.set_cons_succ, i64_w, i32_w]
            rfl
          refine pure_ (i := 3) (N := some 105) (v := ?_) (a' := ?_) #[true, true, true, true, false, false, false, false, false, false, false, false] rfl rfl (by kernel_rfl) (fun _ _ _ h => h) (Or.inl ⟨by rfl, ?_⟩) ?_ ?_
          rotate_left
          · intro w2
            (go_simp; (try go_bits); with_reducible rfl)
          rotate_left
          · simp only [Act.put, List.setIfInBounds_toArray, List.set_cons_zero, List.set_cons_succ, i64_w, i32_w]
            rfl
          refine take_ (i := 4) (N := some 106) (v := ?_) (a' := ?_) #[true, true, true, true, true, false, false, false, false, false, false, false] rfl rfl (by kernel_rfl) (fun _ _ _ h => h) (Or.inl ⟨by rfl, ?_⟩) hHeld ?_ ?_
          rotate_left
          · intro w2 hS2
            have c0 := hS2.1.1.cell0
            (go_simp; (try go_bits); with_reducible rfl)
          rotate_left
          · simp only [Act.put, List.setIfInBounds_toArray, List.set_cons_zero, List.set_cons_succ, i64_w, i32_w]
            rfl
          refine take_ (i := 5) (N := some 107) (v := ?_) (a' := ?_) #[true, true, true, true, true, true, false, false, false, false, false, false] rfl rfl (by kernel_rfl) (fun _ _ _ h => h) (Or.inl ⟨by rfl, ?_⟩) hHeld ?_ ?_
          rotate_left
          · intro w2 hS2
            have c0 := hS2.1.1.cell0
            (refine run_load_blk (x := .tmp 15) ?_ ?_ hS2.2 Tryz.underlying31 rfl 4 size25 (arrF_size _ _ _) <;> rfl)
          rotate_left
          · simp only [Act.put, List.setIfInBounds_toArray, List.set_cons_zero, List.set_cons_succ, i64_w, i32_w]
            rfl
          refine one_ (i := 6) (N := some 108) #[true, true, true, true, true, true, true, false, false, false, false, false] rfl rfl (by kernel_rfl) (by decide) (fun K hK => ?_)
          go_simp
          try go_bits
          refine (HBT.out _).mono ?_
          rintro e w6 ⟨rfl, hb6⟩
          refine hK.out _ _ ⟨hHeld.1.below hb6, hHeld.2.below hb6⟩ (fun hHeld => ?_)
          clear hK K
          refine norm_ (a' := ?_) ?_ ?_
          rotate_left
          · first | rfl | (simp only [Act.put, List.setIfInBounds_toArray, List.set_cons_zero, List.set_cons_succ, i64_w, i32_w]; rfl)
          refine one_ (i := 7) (N := some 109) #[true, true, true, true, true, true, true, true, false, false, false, false] rfl rfl (by kernel_rfl) (by decide) (fun K hK => ?_)
          go_simp
          try go_bits
          skip
          refine hK.out _ _ ⟨hHeld.1.alloc _, hHeld.2.alloc _⟩ (fun hHeld => ?_)
          clear hK K
          refine norm_ (a' := ?_) ?_ ?_
          rotate_left
          · first | rfl | (simp only [Act.put, List.setIfInBounds_toArray, List.set_cons_zero, List.set_cons_succ, i64_w, i32_w]; rfl)
          refine last_ (i := 8) (N := some 110) #[true, true, true, true, true, true, true, true, true, false, false, false] rfl rfl (by kernel_rfl) (by decide) (fun K hK => ?_)
          refine ifw rfl ?_
          refine op_append_bytes (.tmp 106) (.tmp 109) rfl (l := st.code) rfl hHeld.1.1.code (ms := [v]) rfl (one_cells _ _) (by simp; omega) hHeld.1.2.2.2 ?_
          intro v7 w7 ho7 hg7
          obtain ⟨A7, c7, rfl, _⟩ := own_slice_of ho7
          have z0 : w7.cell? ⟨g, 0, none⟩ = some (.slice A st.code.length c) := (hHeld.1.1.blkCode hg7).cell 0
          have z1 := (hHeld.1.1.blkCode hg7).frozen 0
          refine hK.out _ _ ?_
          clear hK K
          refine norm_ (a' := ?_) ?_ ?_
          rotate_left
          · first | rfl | (simp only [Act.put, List.setIfInBounds_toArray, List.set_cons_zero, List.set_cons_succ, i64_w, i32_w]; rfl)
          refine pure_ (i := 9) (N := some 111) (v := ?_) (a' := ?_) #[true, true, true, true, true, true, true, true, true, true, false, false] rfl rfl (by kernel_rfl) (fun _ _ _ h => h) (Or.inl ⟨by rfl, ?_⟩) ?_ ?_
          rotate_left
          · intro w2
            (go_simp; (try go_bits); with_reducible rfl)
          rotate_left
          · simp only [Act.put, List.setIfInBounds_toArray, List.set_cons_zero, List.set_cons_succ, i64_w, i32_w]
            rfl
          refine pure_ (i := 10) (N := some 112) (v := ?_) (a' := ?_) #[true, true, true, true, true, true, true, true, true, true, true, false] rfl rfl (by kernel_rfl) (fun _ _ _ h => h) (Or.inl ⟨by rfl, ?_⟩) ?_ ?_
          rotate_left
          · intro w2
            (go_simp; (try go_bits); with_reducible rfl)
          rotate_left
          · simp only [Act.put, List.setIfInBounds_toArray, List.set_cons_zero, List.set_cons_succ, i64_w, i32_w]
            rfl
          refine last_ (i := 11) (N := none) #[true, true, true, true, true, true, true, true, true, true, true, true] rfl rfl (by kernel_rfl) (by decide) (fun K hK => ?_)
          (go_simp)
          refine hK.out _ _ ?_
          clear hK K
          refine norm_ (a' := ?_) ?_ ?_
          rotate_left
          · first | rfl | (simp only [Act.put, List.setIfInBounds_toArray, List.set_cons_zero, List.set_cons_succ, i64_w, i32_w]; rfl)
          refine done_ (by kernel_rfl) ?_
          go_wp2_with fail
          go_ret
          exact (hHeld.1.more.code (OwnB.len ho7 (by simp)) hg7 (by have := HLC.out; simp; omega)).out rfl
  · have HE : Hid (withT n (bytesOf nm) (bytesOf what) st = (er, st)) := e0.trans (if_pos he)
    have her : (er != 0) = true := by simpa using he
    have HPU := Lib.hid hpu
    have key2 : (pushesF (bytesOf nm)).isSome = true ∨ ((pushesF (bytesOf nm)).isSome = false ∧ nm = ⟨#[66, 89, 84, 69, 49]⟩) := by
      cases hq : (pushesF (bytesOf nm)).isSome with
      | true => exact .inl rfl
      | false =>
        rcases hp with h | h
        · rw [hq] at h; cases h
        · exact .inr ⟨rfl, h⟩
    rw [HE.out]
    clear hp hpu e0 hev
    obtain ⟨pz, hpz⟩ : ∃ pz, (pushesF (bytesOf nm)).getD 0 = pz := ⟨_, rfl⟩
    obtain ⟨ps, hps⟩ : ∃ ps, (pushesF (bytesOf nm)).isSome = ps := ⟨_, rfl⟩
    rw [hpz, hps] at HPU
    rw [hps] at key2
    clear hpz hps
    rcases key with k1 | ⟨k1, k2⟩ <;> rcases key2 with k3 | ⟨k3, k4⟩
    all_goals
      subst k1
      subst k3
      try subst k4
      go_enter Tryz.func45, Tryz.ntmps45
      go_wp2_with (first | (go_at_call 76; refine HPU.out.mono ?_; rintro e w1 ⟨rfl, rfl⟩) | (go_at_call 21; refine (HCU.out _).mono ?_; rintro e w2 ⟨t, rfl, rfl⟩) | (go_at_call 9; refine (HNU.out _).mono ?_; rintro e w3 ⟨rfl, hb3⟩) | (((with_reducible refine gate_op (.store 31 (.tmp 15) (.tmp 92)) rfl ?_); refine wpl_store_blk rfl 31 (.tmp 15) (.tmp 92) rfl _ rfl _ _ _ rfl (Blk.new _ _ _) 4 size25 (arrF_size _ _ _) (arrF_size _ _ _) (arrF_one _ _ _) ?_; intro w4 hO4 hB4); have e4 := bel_then hb3 (Only.below (below_alloc (Below.refl _ _) _) hO4 (Nat.le_refl _))))
      go_ret
      exact (HW.out.below e4).more.out rfl
theorem with_any (n : Int) (nm what : ByteArray) (hsn : nm.size ≤ 100000) (hs : what.size ≤ 100000) (w : World) (base g bl bn N : Nat) (vc vu : Value) (st : MkF) (h : MkP w base g vc bl vu bn st N) (hbs : base ≤ w.heap.size) (hN : N ≤ 100000) :
    Calls Tryz.prog 45 #[.pointer (some ⟨g, 0, none⟩), .int .i64 n, .string nm, .string what] w fun e w' => MkOut w base g (withF n (bytesOf nm) (bytesOf what) st) (N + 1) e w' := by
  by_cases h1 : (pushesF (bytesOf nm)).isNone ∧ bytesOf nm ≠ BYTE1
  · have e1 : withF n (bytesOf nm) (bytesOf what) st = (if (opF (bytesOf nm)).isSome then 2 else 16, st) := by
      unfold withF
      rw [if_pos h1]
      split <;> rfl
    rw [e1]
    exact with_name n nm what hsn w base g bl bn N vc vu st h hbs (by simpa using h1.1) (fun e => h1.2 (by rw [e]; rfl))
  · have e1 : withF n (bytesOf nm) (bytesOf what) st = withT n (bytesOf nm) (bytesOf what) st := if_neg h1
    rw [e1]
    by_cases h2 : bytesOf nm = PUSH ∧ (bytesOf what).head? = some 64
    · have : nm = ⟨#[80, 85, 83, 72]⟩ := bytesOf_inj (h2.1.trans rfl)
      subst this
      exact with_use n what (by omega) h2.2 w base g bl bn N vc vu st h hbs hN
    · refine with_num n nm what hsn hs w base g bl bn N vc vu st h hbs hN ?_ h2
      by_cases h3 : (pushesF (bytesOf nm)).isSome
      · exact .inl h3
      · refine .inr (bytesOf_inj ?_)
        have : bytesOf nm = BYTE1 := Classical.byContradiction fun e => h1 ⟨by simpa using h3, e⟩
        rw [this]; rfl
end Go.Proofs.YtibhijjmmagdcaaGreatDoor
