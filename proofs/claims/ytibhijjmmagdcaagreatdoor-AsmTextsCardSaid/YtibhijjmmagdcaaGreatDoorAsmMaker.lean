/- AsmMaker: AsmMk, AsmMake, AsmPush, AsmWith in one text. -/
import Derived.Test.YtibhijjmmagdcaaGreatDoorAsmNumber
/- The maker of asm's code in memory: what it holds; what a write leaves of it. -/
namespace Go.Proofs.YtibhijjmmagdcaaGreatDoor
set_option linter.unusedVariables false
set_option linter.unusedSimpArgs false
open Go.RowKit Go.Proofs.YtibhijjmmagdcaaGreatDoorW.PrintWords Go.Proofs.YtibhijjmmagdcaaGreatDoorW.PrintLast
def useCells (l : List (Int × Int × List Int)) : List Value := l.flatMap fun u => [.int .i64 u.1, .int .i64 u.2.1, .string (strOfNums u.2.2)]
theorem useCells_app (a b : List (Int × Int × List Int)) : useCells (a ++ b) = useCells a ++ useCells b := by simp [useCells]
theorem useCells_len (l : List (Int × Int × List Int)) : (useCells l).length = l.length * 3 := by
  induction l with
  | nil => rfl
  | cons a l ih => simp [useCells, List.flatMap_cons] at ih ⊢; omega
theorem useCells_one (l : List (Int × Int × List Int)) : ∀ u ∈ useCells l, u.oneCell' = true := by
  intro u hu
  obtain ⟨x, _, hx⟩ := List.mem_flatMap.1 hu
  simp at hx
  rcases hx with rfl | rfl | rfl <;> rfl
/-- A row of uses of the call's own. -/
def OwnU (w : World) (base : Nat) (v : Value) (l : List (Int × Int × List Int)) : Prop := w.ownsRow base 60 3 v l.length (useCells l)
theorem OwnB.len {w : World} {base n c : Nat} {A : Option Addr} {l : List Int} (h : OwnB w base (.slice A l.length c) l) (e : l.length = n) : OwnB w base (.slice A n c) l := e ▸ h
/-- Every plain block but the maker's, and but rows of bytes and of uses, stands as it stood. -/
def KeepM (w w1 : World) : Prop := ∀ k cs t, t ≠ 5 → t ≠ 60 → t ≠ 55 → Blk w k cs t → Blk w1 k cs t
theorem KeepM.refl (w : World) : KeepM w w := fun _ _ _ _ _ _ h => h
theorem KeepM.trans {a b c : World} (h : KeepM a b) (k : KeepM b c) : KeepM a c := fun i cs t h1 h2 h3 hb => k i cs t h1 h2 h3 (h i cs t h1 h2 h3 hb)
theorem KeepM.below {w W W1 : World} (h : KeepM w W) (hb : Below W.heap.size W W1) : KeepM w W1 := fun i cs t h1 h2 h3 hk => (h i cs t h1 h2 h3 hk).below hb
theorem KeepM.only {w W W1 : World} {g : Nat} (h : KeepM w W) (ho : Only W W1 g) {cs : Array Value} (hg : Blk W g cs 55) : KeepM w W1 := fun i cs' t h1 h2 h3 hk => Only.blk (h i cs' t h1 h2 h3 hk) ho (fun e => h3 (by
  subst e
  have := (h i cs' t h1 h2 h3 hk).symm.trans hg
  injection this with this
  injection this with _ this))
/-- A row of another type has been written. -/
theorem own_grown {W W1 : World} {base base' : Nat} {e e' : TypeId} {size size' n n' : Nat} {v v' : Value} {xs xs' : List Value} (h : W.ownsRow base e size v n xs) (h' : W.ownsRow base' e' size' v' n' xs') (hne : e ≠ e') (hg : W.grownBy W1 v'.ownBlock) : W1.ownsRow base e size v n xs :=
  own_other h hg (own_type_ne h h' hne)
theorem blk_own_ne {W : World} {base : Nat} {e t : TypeId} {size n g : Nat} {v : Value} {xs : List Value} {cs : Array Value} (h : W.ownsRow base e size v n xs) (hg : Blk W g cs t) (hne : t ≠ e) : some g ≠ v.ownBlock := fun he => by
  obtain ⟨cells, hc⟩ := own_typed h g he.symm
  rw [hg] at hc
  injection hc with hc
  injection hc with _ hc
  exact hne hc
theorem SM.own_ne {α : Type} {rd : α → Lit} {z : α} {e' : TypeId} {W : World} {b k : Nat} {m : List Int → Option α} (h : SM rd z e' W b k m) {base : Nat} {e : TypeId} {size n : Nat} {v : Value} {xs : List Value} (ho : W.ownsRow base e size v n xs) : some b ≠ v.ownBlock := fun he => by
  obtain ⟨cells, hc⟩ := own_typed ho b he.symm
  exact h.ne hc rfl
/-- The maker at block g: its parts, its state; at most N lines have been made. -/
structure MkP (W : World) (base g : Nat) (vc : Value) (bl : Nat) (vu : Value) (bn : Nat) (st : MkF) (N : Nat) : Prop where
  blk : Blk W g #[vc, .map (some bl), vu, .map (some bn)] 55
  hg : base ≤ g
  code : OwnB W base vc st.code
  labels : LM W bl N st.labels
  uses : OwnU W base vu st.uses
  names : NM W bn 256 opF
  hl : base ≤ bl
  hn : base ≤ bn
  ne : bl ≠ bn
  lc : st.code.length ≤ 40 * N
  lu : st.uses.length ≤ N
section
variable {W W1 : World} {base g bl bn N : Nat} {vc vu : Value} {st : MkF}
theorem MkP.below (h : MkP W base g vc bl vu bn st N) (hb : Below W.heap.size W W1) : MkP W1 base g vc bl vu bn st N :=
  ⟨h.blk.below hb, h.hg, h.code.below hb, h.labels.below hb, pw_own_below h.uses hb, h.names.below hb, h.hl, h.hn, h.ne, h.lc, h.lu⟩
theorem MkP.more (h : MkP W base g vc bl vu bn st N) {M : Nat} (hM : N ≤ M) : MkP W base g vc bl vu bn st M :=
  ⟨h.blk, h.hg, h.code, h.labels.mono hM, h.uses, h.names, h.hl, h.hn, h.ne, by have := h.lc; omega, by have := h.lu; omega⟩
theorem MkP.cell0 (h : MkP W base g vc bl vu bn st N) : W.cell? ⟨g, 0, none⟩ = some vc := h.blk.cell 0
theorem MkP.cell1 (h : MkP W base g vc bl vu bn st N) : W.cell? ⟨g, 1, none⟩ = some (.map (some bl)) := h.blk.cell 1
theorem MkP.cell2 (h : MkP W base g vc bl vu bn st N) : W.cell? ⟨g, 2, none⟩ = some vu := h.blk.cell 2
theorem MkP.cell3 (h : MkP W base g vc bl vu bn st N) : W.cell? ⟨g, 3, none⟩ = some (.map (some bn)) := h.blk.cell 3
theorem MkP.blkCode (h : MkP W base g vc bl vu bn st N) (hg : W.grownBy W1 vc.ownBlock) : Blk W1 g #[vc, .map (some bl), vu, .map (some bn)] 55 := blk_grown h.blk hg (blk_own_ne h.code h.blk (by decide))
theorem MkP.blkUses (h : MkP W base g vc bl vu bn st N) (hg : W.grownBy W1 vu.ownBlock) : Blk W1 g #[vc, .map (some bl), vu, .map (some bn)] 55 := blk_grown h.blk hg (blk_own_ne h.uses h.blk (by decide))
theorem MkP.setCode (h : MkP W base g vc bl vu bn st N) {v1 : Value} {c1 : List Int} (ho : OwnB W1 base v1 c1) (hg : W.grownBy W1 vc.ownBlock) (hl : c1.length ≤ 40 * N) : MkP (W1.setCell ⟨g, 0, none⟩ v1) base g v1 bl vu bn { st with code := c1 } N := by
  have b1 : Blk W1 g #[vc, .map (some bl), vu, .map (some bn)] 55 := blk_grown h.blk hg (blk_own_ne h.code h.blk (by decide))
  have u1 : OwnU W1 base vu st.uses := own_grown h.uses h.code (by decide) hg
  have e1 : ∀ b, (some b ≠ vc.ownBlock) → b < W.heap.size → b ≠ g → (W1.setCell ⟨g, 0, none⟩ v1).heap[b]? = W.heap[b]? := fun b hb hlt hne => (Below.heap_setCell W1 ⟨g, 0, none⟩ v1 b hne).trans (hg.block b hlt hb)
  exact ⟨b1.set 0 v1, h.hg, own_setCell ho (blk_own_ne ho b1 (by decide)) _, h.labels.move (e1 bl (h.labels.own_ne h.code) h.labels.lt (h.labels.ne h.blk)), own_setCell u1 (blk_own_ne u1 b1 (by decide)) _,
    h.names.move (e1 bn (h.names.own_ne h.code) h.names.lt (h.names.ne h.blk)), h.hl, h.hn, h.ne, hl, h.lu⟩
theorem MkP.setUses (h : MkP W base g vc bl vu bn st N) {v1 : Value} {c1 : List (Int × Int × List Int)} (ho : OwnU W1 base v1 c1) (hg : W.grownBy W1 vu.ownBlock) (hl : c1.length ≤ N) : MkP (W1.setCell ⟨g, 2, none⟩ v1) base g vc bl v1 bn { st with uses := c1 } N := by
  have b1 : Blk W1 g #[vc, .map (some bl), vu, .map (some bn)] 55 := blk_grown h.blk hg (blk_own_ne h.uses h.blk (by decide))
  have u1 : OwnB W1 base vc st.code := own_grown h.code h.uses (by decide) hg
  have e1 : ∀ b, (some b ≠ vu.ownBlock) → b < W.heap.size → b ≠ g → (W1.setCell ⟨g, 2, none⟩ v1).heap[b]? = W.heap[b]? := fun b hb hlt hne => (Below.heap_setCell W1 ⟨g, 2, none⟩ v1 b hne).trans (hg.block b hlt hb)
  exact ⟨b1.set 2 v1, h.hg, own_setCell u1 (blk_own_ne u1 b1 (by decide)) _, h.labels.move (e1 bl (h.labels.own_ne h.uses) h.labels.lt (h.labels.ne h.blk)), own_setCell ho (blk_own_ne ho b1 (by decide)) _,
    h.names.move (e1 bn (h.names.own_ne h.uses) h.names.lt (h.names.ne h.blk)), h.hl, h.hn, h.ne, h.lc, hl⟩
theorem own_map {base' : Nat} {e : TypeId} {size n b : Nat} {v : Value} {xs : List Value} {α : Type} {rd : α → Lit} {z : α} {e' : TypeId} {k : Nat} {m : List Int → Option α} (ho : W.ownsRow base' e size v n xs) (hm : SM rd z e' W b k m) (hg : W.grownBy W1 (some b)) : W1.ownsRow base' e size v n xs :=
  own_other ho hg (by
    by_cases h : v.ownBlock = none
    · exact .inl h
    · exact .inr fun e => hm.own_ne ho e.symm)
theorem MkP.setLabels (h : MkP W base g vc bl vu bn st N) {l1 : List Int → Option Int} (ho : LM W1 bl (N + 1) l1) (hg : W.grownBy W1 (some bl)) : MkP W1 base g vc bl vu bn { st with labels := l1 } (N + 1) :=
  ⟨blk_grown h.blk hg (fun e => h.labels.ne h.blk (by injection e with e; exact e.symm)), h.hg, own_map h.code h.labels hg, ho, own_map h.uses h.labels hg,
    h.names.move (hg.block bn h.names.lt (fun e => h.ne (by injection e with e; exact e.symm))), h.hl, h.hn, h.ne, by have := h.lc; show st.code.length ≤ _; omega, by have := h.lu; show st.uses.length ≤ _; omega⟩
theorem keep_code (h : MkP W base g vc bl vu bn st N) {w : World} (hk : KeepM w W) (hg : W.grownBy W1 vc.ownBlock) (v1 : Value) : KeepM w (W1.setCell ⟨g, 0, none⟩ v1) := fun k cs t h1 h2 h3 hb => by
  have b := hk k cs t h1 h2 h3 hb
  have hne : k ≠ g := fun e => h3 (by
    subst e
    have := b.symm.trans h.blk
    injection this with this
    injection this with _ this)
  exact ((Below.heap_setCell W1 ⟨g, 0, none⟩ v1 k hne).trans (hg.block k b.lt (blk_own_ne h.code b h1))).trans b
theorem keep_uses (h : MkP W base g vc bl vu bn st N) {w : World} (hk : KeepM w W) (hg : W.grownBy W1 vu.ownBlock) (v1 : Value) : KeepM w (W1.setCell ⟨g, 2, none⟩ v1) := fun k cs t h1 h2 h3 hb => by
  have b := hk k cs t h1 h2 h3 hb
  have hne : k ≠ g := fun e => h3 (by
    subst e
    have := b.symm.trans h.blk
    injection this with this
    injection this with _ this)
  exact ((Below.heap_setCell W1 ⟨g, 2, none⟩ v1 k hne).trans (hg.block k b.lt (blk_own_ne h.uses b h2))).trans b
theorem keep_labels (h : MkP W base g vc bl vu bn st N) {w : World} (hk : KeepM w W) (hg : W.grownBy W1 (some bl)) : KeepM w W1 := fun k cs t h1 h2 h3 hb => by
  have b := hk k cs t h1 h2 h3 hb
  exact (hg.block k b.lt (fun e => h.labels.ne b (by injection e with e; exact e.symm))).trans b
theorem below_code (h : MkP W base g vc bl vu bn st N) {w : World} (hb : Below base w W) (hbs : base ≤ W.heap.size) (hg : W.grownBy W1 vc.ownBlock) (v1 : Value) : Below base w (W1.setCell ⟨g, 0, none⟩ v1) := (hb.grown hg hbs (own_base h.code)).setCell (p := ⟨g, 0, none⟩) h.hg v1
theorem below_uses (h : MkP W base g vc bl vu bn st N) {w : World} (hb : Below base w W) (hbs : base ≤ W.heap.size) (hg : W.grownBy W1 vu.ownBlock) (v1 : Value) : Below base w (W1.setCell ⟨g, 2, none⟩ v1) := (hb.grown hg hbs (own_base h.uses)).setCell (p := ⟨g, 2, none⟩) h.hg v1
theorem below_labels (h : MkP W base g vc bl vu bn st N) {w : World} (hb : Below base w W) (hbs : base ≤ W.heap.size) (hg : W.grownBy W1 (some bl)) : Below base w W1 := hb.grown hg hbs (fun k hk => by injection hk with hk; subst hk; exact h.hl)
end
/-- The maker, whatever its parts, behind a world w. -/
def MkR (w : World) (base g : Nat) (st : MkF) (N : Nat) (W : World) : Prop := (∃ vc bl vu bn, MkP W base g vc bl vu bn st N) ∧ Below base w W ∧ KeepM w W ∧ base ≤ W.heap.size
/-- What a function of the maker answers. -/
def MkOut (w : World) (base g : Nat) (r : Int × MkF) (N : Nat) (e : Ending) (w' : World) : Prop := e = .returned (.int .i64 r.1) ∧ MkR w base g r.2 N w'
theorem below_low {w W W1 : World} {base : Nat} (h : Below base w W) (hs : base ≤ W.heap.size) (hb : Below W.heap.size W W1) : Below base w W1 := below_then h hs hb
section
variable {o : Oper} {a : Act} {K : Act → World → Prop} {Q : Exit → Act → World → Prop} {W : World} {base : Nat}
theorem op_append_bytes (s x : Operand) (ho : o.op = .call { callee := .builtin .append, args := #[s, x], argTypes := #[22, 22] }) {v : Value} {l : List Int} (hs : a.eval s = v) (hO : OwnB W base v l)
    {ad : Addr} {c : Nat} {ms : List Int} (hx : a.eval x = .slice (some ad) ms.length c) (hcells : ∀ j u, (nums .u8 ms)[j]? = some u → W.cell? (ad.add j) = some u) (hlen : l.length + ms.length ≤ 8000000) (hbase : base ≤ W.heap.size)
    (h : ∀ v' w', OwnB w' base v' (l ++ ms) → W.grownBy w' v.ownBlock → K (a.put o.dst v') w') : o.wp Tryz.prog a W K Q := by
  obtain ⟨i, hi, hz, hsz, hby⟩ := info_parts info5
  refine wp_append_own W s x 22 ho base 5 i (.int .u8 0) 1 1 Tryz.underlying22 hi hz hsz hby rfl (by decide) v l.length (nums .u8 l) hs hO ad ms.length c (nums .u8 ms) hx (by rw [nums_length]; omega) hcells nums_one
    (by unfold maxLen; omega) (by omega) hbase ?_
  intro v' w' h1 h2 _
  refine h v' w' ?_ h2
  unfold OwnB
  rw [List.length_append, nums_append]
  exact h1
theorem infoUse : (Tryz.prog.info? 60).map (fun i => (i.zero, i.size, i.bytes)) = some (some (.agg #[.int .i64 0, .int .i64 0, .string ⟨#[]⟩]), 3, 32) := by kernel_rfl
theorem op_append_use (s x : Operand) (ho : o.op = .call { callee := .builtin .append, args := #[s, x], argTypes := #[53, 53] }) {v : Value} {l : List (Int × Int × List Int)} (hs : a.eval s = v) (hO : OwnU W base v l)
    {ad : Addr} (u : Int × Int × List Int) (hx : a.eval x = .slice (some ad) 1 1) (hcells : ∀ j z, (useCells [u])[j]? = some z → W.cell? (ad.add j) = some z) (hlen : l.length + 1 ≤ 1000000) (hbase : base ≤ W.heap.size)
    (h : ∀ v' w', OwnU w' base v' (l ++ [u]) → W.grownBy w' v.ownBlock → K (a.put o.dst v') w') : o.wp Tryz.prog a W K Q := by
  obtain ⟨i, hi, hz, hsz, hby⟩ := info_parts infoUse
  refine wp_append_own W s x 53 ho base 60 i _ 3 32 Tryz.underlying53 hi hz hsz hby rfl (by decide) v l.length (useCells l) hs hO ad 1 1 (useCells [u]) hx (by simp [useCells_len]) hcells (useCells_one _)
    (by unfold maxLen; omega) (by omega) hbase ?_
  intro v' w' h1 h2 _
  refine h v' w' ?_ h2
  unfold OwnU
  rw [List.length_append, useCells_app]
  exact h1
end
end Go.Proofs.YtibhijjmmagdcaaGreatDoor

/- asm's maker: label, pushes, plain, walked. -/
namespace Go.Proofs.YtibhijjmmagdcaaGreatDoor
set_option linter.unusedVariables false
set_option linter.unusedSimpArgs false
open Go.RowKit Go.Proofs.YtibhijjmmagdcaaGreatDoorW.PrintWords Go.Proofs.YtibhijjmmagdcaaGreatDoorW.PrintLast
theorem mk_slice {W : World} {base g bl bn N : Nat} {vc vu : Value} {st : MkF} (h : MkP W base g vc bl vu bn st N) : ∃ A c, vc = .slice A st.code.length c := by
  obtain ⟨A, c, rfl, _⟩ := own_slice_of h.code
  exact ⟨A, c, rfl⟩
set_option maxRecDepth 100000 in
theorem label_any (s : ByteArray) (hs : s.size ≤ 100000) (w : World) (base g bl bn N : Nat) (vc vu : Value) (st : MkF) (h : MkP w base g vc bl vu bn st N) (hbs : base ≤ w.heap.size) (hN : N ≤ 100000) :
    Calls Tryz.prog 42 #[.pointer (some ⟨g, 0, none⟩), .string s] w fun e w' => MkOut w base g (labelF (bytesOf s) st) (N + 1) e w' := by
  obtain ⟨A, c, rfl⟩ := mk_slice h
  have hna := fun W => named_any s W
  have HH := Lib.hid h
  have hlt := h.blk.lt
  clear h
  have hcl : st.code.length ≤ 4000000 := by have := HH.out.lc; omega
  have hcl' : (st.code.length : Int) ≤ 4000000 := by omega
  cases hn : namedF (bytesOf s) with
  | false =>
    have HE : Hid (labelF (bytesOf s) st = (2, st)) := if_pos hn
    rw [hn] at hna
    rw [HE.out]
    clear hn
    go_enter Tryz.func42, Tryz.ntmps42
    go_wp2_with (go_at_call 74; refine (hna _).mono ?_; rintro e w1 ⟨rfl, hb1⟩)
    go_ret
    exact ⟨rfl, ⟨_, _, _, _, (HH.out.below hb1).more (by omega)⟩, below_low (Below.refl _ _) hbs hb1, (KeepM.refl _).below hb1, Nat.le_trans hbs hb1.size⟩
  | true =>
    rw [hn] at hna
    cases hl : (st.labels (bytesOf s)).isSome with
    | true =>
      have HE : Hid (labelF (bytesOf s) st = (18, st)) := by rw [Hid, labelF, if_neg (by rw [hn]; decide), if_pos hl]
      have HL := Lib.hid hl
      rw [HE.out]
      clear hn hl
      go_enter Tryz.func42, Tryz.ntmps42
      go_wp2_with (go_at_call 74; refine (hna _).mono ?_; rintro e w1 ⟨rfl, hb1⟩; have c1 := (HH.out.below hb1).cell1; have lk := LM.ask (HH.out.below hb1).labels s (by unfold maxLen; omega); rw [HL.out] at lk)
      go_ret
      exact ⟨rfl, ⟨_, _, _, _, (HH.out.below hb1).more (by omega)⟩, below_low (Below.refl _ _) hbs hb1, (KeepM.refl _).below hb1, Nat.le_trans hbs hb1.size⟩
    | false =>
      have HE : Hid (labelF (bytesOf s) st = (0, { st with labels := putF st.labels (bytesOf s) (st.code.length : Int) })) := by rw [Hid, labelF, if_neg (by rw [hn]; decide), if_neg (by rw [hl]; decide)]
      have HL := Lib.hid hl
      rw [HE.out]
      clear hn hl
      go_enter Tryz.func42, Tryz.ntmps42
      go_wp2_with (go_at_call 74; refine (hna _).mono ?_; rintro e w1 ⟨rfl, hb1⟩; have c1 := (HH.out.below hb1).cell1; have lk := LM.ask (HH.out.below hb1).labels s (by unfold maxLen; omega); rw [HL.out] at lk)
      refine start_ (n := 11) (S := fun W => MkP W base g (.slice A st.code.length c) bl vu bn st N ∧ Below base w W ∧ KeepM w W ∧ base ≤ W.heap.size) (ds := [10]) #[false, false, false, false, false, false, false, false, false, false, false] (by kernel_rfl) rfl rfl ⟨(HH.out.below hb1).below (bel_drew (Below.refl _ _)), below_low (Below.refl _ _) hbs (bel_drew hb1), (KeepM.refl _).below (bel_drew hb1), Nat.le_trans hbs hb1.size⟩ (fun hHeld => ?_)
      refine gen_last hHeld ?_
      clear hHeld
      intro wd hHeld
      refine pure_ (i := 0) (N := some 20) (v := ?_) (a' := ?_) #[true, false, false, false, false, false, false, false, false, false, false] rfl rfl (by kernel_rfl) (fun _ _ _ h => h) (Or.inl ⟨by rfl, ?_⟩) ?_ ?_
      rotate_left
      · intro w2
        (go_simp; (try go_bits); with_reducible rfl)
      rotate_left
      · simp only [Act.put, List.setIfInBounds_toArray, List.set_cons_zero, List.set_cons_succ, i64_w, i32_w]
        rfl
      refine pure_ (i := 1) (N := some 21) (v := ?_) (a' := ?_) #[true, true, false, false, false, false, false, false, false, false, false] rfl rfl (by kernel_rfl) (fun _ _ _ h => h) (Or.inl ⟨by rfl, ?_⟩) ?_ ?_
      rotate_left
      · intro w2
        (go_simp; (try go_bits); with_reducible rfl)
      rotate_left
      · simp only [Act.put, List.setIfInBounds_toArray, List.set_cons_zero, List.set_cons_succ, i64_w, i32_w]
        rfl
      refine pure_ (i := 2) (N := some 22) (v := ?_) (a' := ?_) #[true, true, true, false, false, false, false, false, false, false, false] rfl rfl (by kernel_rfl) (fun _ _ _ h => h) (Or.inl ⟨by rfl, ?_⟩) ?_ ?_
      rotate_left
      · intro w2
        (go_simp; (try go_bits); with_reducible rfl)
      rotate_left
      · simp only [Act.put, List.setIfInBounds_toArray, List.set_cons_zero, List.set_cons_succ, i64_w, i32_w]
        rfl
      refine pure_ (i := 4) (N := some 24) (v := ?_) (a' := ?_) #[true, true, true, false, true, false, false, false, false, false, false] rfl rfl (by kernel_rfl) (fun _ _ _ h => h) (Or.inl ⟨by rfl, ?_⟩) ?_ ?_
      rotate_left
      · intro w2
        (go_simp; (try go_bits); with_reducible rfl)
      rotate_left
      · simp only [Act.put, List.setIfInBounds_toArray, List.set_cons_zero, List.set_cons_succ, i64_w, i32_w]
        rfl
      refine pure_ (i := 5) (N := some 25) (v := ?_) (a' := ?_) #[true, true, true, false, true, true, false, false, false, false, false] rfl rfl (by kernel_rfl) (fun _ _ _ h => h) (Or.inl ⟨by rfl, ?_⟩) ?_ ?_
      rotate_left
      · intro w2
        (go_simp; (try go_bits); with_reducible rfl)
      rotate_left
      · simp only [Act.put, List.setIfInBounds_toArray, List.set_cons_zero, List.set_cons_succ, i64_w, i32_w]
        rfl
      refine pure_ (i := 6) (N := some 26) (v := ?_) (a' := ?_) #[true, true, true, false, true, true, true, false, false, false, false] rfl rfl (by kernel_rfl) (fun _ _ _ h => h) (Or.inl ⟨by rfl, ?_⟩) ?_ ?_
      rotate_left
      · intro w2
        (go_simp; (try go_bits); with_reducible rfl)
      rotate_left
      · simp only [Act.put, List.setIfInBounds_toArray, List.set_cons_zero, List.set_cons_succ, i64_w, i32_w]
        rfl
      refine pure_ (i := 7) (N := some 27) (v := ?_) (a' := ?_) #[true, true, true, false, true, true, true, true, false, false, false] rfl rfl (by kernel_rfl) (fun _ _ _ h => h) (Or.inl ⟨by rfl, ?_⟩) ?_ ?_
      rotate_left
      · intro w2
        (go_simp; (try go_bits); with_reducible rfl)
      rotate_left
      · simp only [Act.put, List.setIfInBounds_toArray, List.set_cons_zero, List.set_cons_succ, i64_w, i32_w]
        rfl
      refine take_ (i := 3) (N := some 23) (v := ?_) (a' := ?_) #[true, true, true, true, true, true, true, true, false, false, false] rfl rfl (by kernel_rfl) (fun _ _ _ h => h) (Or.inl ⟨by rfl, ?_⟩) hHeld ?_ ?_
      rotate_left
      · intro w2 hS2
        have c0 := hS2.1.cell0
        have c1 := hS2.1.cell1
        (go_simp; (try go_bits); with_reducible rfl)
      rotate_left
      · simp only [Act.put, List.setIfInBounds_toArray, List.set_cons_zero, List.set_cons_succ, i64_w, i32_w]
        rfl
      refine take_ (i := 8) (N := some 28) (v := ?_) (a' := ?_) #[true, true, true, true, true, true, true, true, true, false, false] rfl rfl (by kernel_rfl) (fun _ _ _ h => h) (Or.inl ⟨by rfl, ?_⟩) hHeld ?_ ?_
      rotate_left
      · intro w2 hS2
        have c0 := hS2.1.cell0
        have c1 := hS2.1.cell1
        (go_simp; (try go_bits); with_reducible rfl)
      rotate_left
      · simp only [Act.put, List.setIfInBounds_toArray, List.set_cons_zero, List.set_cons_succ, i64_w, i32_w]
        rfl
      refine pure_ (i := 9) (N := some 29) (v := ?_) (a' := ?_) #[true, true, true, true, true, true, true, true, true, true, false] rfl rfl (by kernel_rfl) (fun _ _ _ h => h) (Or.inl ⟨by rfl, ?_⟩) ?_ ?_
      rotate_left
      · intro w2
        (go_simp; (try go_bits); with_reducible rfl)
      rotate_left
      · simp only [Act.put, List.setIfInBounds_toArray, List.set_cons_zero, List.set_cons_succ, i64_w, i32_w]
        rfl
      refine last_ (i := 10) (N := none) #[true, true, true, true, true, true, true, true, true, true, true] rfl rfl (by kernel_rfl) (by decide) (fun K hK => ?_)
      refine ifw rfl ?_
      refine SM.wp_put (enc := Value.int .i64) hHeld.1.labels (.tmp 23) (.tmp 24) (.tmp 29) rfl Tryz.underlying50 s rfl rfl (st.code.length : Int) rfl (by unfold maxLen; omega) (by unfold maxLen; omega) (i64_elem (by omega) (by omega)) ?_
      intro W1 hM1 hg1
      refine hK.out _ _ ?_
      clear hK K
      refine norm_ (a' := ?_) ?_ ?_
      rotate_left
      · first | rfl | (simp only [Act.put, List.setIfInBounds_toArray, List.set_cons_zero, List.set_cons_succ, i64_w, i32_w]; rfl)
      refine done_ (by kernel_rfl) ?_
      have hout := And.intro (hHeld.1.setLabels hM1 hg1) (And.intro (below_labels hHeld.1 hHeld.2.1 hHeld.2.2.2 hg1) (And.intro (keep_labels hHeld.1 hHeld.2.2.1 hg1) (Nat.le_trans hHeld.2.2.2 hg1.size)))
      go_wp2_with fail
      go_ret
      exact ⟨rfl, ⟨_, _, _, _, hout.1⟩, hout.2⟩
theorem str_ne {s : ByteArray} {l : List UInt8} (h : s ≠ ⟨l.toArray⟩) : (s.toList == l) = false := by
  rw [beq_eq_false_iff_ne, Lib.toList_data]
  intro e
  exact h (data_inj (by rw [e]))
theorem str_nb {s : ByteArray} {l : List UInt8} (h : s ≠ ⟨l.toArray⟩) : (s.toList != l) = true := by rw [bne, str_ne h]; rfl
theorem str_bytes {s : ByteArray} {l : List UInt8} (h : s ≠ ⟨l.toArray⟩) : bytesOf s ≠ upL l := fun e => h (bytesOf_inj (by rw [bytesOf_mk]; exact e))
theorem opG_range : ∀ (k : Nat) (l : List Int) (op : Int), opG k l = some op → 0 ≤ op ∧ op < k
  | 0, l, op, h => by cases h
  | k + 1, l, op, h => by
    cases ho : infoF (k : Int) with
    | none =>
      rw [opG, ho] at h
      have := opG_range k l op h; omega
    | some o =>
      rw [opG, ho] at h
      simp only [putF] at h
      by_cases e : l = o.1
      · rw [if_pos e] at h; injection h with h; omega
      · rw [if_neg e] at h; have := opG_range k l op h; omega
theorem opF_range {l : List Int} {op : Int} (h : opF l = some op) : 0 ≤ op ∧ op < 256 := opG_range 256 l op h
set_option maxRecDepth 100000 in
theorem pushes_any (s : ByteArray) (hs : s.size ≤ 100000) (w : World) (base g bl bn N : Nat) (vc vu : Value) (st : MkF) (h : MkP w base g vc bl vu bn st N) :
    Calls Tryz.prog 76 #[.pointer (some ⟨g, 0, none⟩), .string s] w fun e w' => e = .returned (.tuple #[.int .i64 ((pushesF (bytesOf s)).getD 0), .bool (pushesF (bytesOf s)).isSome]) ∧ w = w' := by
  have c3 := h.cell3
  have lk := NM.ask h.names s (by unfold maxLen; omega)
  clear h
  by_cases hp : s = ⟨#[80, 85, 83, 72]⟩
  · subst hp
    have HE : Hid (pushesF (bytesOf ⟨#[80, 85, 83, 72]⟩) = some 0) := rfl
    rw [HE.out]
    clear lk
    go_enter Tryz.func76, Tryz.ntmps76
    go_wp2_with fail
    go_ret2
    exact ⟨rfl, rfl⟩
  · have hp2 : bytesOf s ≠ PUSH := str_bytes (l := [80, 85, 83, 72]) hp
    have hpb := str_ne (l := [80, 85, 83, 72]) hp
    have HPP := Lib.hid hp
    clear hp
    cases ho : opF (bytesOf s) with
    | none =>
      have e0 : pushesF (bytesOf s) = none := by unfold pushesF; rw [if_neg hp2, ho]
      rw [ho] at lk
      have HE := Lib.hid e0
      rw [HE.out]
      clear e0 ho hp2
      go_enter Tryz.func76, Tryz.ntmps76
      go_wp2_with fail
      go_ret2
      exact ⟨rfl, rfl⟩
    | some op =>
      have e0 : pushesF (bytesOf s) = if 96 ≤ op ∧ op ≤ 127 then some (op - 95) else none := by unfold pushesF; rw [if_neg hp2, ho]
      rw [ho] at lk
      have hr := opF_range ho
      have key : (96 ≤ op ∧ op ≤ 127) ∨ op < 96 ∨ (¬ op < 96 ∧ 127 < op) := by omega
      clear ho hp2
      rcases key with k | k | ⟨k, k'⟩
      · rw [if_pos k] at e0
        have HE := Lib.hid e0
        rw [HE.out]
        have k1 : ¬ op < 96 := by omega
        have k2 : ¬ 127 < op := by omega
        clear e0
        go_enter Tryz.func76, Tryz.ntmps76
        go_wp2_with fail
        go_ret2
        exact ⟨rfl, rfl⟩
      · rw [if_neg (by omega)] at e0
        have HE := Lib.hid e0
        rw [HE.out]
        clear e0
        go_enter Tryz.func76, Tryz.ntmps76
        go_wp2_with fail
        go_ret2
        exact ⟨rfl, rfl⟩
      · rw [if_neg (by omega)] at e0
        have HE := Lib.hid e0
        rw [HE.out]
        clear e0
        go_enter Tryz.func76, Tryz.ntmps76
        go_wp2_with fail
        go_ret2
        exact ⟨rfl, rfl⟩
set_option maxRecDepth 100000 in
theorem plain_any (s : ByteArray) (hs : s.size ≤ 100000) (w : World) (base g bl bn N : Nat) (vc vu : Value) (st : MkF) (h : MkP w base g vc bl vu bn st N) (hbs : base ≤ w.heap.size) (hN : N ≤ 100000) :
    Calls Tryz.prog 44 #[.pointer (some ⟨g, 0, none⟩), .string s] w fun e w' => MkOut w base g (plainF (bytesOf s) st) (N + 1) e w' := by
  obtain ⟨A, c, rfl⟩ := mk_slice h
  have hpu := pushes_any s hs w base g bl bn N _ vu st h
  have c0 := h.cell0
  have c3 := h.cell3
  have lk := NM.ask h.names s (by unfold maxLen; omega)
  have HH := Lib.hid h
  have hlc := h.lc
  have hcl : st.code.length ≤ 4000000 := by omega
  clear h
  have same : ∀ {e : Ending} {r : Int}, e = .returned (.int .i64 r) → MkOut w base g (r, st) (N + 1) e w := fun he => ⟨he, ⟨_, _, _, _, HH.out.more (by omega)⟩, Below.refl _ _, KeepM.refl _, hbs⟩
  have SAME := Lib.hid (fun (e : Ending) (r : Int) (he : e = .returned (.int .i64 r)) => same he)
  clear same
  cases hp : pushesF (bytesOf s) with
  | some z =>
    have HE : Hid (plainF (bytesOf s) st = (2, st)) := if_pos (.inl (by rw [hp]; rfl))
    rw [hp] at hpu
    rw [HE.out]
    have HPU := Lib.hid hpu
    clear hp hpu
    go_enter Tryz.func44, Tryz.ntmps44
    go_wp2_with (go_at_call 76; refine HPU.out.mono ?_; rintro e w1 ⟨rfl, rfl⟩)
    go_ret
    exact SAME.out _ _ rfl
  | none =>
    rw [hp] at hpu
    have HPU := Lib.hid hpu
    by_cases hb : s = ⟨#[66, 89, 84, 69, 49]⟩
    · subst hb
      have HE : Hid (plainF (bytesOf ⟨#[66, 89, 84, 69, 49]⟩) st = (2, st)) := if_pos (.inr rfl)
      rw [HE.out]
      clear hp hpu
      go_enter Tryz.func44, Tryz.ntmps44
      go_wp2_with (go_at_call 76; refine HPU.out.mono ?_; rintro e w1 ⟨rfl, rfl⟩)
      go_ret
      exact SAME.out _ _ rfl
    · have hb2 : bytesOf s ≠ BYTE1 := str_bytes (l := [66, 89, 84, 69, 49]) hb
      have hbb := str_ne (l := [66, 89, 84, 69, 49]) hb
      have e0 : plainF (bytesOf s) st = match opF (bytesOf s) with | none => (16, st) | some op => (0, { st with code := st.code ++ [op] }) := if_neg (by
        rintro (h | h)
        · rw [hp] at h; cases h
        · exact hb2 h)
      have HBB := Lib.hid hb
      clear hp hpu hb hb2
      cases ho : opF (bytesOf s) with
      | none =>
        rw [ho] at e0 lk
        have HE := Lib.hid e0
        rw [HE.out]
        clear e0 ho
        go_enter Tryz.func44, Tryz.ntmps44
        go_wp2_with (go_at_call 76; refine HPU.out.mono ?_; rintro e w1 ⟨rfl, rfl⟩)
        go_ret
        exact SAME.out _ _ rfl
      | some op =>
        rw [ho] at e0 lk
        have HE := Lib.hid e0
        rw [HE.out]
        have hr := opF_range ho
        clear e0 ho
        go_enter Tryz.func44, Tryz.ntmps44
        go_wp2_with (first | (go_at_call 76; refine HPU.out.mono ?_; rintro e w1 ⟨rfl, rfl⟩) | (at_builtin; refine print_append_num base rfl (.tmp 37) (.tmp 39) 22 5 .u8 1 rfl Tryz.underlying22 info5 (by decide) _ st.code op rfl rfl HH.out.code (Below.refl _ _) hbs (by omega) ?_; intro v1 w1 ho hb1 hg1 _; obtain ⟨A1, c1, rfl, _⟩ := own_slice_of (base := base) ho; have k1 := HH.out.more (Nat.le_succ N); have z0 : w1.cell? ⟨g, 0, none⟩ = some (.slice A st.code.length c) := (HH.out.blkCode hg1).cell 0; have z1 := (HH.out.blkCode hg1).frozen 0))
        go_ret
        exact ⟨rfl, ⟨_, _, _, _, k1.setCode (OwnB.len ho (by simp)) hg1 (by simp; omega)⟩, below_code HH.out (Below.refl _ _) hbs hg1 _, keep_code HH.out (KeepM.refl _) hg1 _, by have := hg1.size; simp; omega⟩
end Go.Proofs.YtibhijjmmagdcaaGreatDoor

/- asm's maker: push, walked. -/
namespace Go.Proofs.YtibhijjmmagdcaaGreatDoor
set_option linter.unusedVariables false
set_option linter.unusedSimpArgs false
open Go.RowKit Go.Proofs.YtibhijjmmagdcaaGreatDoorW.PrintWords Go.Proofs.YtibhijjmmagdcaaGreatDoorW.PrintLast
theorem lowL_get (d : Nat → Int) : ∀ (n j : Nat), j < n → (lowL d n)[j]? = some (d (n - 1 - j))
  | n + 1, 0, _ => by simp [lowL]
  | n + 1, j + 1, h => by
    rw [lowL, List.getElem?_cons_succ, lowL_get d n j (by omega)]
    congr 2
    omega
theorem byte_cells {W : World} {g : Nat} {F : Nat → Int} (hb : Blk W g (arrF .u8 32 (byteF F)) 121) (n : Nat) (hn : n ≤ 32) : ∀ j u, (nums .u8 (lowL (ofD F) n))[j]? = some u → W.cell? ((⟨g, 32 - n, none⟩ : Addr).add j) = some u := by
  intro j u hj
  obtain ⟨hjl, rfl⟩ := nums_get hj
  rw [lowL_length] at hjl
  have hg := lowL_get (ofD F) n j hjl
  rw [List.getElem?_eq_getElem (by rw [lowL_length]; exact hjl)] at hg
  injection hg with hg
  rw [Addr.add_mid, hb.cell, arrF_get, if_pos (by omega), hg, byteF, ofD, show 31 - (32 - n + j) = n - 1 - j by omega]
theorem pushF_of {size : Nat} {a : Int} {st : MkF} {n : Nat} (h : (if size = 0 then max (sizeN a) 1 else size) = n) : pushF size a st = if n < sizeN a then (5, st) else (0, { st with code := (st.code ++ [95 + (n : Int)]) ++ bytesN a n }) := by
  unfold pushF
  simp only [h]
  split
  · rfl
  · simp
/-- The tail of push, behind the bytes. -/
def PushS (w : World) (base g gb : Nat) (vc : Value) (bl : Nat) (vu : Value) (bn : Nat) (st : MkF) (N : Nat) (F : Nat → Int) (W : World) : Prop :=
  MkP W base g vc bl vu bn st N ∧ Blk W gb (arrF .u8 32 (byteF F)) 121 ∧ Below base w W ∧ KeepM w W ∧ base ≤ W.heap.size
theorem PushS.drew {w : World} {base g gb : Nat} {vc : Value} {bl : Nat} {vu : Value} {bn : Nat} {st : MkF} {N : Nat} {F : Nat → Int} {W : World} (h : PushS w base g gb vc bl vu bn st N F W) : PushS w base g gb vc bl vu bn st N F W.drew :=
  ⟨h.1.below (bel_drew (Below.refl _ _)), h.2.1.drew, below_drew h.2.2.1, h.2.2.2.1.below (bel_drew (Below.refl _ _)), h.2.2.2.2⟩
set_option maxRecDepth 100000 in
theorem push_err (size : Nat) (a : Int) (ha : 0 ≤ a ∧ a < M256) (w : World) (base g bl bn N : Nat) (vc vu : Value) (st : MkF) (h : MkP w base g vc bl vu bn st N) (hbs : base ≤ w.heap.size) (h0 : 0 < size) (h1 : size < sizeN a) :
    Calls Tryz.prog 79 #[.pointer (some ⟨g, 0, none⟩), .int .i64 size, wordF (limbF a)] w fun e w' => MkOut w base g (5, st) (N + 1) e w' := by
  have HSZ : Hid (∀ W, Calls Tryz.prog 77 #[wordF (limbF a)] W fun e w' => e = .returned (.int .i64 (sizeN a)) ∧ Below W.heap.size W w') := fun W => by
    have := size_any (limbF a) W (limbF_U64 a)
    rw [limbF_val ha.1 ha.2] at this
    exact this
  have HH := Lib.hid h
  have q1 : ((size : Int) == 0) = false := by rw [beq_eq_false_iff_ne]; omega
  have q2 : (size : Int) < (sizeN a : Int) := by omega
  clear h h0 h1 ha
  unfold wordF at HSZ ⊢
  go_enter Tryz.func79, Tryz.ntmps79
  go_wp2_with (first | ((with_reducible refine gate_op (.load 31 (.tmp 5)) rfl ?_); refine wpl_load_blk rfl 31 (.tmp 5) rfl _ rfl _ _ _ (Blk.new _ _ _) Tryz.underlying31 rfl 4 size25 (arrF_size _ _ _) ?_) | (go_at_call 77; refine (HSZ.out _).mono ?_; rintro e w1 ⟨rfl, hb1⟩))
  go_ret
  have e1 := bel_then (below_alloc (Below.refl w.heap.size w) _) hb1
  exact ⟨rfl, ⟨_, _, _, _, (HH.out.below e1).more (by omega)⟩, below_low (Below.refl _ _) hbs e1, (KeepM.refl _).below e1, Nat.le_trans hbs e1.size⟩
set_option maxHeartbeats 1000000 in
set_option maxRecDepth 100000 in
theorem push_ok (size n : Nat) (a : Int) (ha : 0 ≤ a ∧ a < M256) (w : World) (base g bl bn N : Nat) (vc vu : Value) (st : MkF) (h : MkP w base g vc bl vu bn st N) (hbs : base ≤ w.heap.size) (hN : N ≤ 100000) (hn1 : 1 ≤ n) (hn2 : n ≤ 32) (hz : sizeN a ≤ n)
    (hs : (0 < size ∧ size = n) ∨ (size = 0 ∧ 1 ≤ sizeN a ∧ sizeN a = n) ∨ (size = 0 ∧ sizeN a = 0 ∧ n = 1)) :
    Calls Tryz.prog 79 #[.pointer (some ⟨g, 0, none⟩), .int .i64 size, wordF (limbF a)] w fun e w' => MkOut w base g (0, { st with code := (st.code ++ [95 + (n : Int)]) ++ bytesN a n }) (N + 1) e w' := by
  obtain ⟨A, c, rfl⟩ := mk_slice h
  have HSZ : Hid (∀ W, Calls Tryz.prog 77 #[wordF (limbF a)] W fun e w' => e = .returned (.int .i64 (sizeN a)) ∧ Below W.heap.size W w') := fun W => by
    have := size_any (limbF a) W (limbF_U64 a)
    rw [limbF_val ha.1 ha.2] at this
    exact this
  have HBY : Hid (∀ W, Calls Tryz.prog 91 #[wordF (limbF a)] W fun e w' => e = .returned (.agg (arrF .u8 32 (byteF (limbF a)))) ∧ Below W.heap.size W w') := fun W => bytes_any (limbF a) W (limbF_U64 a)
  have hz59 := zero59
  have HH := Lib.hid h
  have HLC := Lib.hid h.lc
  have hcl : st.code.length ≤ 4000000 := by have := h.lc; omega
  have p1 : (1 : Int) ≤ (n : Int) := by omega
  have p2 : (n : Int) ≤ 32 := by omega
  have p3 : ¬ (n : Int) < (sizeN a : Int) := by omega
  obtain ⟨z, hzz⟩ : ∃ z, sizeN a = z := ⟨_, rfl⟩
  rw [hzz] at HSZ hs p3
  clear h ha hz hzz
  unfold wordF at HSZ HBY ⊢
  rcases hs with ⟨h1, h2⟩ | ⟨h1, h2, h3⟩ | ⟨h1, h2, h3⟩
  · have q1 : ((size : Int) == 0) = false := by rw [beq_eq_false_iff_ne]; omega
    obtain rfl : n = size := h2.symm
    clear h1
    go_enter Tryz.func79, Tryz.ntmps79
    go_wp2_with (first | ((with_reducible refine gate_op (.load 31 (.tmp 5)) rfl ?_); refine wpl_load_blk rfl 31 (.tmp 5) rfl _ rfl _ _ _ (Blk.new _ _ _) Tryz.underlying31 rfl 4 size25 (arrF_size _ _ _) ?_) | (go_at_call 77; refine (HSZ.out _).mono ?_; rintro e w1 ⟨rfl, hb1⟩) | ((with_reducible refine gate_op (.load 31 (.tmp 5)) rfl ?_); refine wpl_load_blk rfl 31 (.tmp 5) rfl _ rfl _ _ _ ((Blk.new _ _ _).below hb1) Tryz.underlying31 rfl 4 size25 (arrF_size _ _ _) ?_) | (go_at_call 91; refine (HBY.out _).mono ?_; rintro e w3 ⟨rfl, hb3⟩) | (((with_reducible refine gate_op (.store 121 (.tmp 7) (.tmp 18)) rfl ?_); refine wpl_store_blk rfl 121 (.tmp 7) (.tmp 18) rfl _ rfl _ _ _ rfl (Blk.new _ _ _) 32 size59 (arrF_size _ _ _) (arrF_size _ _ _) (arrF_one _ _ _) ?_; intro w4 hO4 hB4); have e4 : Below w.heap.size w w4 := Only.below (below_alloc (bel_then (bel_then (below_alloc (Below.refl _ _) _) hb1) hb3) _) hO4 (by have := ((bel_then (bel_then (below_alloc (Below.refl _ _) _) hb1) hb3)).size; omega); have M4 : MkP w4 base g (.slice A st.code.length c) bl vu bn st N := HH.out.below e4; have B4 : Below base w w4 := below_low (Below.refl _ _) hbs e4; have S4 : base ≤ w4.heap.size := Nat.le_trans hbs e4.size; have K4 : KeepM w w4 := (KeepM.refl _).below e4; have c0 := M4.cell0) | (at_builtin; refine print_append_num base rfl (.tmp 23) (.tmp 27) 22 5 .u8 1 rfl Tryz.underlying22 info5 (by decide) _ st.code (95 + (n : Int)) rfl rfl M4.code B4 S4 (by omega) ?_; intro v1 w5 ho hb5 hg5 _; obtain ⟨A1, c1, rfl, _⟩ := own_slice_of (base := base) ho; have z0 : w5.cell? ⟨g, 0, none⟩ = some (.slice A st.code.length c) := (M4.blkCode hg5).cell 0; have z1 := (M4.blkCode hg5).frozen 0))
    obtain ⟨ad', hsl', had'⟩ := slice_pad w3.heap.size n hn2
    have had' := had' hn1
    subst had'
    have hPS : PushS w base g w3.heap.size (.slice A1 (st.code.length + 1) c1) bl vu bn { st with code := st.code ++ [95 + (n : Int)] } (N + 1) (limbF a) (w5.setCell ⟨g, 0, none⟩ (.slice A1 (st.code.length + 1) c1)) := by
      refine ⟨(M4.more (Nat.le_succ N)).setCode (OwnB.len ho (by simp)) hg5 (by have := HLC.out; simp; omega), ?_, below_code M4 B4 S4 hg5 _, keep_code M4 K4 hg5 _, by have := hg5.size; simp; omega⟩
      exact (show Blk w5 w3.heap.size (arrF .u8 32 (byteF (limbF a))) 121 from blk_grown hB4 hg5 (blk_own_ne M4.code hB4 (by decide))).far (fun e => by
        have h1 := M4.blk
        rw [← show w3.heap.size = g from e] at h1
        have h2 := hB4.symm.trans h1
        injection h2 with h2
        injection h2 with _ h2
        exact absurd h2 (by decide)) _
    have hcl5 : st.code.length + 1 ≤ 4000001 := by omega
    clear hb5 hg5 ho z0 z1 c0 M4 B4 S4 K4 e4 hO4 hB4
    refine start_ (n := 12) (S := PushS w base g w3.heap.size (.slice A1 (st.code.length + 1) c1) bl vu bn { st with code := st.code ++ [95 + (n : Int)] } (N + 1) (limbF a)) (ds := [8, 11]) #[false, false, false, false, false, false, false, false, false, false, false, false] (by kernel_rfl) rfl rfl hPS.drew (fun hHeld => ?_)
    refine gen_last hHeld ?_
    clear hHeld
    intro wd hHeld
    refine pure_ (i := 0) (N := some 31) (v := ?_) (a' := ?_) #[true, false, false, false, false, false, false, false, false, false, false, false] rfl rfl (by kernel_rfl) (fun _ _ _ h => h) (Or.inl ⟨by rfl, ?_⟩) ?_ ?_
    rotate_left
    · intro w2
      (go_simp; (try go_bits); with_reducible rfl)
    rotate_left
    · simp only [Act.put, List.setIfInBounds_toArray, List.set_cons_zero, List.set_cons_succ, i64_w, i32_w]
      rfl
    refine pure_ (i := 1) (N := some 32) (v := ?_) (a' := ?_) #[true, true, false, false, false, false, false, false, false, false, false, false] rfl rfl (by kernel_rfl) (fun _ _ _ h => h) (Or.inl ⟨by rfl, ?_⟩) ?_ ?_
    rotate_left
    · intro w2
      (go_simp; (try go_bits); with_reducible rfl)
    rotate_left
    · simp only [Act.put, List.setIfInBounds_toArray, List.set_cons_zero, List.set_cons_succ, i64_w, i32_w]
      rfl
    refine pure_ (i := 2) (N := some 33) (v := ?_) (a' := ?_) #[true, true, true, false, false, false, false, false, false, false, false, false] rfl rfl (by kernel_rfl) (fun _ _ _ h => h) (Or.inl ⟨by rfl, ?_⟩) ?_ ?_
    rotate_left
    · intro w2
      (go_simp; (try go_bits); with_reducible rfl)
    rotate_left
    · simp only [Act.put, List.setIfInBounds_toArray, List.set_cons_zero, List.set_cons_succ, i64_w, i32_w]
      rfl
    refine pure_ (i := 3) (N := some 34) (v := ?_) (a' := ?_) #[true, true, true, true, false, false, false, false, false, false, false, false] rfl rfl (by kernel_rfl) (fun _ _ _ h => h) (Or.inl ⟨by rfl, ?_⟩) ?_ ?_
    rotate_left
    · intro w2
      (go_simp; (try go_bits); with_reducible rfl)
    rotate_left
    · simp only [Act.put, List.setIfInBounds_toArray, List.set_cons_zero, List.set_cons_succ, i64_w, i32_w]
      rfl
    refine pure_ (i := 5) (N := some 36) (v := ?_) (a' := ?_) #[true, true, true, true, false, true, false, false, false, false, false, false] rfl rfl (by kernel_rfl) (fun _ _ _ h => h) (Or.inl ⟨by rfl, ?_⟩) ?_ ?_
    rotate_left
    · intro w2
      (go_simp; (try go_bits); with_reducible rfl)
    rotate_left
    · simp only [Act.put, List.setIfInBounds_toArray, List.set_cons_zero, List.set_cons_succ, i64_w, i32_w]
      rfl
    refine pure_ (i := 6) (N := some 37) (v := ?_) (a' := ?_) #[true, true, true, true, false, true, true, false, false, false, false, false] rfl rfl (by kernel_rfl) (fun _ _ _ h => h) (Or.inl ⟨by rfl, ?_⟩) ?_ ?_
    rotate_left
    · intro w2
      (go_simp; (try go_bits); with_reducible rfl)
    rotate_left
    · simp only [Act.put, List.setIfInBounds_toArray, List.set_cons_zero, List.set_cons_succ, i64_w, i32_w]
      rfl
    refine pure_ (i := 7) (N := some 38) (v := ?_) (a' := ?_) #[true, true, true, true, false, true, true, true, false, false, false, false] rfl rfl (by kernel_rfl) (fun _ _ _ h => h) (Or.inl ⟨by rfl, ?_⟩) ?_ ?_
    rotate_left
    · intro w2
      (go_simp; (try go_bits); with_reducible rfl)
    rotate_left
    · simp only [Act.put, List.setIfInBounds_toArray, List.set_cons_zero, List.set_cons_succ, i64_w, i32_w]
      rfl
    refine take_ (i := 4) (N := some 35) (v := ?_) (a' := ?_) #[true, true, true, true, true, true, true, true, false, false, false, false] rfl rfl (by kernel_rfl) (fun _ _ _ h => h) (Or.inl ⟨by rfl, ?_⟩) hHeld ?_ ?_
    rotate_left
    · intro w2 hS2
      have c0 := hS2.1.cell0
      (go_simp; (try go_bits); with_reducible rfl)
    rotate_left
    · simp only [Act.put, List.setIfInBounds_toArray, List.set_cons_zero, List.set_cons_succ, i64_w, i32_w]
      rfl
    refine last_ (i := 8) (N := some 39) #[true, true, true, true, true, true, true, true, true, false, false, false] rfl rfl (by kernel_rfl) (by decide) (fun K hK => ?_)
    refine ifw rfl ?_
    refine op_append_bytes (.tmp 35) (.tmp 38) rfl (l := st.code ++ [95 + (n : Int)]) rfl hHeld.1.code (ms := lowL (ofD (limbF a)) n) (by rw [lowL_length]; rfl) (byte_cells hHeld.2.1 n hn2) (by rw [lowL_length]; simp; omega) hHeld.2.2.2.2 ?_
    intro v6 w6 ho6 hg6
    obtain ⟨A6, c6, rfl, _⟩ := own_slice_of ho6
    have z0 : w6.cell? ⟨g, 0, none⟩ = some (.slice A1 (st.code.length + 1) c1) := (hHeld.1.blkCode hg6).cell 0
    have z1 := (hHeld.1.blkCode hg6).frozen 0
    refine hK.out _ _ ?_
    clear hK K
    refine norm_ (a' := ?_) ?_ ?_
    rotate_left
    · first | rfl | (simp only [Act.put, List.setIfInBounds_toArray, List.set_cons_zero, List.set_cons_succ, i64_w, i32_w]; rfl)
    refine pure_ (i := 9) (N := some 40) (v := ?_) (a' := ?_) #[true, true, true, true, true, true, true, true, true, true, false, false] rfl rfl (by kernel_rfl) (fun _ _ _ h => h) (Or.inl ⟨by rfl, ?_⟩) ?_ ?_
    rotate_left
    · intro w2
      (go_simp; (try go_bits); with_reducible rfl)
    rotate_left
    · simp only [Act.put, List.setIfInBounds_toArray, List.set_cons_zero, List.set_cons_succ, i64_w, i32_w]
      rfl
    refine pure_ (i := 10) (N := some 41) (v := ?_) (a' := ?_) #[true, true, true, true, true, true, true, true, true, true, true, false] rfl rfl (by kernel_rfl) (fun _ _ _ h => h) (Or.inl ⟨by rfl, ?_⟩) ?_ ?_
    rotate_left
    · intro w2
      (go_simp; (try go_bits); with_reducible rfl)
    rotate_left
    · simp only [Act.put, List.setIfInBounds_toArray, List.set_cons_zero, List.set_cons_succ, i64_w, i32_w]
      rfl
    refine last_ (i := 11) (N := none) #[true, true, true, true, true, true, true, true, true, true, true, true] rfl rfl (by kernel_rfl) (by decide) (fun K hK => ?_)
    (go_simp)
    refine hK.out _ _ ?_
    clear hK K
    refine norm_ (a' := ?_) ?_ ?_
    rotate_left
    · first | rfl | (simp only [Act.put, List.setIfInBounds_toArray, List.set_cons_zero, List.set_cons_succ, i64_w, i32_w]; rfl)
    refine done_ (by kernel_rfl) ?_
    have e6 : st.code ++ [95 + (n : Int)] ++ lowL (ofD (limbF a)) n = st.code ++ (95 + (n : Int)) :: bytesN a n := by simp [bytesN]
    go_wp2_with fail
    go_ret
    exact ⟨rfl, ⟨_, _, _, _, hHeld.1.setCode (OwnB.len (e6 ▸ ho6) (by simp [bytesN])) hg6 (by have := HLC.out; simp [bytesN, lowL_length]; omega)⟩, below_code hHeld.1 hHeld.2.2.1 hHeld.2.2.2.2 hg6 _, keep_code hHeld.1 hHeld.2.2.2.1 hg6 _, by have := hg6.size; have := hHeld.2.2.2.2; simp; omega⟩
  · have h3' := h3.symm
    subst h1
    subst h3'
    have hmx : max (n : Int) 1 = (n : Int) := by omega
    clear h2
    have tok1 : True := trivial
    have tok2 : True := trivial
    go_enter Tryz.func79, Tryz.ntmps79
    go_wp2_with (first | ((with_reducible refine gate_op (.load 31 (.tmp 5)) rfl ?_); refine wpl_load_blk rfl 31 (.tmp 5) rfl _ rfl _ _ _ (Blk.new _ _ _) Tryz.underlying31 rfl 4 size25 (arrF_size _ _ _) ?_) | (go_at_call 77; have _t := tok1; refine (HSZ.out _).mono ?_; rintro e w1 ⟨rfl, hb1⟩; clear tok1) | (go_at_call 77; have _t := tok2; refine (HSZ.out _).mono ?_; rintro e w2 ⟨rfl, hb2⟩; clear tok2) | ((with_reducible refine gate_op (.load 31 (.tmp 5)) rfl ?_); refine wpl_load_blk rfl 31 (.tmp 5) rfl _ rfl _ _ _ ((Blk.new _ _ _).below hb1) Tryz.underlying31 rfl 4 size25 (arrF_size _ _ _) ?_) | ((with_reducible refine gate_op (.load 31 (.tmp 5)) rfl ?_); refine wpl_load_blk rfl 31 (.tmp 5) rfl _ rfl _ _ _ (((Blk.new _ _ _).below hb1).below hb2) Tryz.underlying31 rfl 4 size25 (arrF_size _ _ _) ?_) | (go_at_call 91; refine (HBY.out _).mono ?_; rintro e w3 ⟨rfl, hb3⟩) | (((with_reducible refine gate_op (.store 121 (.tmp 7) (.tmp 18)) rfl ?_); refine wpl_store_blk rfl 121 (.tmp 7) (.tmp 18) rfl _ rfl _ _ _ rfl (Blk.new _ _ _) 32 size59 (arrF_size _ _ _) (arrF_size _ _ _) (arrF_one _ _ _) ?_; intro w4 hO4 hB4); have e4 : Below w.heap.size w w4 := Only.below (below_alloc (bel_then (bel_then (bel_then (below_alloc (Below.refl _ _) _) hb1) hb2) hb3) _) hO4 (by have := ((bel_then (bel_then (bel_then (below_alloc (Below.refl _ _) _) hb1) hb2) hb3)).size; omega); have M4 : MkP w4 base g (.slice A st.code.length c) bl vu bn st N := HH.out.below e4; have B4 : Below base w w4 := below_low (Below.refl _ _) hbs e4; have S4 : base ≤ w4.heap.size := Nat.le_trans hbs e4.size; have K4 : KeepM w w4 := (KeepM.refl _).below e4; have c0 := M4.cell0) | (at_builtin; refine print_append_num base rfl (.tmp 23) (.tmp 27) 22 5 .u8 1 rfl Tryz.underlying22 info5 (by decide) _ st.code (95 + (n : Int)) rfl rfl M4.code B4 S4 (by omega) ?_; intro v1 w5 ho hb5 hg5 _; obtain ⟨A1, c1, rfl, _⟩ := own_slice_of (base := base) ho; have z0 : w5.cell? ⟨g, 0, none⟩ = some (.slice A st.code.length c) := (M4.blkCode hg5).cell 0; have z1 := (M4.blkCode hg5).frozen 0))
    obtain ⟨ad', hsl', had'⟩ := slice_pad w3.heap.size n hn2
    have had' := had' hn1
    subst had'
    have hPS : PushS w base g w3.heap.size (.slice A1 (st.code.length + 1) c1) bl vu bn { st with code := st.code ++ [95 + (n : Int)] } (N + 1) (limbF a) (w5.setCell ⟨g, 0, none⟩ (.slice A1 (st.code.length + 1) c1)) := by
      refine ⟨(M4.more (Nat.le_succ N)).setCode (OwnB.len ho (by simp)) hg5 (by have := HLC.out; simp; omega), ?_, below_code M4 B4 S4 hg5 _, keep_code M4 K4 hg5 _, by have := hg5.size; simp; omega⟩
      exact (show Blk w5 w3.heap.size (arrF .u8 32 (byteF (limbF a))) 121 from blk_grown hB4 hg5 (blk_own_ne M4.code hB4 (by decide))).far (fun e => by
        have h1 := M4.blk
        rw [← show w3.heap.size = g from e] at h1
        have h2 := hB4.symm.trans h1
        injection h2 with h2
        injection h2 with _ h2
        exact absurd h2 (by decide)) _
    have hcl5 : st.code.length + 1 ≤ 4000001 := by omega
    clear hb5 hg5 ho z0 z1 c0 M4 B4 S4 K4 e4 hO4 hB4
    refine start_ (n := 12) (S := PushS w base g w3.heap.size (.slice A1 (st.code.length + 1) c1) bl vu bn { st with code := st.code ++ [95 + (n : Int)] } (N + 1) (limbF a)) (ds := [8, 11]) #[false, false, false, false, false, false, false, false, false, false, false, false] (by kernel_rfl) rfl rfl hPS.drew (fun hHeld => ?_)
    refine gen_last hHeld ?_
    clear hHeld
    intro wd hHeld
    refine pure_ (i := 0) (N := some 31) (v := ?_) (a' := ?_) #[true, false, false, false, false, false, false, false, false, false, false, false] rfl rfl (by kernel_rfl) (fun _ _ _ h => h) (Or.inl ⟨by rfl, ?_⟩) ?_ ?_
    rotate_left
    · intro w2
      (go_simp; (try go_bits); with_reducible rfl)
    rotate_left
    · simp only [Act.put, List.setIfInBounds_toArray, List.set_cons_zero, List.set_cons_succ, i64_w, i32_w]
      rfl
    refine pure_ (i := 1) (N := some 32) (v := ?_) (a' := ?_) #[true, true, false, false, false, false, false, false, false, false, false, false] rfl rfl (by kernel_rfl) (fun _ _ _ h => h) (Or.inl ⟨by rfl, ?_⟩) ?_ ?_
    rotate_left
    · intro w2
      (go_simp; (try go_bits); with_reducible rfl)
    rotate_left
    · simp only [Act.put, List.setIfInBounds_toArray, List.set_cons_zero, List.set_cons_succ, i64_w, i32_w]
      rfl
    refine pure_ (i := 2) (N := some 33) (v := ?_) (a' := ?_) #[true, true, true, false, false, false, false, false, false, false, false, false] rfl rfl (by kernel_rfl) (fun _ _ _ h => h) (Or.inl ⟨by rfl, ?_⟩) ?_ ?_
    rotate_left
    · intro w2
      (go_simp; (try go_bits); with_reducible rfl)
    rotate_left
    · simp only [Act.put, List.setIfInBounds_toArray, List.set_cons_zero, List.set_cons_succ, i64_w, i32_w]
      rfl
    refine pure_ (i := 3) (N := some 34) (v := ?_) (a' := ?_) #[true, true, true, true, false, false, false, false, false, false, false, false] rfl rfl (by kernel_rfl) (fun _ _ _ h => h) (Or.inl ⟨by rfl, ?_⟩) ?_ ?_
    rotate_left
    · intro w2
      (go_simp; (try go_bits); with_reducible rfl)
    rotate_left
    · simp only [Act.put, List.setIfInBounds_toArray, List.set_cons_zero, List.set_cons_succ, i64_w, i32_w]
      rfl
    refine pure_ (i := 5) (N := some 36) (v := ?_) (a' := ?_) #[true, true, true, true, false, true, false, false, false, false, false, false] rfl rfl (by kernel_rfl) (fun _ _ _ h => h) (Or.inl ⟨by rfl, ?_⟩) ?_ ?_
    rotate_left
    · intro w2
      (go_simp; (try go_bits); with_reducible rfl)
    rotate_left
    · simp only [Act.put, List.setIfInBounds_toArray, List.set_cons_zero, List.set_cons_succ, i64_w, i32_w]
      rfl
    refine pure_ (i := 6) (N := some 37) (v := ?_) (a' := ?_) #[true, true, true, true, false, true, true, false, false, false, false, false] rfl rfl (by kernel_rfl) (fun _ _ _ h => h) (Or.inl ⟨by rfl, ?_⟩) ?_ ?_
    rotate_left
    · intro w2
      (go_simp; (try go_bits); with_reducible rfl)
    rotate_left
    · simp only [Act.put, List.setIfInBounds_toArray, List.set_cons_zero, List.set_cons_succ, i64_w, i32_w]
      rfl
    refine pure_ (i := 7) (N := some 38) (v := ?_) (a' := ?_) #[true, true, true, true, false, true, true, true, false, false, false, false] rfl rfl (by kernel_rfl) (fun _ _ _ h => h) (Or.inl ⟨by rfl, ?_⟩) ?_ ?_
    rotate_left
    · intro w2
      (go_simp; (try go_bits); with_reducible rfl)
    rotate_left
    · simp only [Act.put, List.setIfInBounds_toArray, List.set_cons_zero, List.set_cons_succ, i64_w, i32_w]
      rfl
    refine take_ (i := 4) (N := some 35) (v := ?_) (a' := ?_) #[true, true, true, true, true, true, true, true, false, false, false, false] rfl rfl (by kernel_rfl) (fun _ _ _ h => h) (Or.inl ⟨by rfl, ?_⟩) hHeld ?_ ?_
    rotate_left
    · intro w2 hS2
      have c0 := hS2.1.cell0
      (go_simp; (try go_bits); with_reducible rfl)
    rotate_left
    · simp only [Act.put, List.setIfInBounds_toArray, List.set_cons_zero, List.set_cons_succ, i64_w, i32_w]
      rfl
    refine last_ (i := 8) (N := some 39) #[true, true, true, true, true, true, true, true, true, false, false, false] rfl rfl (by kernel_rfl) (by decide) (fun K hK => ?_)
    refine ifw rfl ?_
    refine op_append_bytes (.tmp 35) (.tmp 38) rfl (l := st.code ++ [95 + (n : Int)]) rfl hHeld.1.code (ms := lowL (ofD (limbF a)) n) (by rw [lowL_length]; rfl) (byte_cells hHeld.2.1 n hn2) (by rw [lowL_length]; simp; omega) hHeld.2.2.2.2 ?_
    intro v6 w6 ho6 hg6
    obtain ⟨A6, c6, rfl, _⟩ := own_slice_of ho6
    have z0 : w6.cell? ⟨g, 0, none⟩ = some (.slice A1 (st.code.length + 1) c1) := (hHeld.1.blkCode hg6).cell 0
    have z1 := (hHeld.1.blkCode hg6).frozen 0
    refine hK.out _ _ ?_
    clear hK K
    refine norm_ (a' := ?_) ?_ ?_
    rotate_left
    · first | rfl | (simp only [Act.put, List.setIfInBounds_toArray, List.set_cons_zero, List.set_cons_succ, i64_w, i32_w]; rfl)
    refine pure_ (i := 9) (N := some 40) (v := ?_) (a' := ?_) #[true, true, true, true, true, true, true, true, true, true, false, false] rfl rfl (by kernel_rfl) (fun _ _ _ h => h) (Or.inl ⟨by rfl, ?_⟩) ?_ ?_
    rotate_left
    · intro w2
      (go_simp; (try go_bits); with_reducible rfl)
    rotate_left
    · simp only [Act.put, List.setIfInBounds_toArray, List.set_cons_zero, List.set_cons_succ, i64_w, i32_w]
      rfl
    refine pure_ (i := 10) (N := some 41) (v := ?_) (a' := ?_) #[true, true, true, true, true, true, true, true, true, true, true, false] rfl rfl (by kernel_rfl) (fun _ _ _ h => h) (Or.inl ⟨by rfl, ?_⟩) ?_ ?_
    rotate_left
    · intro w2
      (go_simp; (try go_bits); with_reducible rfl)
    rotate_left
    · simp only [Act.put, List.setIfInBounds_toArray, List.set_cons_zero, List.set_cons_succ, i64_w, i32_w]
      rfl
    refine last_ (i := 11) (N := none) #[true, true, true, true, true, true, true, true, true, true, true, true] rfl rfl (by kernel_rfl) (by decide) (fun K hK => ?_)
    (go_simp)
    refine hK.out _ _ ?_
    clear hK K
    refine norm_ (a' := ?_) ?_ ?_
    rotate_left
    · first | rfl | (simp only [Act.put, List.setIfInBounds_toArray, List.set_cons_zero, List.set_cons_succ, i64_w, i32_w]; rfl)
    refine done_ (by kernel_rfl) ?_
    have e6 : st.code ++ [95 + (n : Int)] ++ lowL (ofD (limbF a)) n = st.code ++ (95 + (n : Int)) :: bytesN a n := by simp [bytesN]
    go_wp2_with fail
    go_ret
    exact ⟨rfl, ⟨_, _, _, _, hHeld.1.setCode (OwnB.len (e6 ▸ ho6) (by simp [bytesN])) hg6 (by have := HLC.out; simp [bytesN, lowL_length]; omega)⟩, below_code hHeld.1 hHeld.2.2.1 hHeld.2.2.2.2 hg6 _, keep_code hHeld.1 hHeld.2.2.2.1 hg6 _, by have := hg6.size; have := hHeld.2.2.2.2; simp; omega⟩
  · subst h1
    subst h2
    subst h3
    have hmx : max (0 : Int) 1 = 1 := by decide
    have tok1 : True := trivial
    have tok2 : True := trivial
    go_enter Tryz.func79, Tryz.ntmps79
    go_wp2_with (first | ((with_reducible refine gate_op (.load 31 (.tmp 5)) rfl ?_); refine wpl_load_blk rfl 31 (.tmp 5) rfl _ rfl _ _ _ (Blk.new _ _ _) Tryz.underlying31 rfl 4 size25 (arrF_size _ _ _) ?_) | (go_at_call 77; have _t := tok1; refine (HSZ.out _).mono ?_; rintro e w1 ⟨rfl, hb1⟩; clear tok1) | (go_at_call 77; have _t := tok2; refine (HSZ.out _).mono ?_; rintro e w2 ⟨rfl, hb2⟩; clear tok2) | ((with_reducible refine gate_op (.load 31 (.tmp 5)) rfl ?_); refine wpl_load_blk rfl 31 (.tmp 5) rfl _ rfl _ _ _ ((Blk.new _ _ _).below hb1) Tryz.underlying31 rfl 4 size25 (arrF_size _ _ _) ?_) | ((with_reducible refine gate_op (.load 31 (.tmp 5)) rfl ?_); refine wpl_load_blk rfl 31 (.tmp 5) rfl _ rfl _ _ _ (((Blk.new _ _ _).below hb1).below hb2) Tryz.underlying31 rfl 4 size25 (arrF_size _ _ _) ?_) | (go_at_call 91; refine (HBY.out _).mono ?_; rintro e w3 ⟨rfl, hb3⟩) | (((with_reducible refine gate_op (.store 121 (.tmp 7) (.tmp 18)) rfl ?_); refine wpl_store_blk rfl 121 (.tmp 7) (.tmp 18) rfl _ rfl _ _ _ rfl (Blk.new _ _ _) 32 size59 (arrF_size _ _ _) (arrF_size _ _ _) (arrF_one _ _ _) ?_; intro w4 hO4 hB4); have e4 : Below w.heap.size w w4 := Only.below (below_alloc (bel_then (bel_then (bel_then (below_alloc (Below.refl _ _) _) hb1) hb2) hb3) _) hO4 (by have := ((bel_then (bel_then (bel_then (below_alloc (Below.refl _ _) _) hb1) hb2) hb3)).size; omega); have M4 : MkP w4 base g (.slice A st.code.length c) bl vu bn st N := HH.out.below e4; have B4 : Below base w w4 := below_low (Below.refl _ _) hbs e4; have S4 : base ≤ w4.heap.size := Nat.le_trans hbs e4.size; have K4 : KeepM w w4 := (KeepM.refl _).below e4; have c0 := M4.cell0) | (at_builtin; refine print_append_num base rfl (.tmp 23) (.tmp 27) 22 5 .u8 1 rfl Tryz.underlying22 info5 (by decide) _ st.code 96 rfl rfl M4.code B4 S4 (by omega) ?_; intro v1 w5 ho hb5 hg5 _; obtain ⟨A1, c1, rfl, _⟩ := own_slice_of (base := base) ho; have z0 : w5.cell? ⟨g, 0, none⟩ = some (.slice A st.code.length c) := (M4.blkCode hg5).cell 0; have z1 := (M4.blkCode hg5).frozen 0))
    obtain ⟨ad', hsl', had'⟩ := slice_pad w3.heap.size 1 (by decide)
    have had' := had' (by decide)
    subst had'
    have hsl2 : ∀ W, (Instr.sliceAt 121 (.pointer (some ⟨w3.heap.size, 0, none⟩)) (some (.int .i64 31)) none none).run Tryz.prog W = .ok (.slice (some ⟨w3.heap.size, 31, none⟩) 1 1) W := hsl'
    clear hsl'
    have hPS : PushS w base g w3.heap.size (.slice A1 (st.code.length + 1) c1) bl vu bn { st with code := st.code ++ [96] } (N + 1) (limbF a) (w5.setCell ⟨g, 0, none⟩ (.slice A1 (st.code.length + 1) c1)) := by
      refine ⟨(M4.more (Nat.le_succ N)).setCode (OwnB.len ho (by simp)) hg5 (by have := HLC.out; simp; omega), ?_, below_code M4 B4 S4 hg5 _, keep_code M4 K4 hg5 _, by have := hg5.size; simp; omega⟩
      exact (show Blk w5 w3.heap.size (arrF .u8 32 (byteF (limbF a))) 121 from blk_grown hB4 hg5 (blk_own_ne M4.code hB4 (by decide))).far (fun e => by
        have h1 := M4.blk
        rw [← show w3.heap.size = g from e] at h1
        have h2 := hB4.symm.trans h1
        injection h2 with h2
        injection h2 with _ h2
        exact absurd h2 (by decide)) _
    have hcl5 : st.code.length + 1 ≤ 4000001 := by omega
    clear hb5 hg5 ho z0 z1 c0 M4 B4 S4 K4 e4 hO4 hB4
    refine start_ (n := 12) (S := PushS w base g w3.heap.size (.slice A1 (st.code.length + 1) c1) bl vu bn { st with code := st.code ++ [96] } (N + 1) (limbF a)) (ds := [8, 11]) #[false, false, false, false, false, false, false, false, false, false, false, false] (by kernel_rfl) rfl rfl hPS.drew (fun hHeld => ?_)
    refine gen_last hHeld ?_
    clear hHeld
    intro wd hHeld
    refine pure_ (i := 0) (N := some 31) (v := ?_) (a' := ?_) #[true, false, false, false, false, false, false, false, false, false, false, false] rfl rfl (by kernel_rfl) (fun _ _ _ h => h) (Or.inl ⟨by rfl, ?_⟩) ?_ ?_
    rotate_left
    · intro w2
      (go_simp; (try go_bits); with_reducible rfl)
    rotate_left
    · simp only [Act.put, List.setIfInBounds_toArray, List.set_cons_zero, List.set_cons_succ, i64_w, i32_w]
      rfl
    refine pure_ (i := 1) (N := some 32) (v := ?_) (a' := ?_) #[true, true, false, false, false, false, false, false, false, false, false, false] rfl rfl (by kernel_rfl) (fun _ _ _ h => h) (Or.inl ⟨by rfl, ?_⟩) ?_ ?_
    rotate_left
    · intro w2
      (go_simp; (try go_bits); with_reducible rfl)
    rotate_left
    · simp only [Act.put, List.setIfInBounds_toArray, List.set_cons_zero, List.set_cons_succ, i64_w, i32_w]
      rfl
    refine pure_ (i := 2) (N := some 33) (v := ?_) (a' := ?_) #[true, true, true, false, false, false, false, false, false, false, false, false] rfl rfl (by kernel_rfl) (fun _ _ _ h => h) (Or.inl ⟨by rfl, ?_⟩) ?_ ?_
    rotate_left
    · intro w2
      (go_simp; (try go_bits); with_reducible rfl)
    rotate_left
    · simp only [Act.put, List.setIfInBounds_toArray, List.set_cons_zero, List.set_cons_succ, i64_w, i32_w]
      rfl
    refine pure_ (i := 3) (N := some 34) (v := ?_) (a' := ?_) #[true, true, true, true, false, false, false, false, false, false, false, false] rfl rfl (by kernel_rfl) (fun _ _ _ h => h) (Or.inl ⟨by rfl, ?_⟩) ?_ ?_
    rotate_left
    · intro w2
      (go_simp; (try go_bits); with_reducible rfl)
    rotate_left
    · simp only [Act.put, List.setIfInBounds_toArray, List.set_cons_zero, List.set_cons_succ, i64_w, i32_w]
      rfl
    refine pure_ (i := 5) (N := some 36) (v := ?_) (a' := ?_) #[true, true, true, true, false, true, false, false, false, false, false, false] rfl rfl (by kernel_rfl) (fun _ _ _ h => h) (Or.inl ⟨by rfl, ?_⟩) ?_ ?_
    rotate_left
    · intro w2
      (go_simp; (try go_bits); with_reducible rfl)
    rotate_left
    · simp only [Act.put, List.setIfInBounds_toArray, List.set_cons_zero, List.set_cons_succ, i64_w, i32_w]
      rfl
    refine pure_ (i := 6) (N := some 37) (v := ?_) (a' := ?_) #[true, true, true, true, false, true, true, false, false, false, false, false] rfl rfl (by kernel_rfl) (fun _ _ _ h => h) (Or.inl ⟨by rfl, ?_⟩) ?_ ?_
    rotate_left
    · intro w2
      (go_simp; (try go_bits); with_reducible rfl)
    rotate_left
    · simp only [Act.put, List.setIfInBounds_toArray, List.set_cons_zero, List.set_cons_succ, i64_w, i32_w]
      rfl
    refine pure_ (i := 7) (N := some 38) (v := ?_) (a' := ?_) #[true, true, true, true, false, true, true, true, false, false, false, false] rfl rfl (by kernel_rfl) (fun _ _ _ h => h) (Or.inl ⟨by rfl, ?_⟩) ?_ ?_
    rotate_left
    · intro w2
      (go_simp; (try go_bits); with_reducible rfl)
    rotate_left
    · simp only [Act.put, List.setIfInBounds_toArray, List.set_cons_zero, List.set_cons_succ, i64_w, i32_w]
      rfl
    refine take_ (i := 4) (N := some 35) (v := ?_) (a' := ?_) #[true, true, true, true, true, true, true, true, false, false, false, false] rfl rfl (by kernel_rfl) (fun _ _ _ h => h) (Or.inl ⟨by rfl, ?_⟩) hHeld ?_ ?_
    rotate_left
    · intro w2 hS2
      have c0 := hS2.1.cell0
      (go_simp; (try go_bits); with_reducible rfl)
    rotate_left
    · simp only [Act.put, List.setIfInBounds_toArray, List.set_cons_zero, List.set_cons_succ, i64_w, i32_w]
      rfl
    refine last_ (i := 8) (N := some 39) #[true, true, true, true, true, true, true, true, true, false, false, false] rfl rfl (by kernel_rfl) (by decide) (fun K hK => ?_)
    refine ifw rfl ?_
    refine op_append_bytes (.tmp 35) (.tmp 38) rfl (l := st.code ++ [96]) rfl hHeld.1.code (ms := lowL (ofD (limbF a)) 1) (by rw [lowL_length]; rfl) (byte_cells hHeld.2.1 1 (by decide)) (by rw [lowL_length]; simp; omega) hHeld.2.2.2.2 ?_
    intro v6 w6 ho6 hg6
    obtain ⟨A6, c6, rfl, _⟩ := own_slice_of ho6
    have z0 : w6.cell? ⟨g, 0, none⟩ = some (.slice A1 (st.code.length + 1) c1) := (hHeld.1.blkCode hg6).cell 0
    have z1 := (hHeld.1.blkCode hg6).frozen 0
    refine hK.out _ _ ?_
    clear hK K
    refine norm_ (a' := ?_) ?_ ?_
    rotate_left
    · first | rfl | (simp only [Act.put, List.setIfInBounds_toArray, List.set_cons_zero, List.set_cons_succ, i64_w, i32_w]; rfl)
    refine pure_ (i := 9) (N := some 40) (v := ?_) (a' := ?_) #[true, true, true, true, true, true, true, true, true, true, false, false] rfl rfl (by kernel_rfl) (fun _ _ _ h => h) (Or.inl ⟨by rfl, ?_⟩) ?_ ?_
    rotate_left
    · intro w2
      (go_simp; (try go_bits); with_reducible rfl)
    rotate_left
    · simp only [Act.put, List.setIfInBounds_toArray, List.set_cons_zero, List.set_cons_succ, i64_w, i32_w]
      rfl
    refine pure_ (i := 10) (N := some 41) (v := ?_) (a' := ?_) #[true, true, true, true, true, true, true, true, true, true, true, false] rfl rfl (by kernel_rfl) (fun _ _ _ h => h) (Or.inl ⟨by rfl, ?_⟩) ?_ ?_
    rotate_left
    · intro w2
      (go_simp; (try go_bits); with_reducible rfl)
    rotate_left
    · simp only [Act.put, List.setIfInBounds_toArray, List.set_cons_zero, List.set_cons_succ, i64_w, i32_w]
      rfl
    refine last_ (i := 11) (N := none) #[true, true, true, true, true, true, true, true, true, true, true, true] rfl rfl (by kernel_rfl) (by decide) (fun K hK => ?_)
    (go_simp)
    refine hK.out _ _ ?_
    clear hK K
    refine norm_ (a' := ?_) ?_ ?_
    rotate_left
    · first | rfl | (simp only [Act.put, List.setIfInBounds_toArray, List.set_cons_zero, List.set_cons_succ, i64_w, i32_w]; rfl)
    refine done_ (by kernel_rfl) ?_
    have e6 : st.code ++ [96] ++ lowL (ofD (limbF a)) 1 = st.code ++ (96) :: bytesN a 1 := by simp [bytesN]
    go_wp2_with fail
    go_ret
    exact ⟨rfl, ⟨_, _, _, _, hHeld.1.setCode (OwnB.len (e6 ▸ ho6) (by simp [bytesN])) hg6 (by have := HLC.out; simp [bytesN, lowL_length]; omega)⟩, below_code hHeld.1 hHeld.2.2.1 hHeld.2.2.2.2 hg6 _, keep_code hHeld.1 hHeld.2.2.2.1 hg6 _, by have := hg6.size; have := hHeld.2.2.2.2; simp; omega⟩
end Go.Proofs.YtibhijjmmagdcaaGreatDoor

/- asm's maker: with, walked. -/
namespace Go.Proofs.YtibhijjmmagdcaaGreatDoor
set_option linter.unusedVariables false
set_option linter.unusedSimpArgs false
open Go.RowKit Go.Proofs.YtibhijjmmagdcaaGreatDoorW.PrintWords Go.Proofs.YtibhijjmmagdcaaGreatDoorW.PrintLast
theorem push_any (size : Nat) (hsz : size ≤ 32) (a : Int) (ha : 0 ≤ a ∧ a < M256) (w : World) (base g bl bn N : Nat) (vc vu : Value) (st : MkF) (h : MkP w base g vc bl vu bn st N) (hbs : base ≤ w.heap.size) (hN : N ≤ 100000) :
    Calls Tryz.prog 79 #[.pointer (some ⟨g, 0, none⟩), .int .i64 size, wordF (limbF a)] w fun e w' => MkOut w base g (pushF size a st) (N + 1) e w' := by
  have h32 := sizeN_32 ha.1 ha.2
  by_cases h0 : size = 0
  · by_cases hz : sizeN a = 0
    · rw [pushF_of (n := 1) (by rw [if_pos h0, hz]; rfl), if_neg (by omega)]
      exact push_ok size 1 a ha w base g bl bn N vc vu st h hbs hN (by omega) (by omega) (by omega) (.inr (.inr ⟨h0, hz, rfl⟩))
    · rw [pushF_of (n := sizeN a) (by rw [if_pos h0]; omega), if_neg (by omega)]
      exact push_ok size (sizeN a) a ha w base g bl bn N vc vu st h hbs hN (by omega) h32 (by omega) (.inr (.inl ⟨h0, by omega, rfl⟩))
  · rw [pushF_of (n := size) (by rw [if_neg h0])]
    by_cases hz : size < sizeN a
    · rw [if_pos hz]
      exact push_err size a ha w base g bl bn N vc vu st h hbs (by omega) hz
    · rw [if_neg hz]
      exact push_ok size size a ha w base g bl bn N vc vu st h hbs hN (by omega) hsz (by omega) (.inl ⟨by omega, rfl⟩)
theorem numVal_range (l : List Int) : 0 ≤ numVal l ∧ numVal l < M256 := by
  cases hr : rest0x l with
  | some r => rw [numVal_six hr]; exact sixVal_range r
  | none =>
    by_cases he : numErr l ≠ 0
    · have : numVal l = 0 := if_pos he
      rw [this]; decide
    · have e : numVal l = dnum l := by unfold numVal; rw [if_neg he, hr]
      have e2 : numErr l = if l = [] ∨ l.all isDig = false then 2 else if 78 < l.length ∨ M256 ≤ dnum l then 5 else 0 := by unfold numErr; rw [hr]
      rw [e2] at he
      by_cases h1 : l = [] ∨ l.all isDig = false
      · rw [if_pos h1] at he; simp at he
      · rw [if_neg h1] at he
        by_cases h2 : 78 < l.length ∨ M256 ≤ dnum l
        · rw [if_pos h2] at he; simp at he
        · have hd : l.all isDig = true := by
            cases hb : l.all isDig with
            | true => rfl
            | false => exact absurd (.inr hb) h1
          have := dnum_pos l hd
          rw [e]
          omega
theorem numErr_vals (l : List Int) : numErr l = 0 ∨ numErr l = 2 ∨ numErr l = 5 := by
  unfold numErr
  split <;> split <;> (try split) <;> simp
theorem pushes_range {l : List Int} {z : Int} (h : pushesF l = some z) : 0 ≤ z ∧ z ≤ 32 := by
  unfold pushesF at h
  by_cases hp : l = PUSH
  · rw [if_pos hp] at h; injection h with h; omega
  · rw [if_neg hp] at h
    cases ho : opF l with
    | none => rw [ho] at h; cases h
    | some op =>
      rw [ho] at h
      simp only at h
      by_cases hr : 96 ≤ op ∧ op ≤ 127
      · rw [if_pos hr] at h; injection h with h; omega
      · rw [if_neg hr] at h; cases h
theorem op_push {l : List Int} {op : Int} (h : opF l = none) (hp : l ≠ PUSH) : pushesF l = none := by unfold pushesF; rw [if_neg hp, h]
theorem one_cells (w : World) (a : Int) : ∀ j u, (nums .u8 [a])[j]? = some u → (w.alloc (.cells #[.int .u8 a] 5)).cell? ((⟨w.heap.size, 0, none⟩ : Addr).add j) = some u := by
  intro j u hj
  obtain ⟨hl, rfl⟩ := nums_get hj
  simp at hl
  subst hl
  rw [add_plain]
  exact (Blk.new w _ _).cell 0
/-- What 'with' does behind its tests of the name. -/
def withT (n : Int) (nm what : List Int) (st : MkF) : Int × MkF :=
  if nm = PUSH ∧ what.head? = some 64 then
    (if namedF what.tail then (0, { st with uses := st.uses ++ [((st.code.length : Int) + 1, n, what.tail)], code := st.code ++ [97, 0, 0] }) else (2, st)) else
  if numErr what ≠ 0 then (numErr what, st) else
  match pushesF nm with
  | none => if 1 < sizeN (numVal what) then (5, st) else (0, { st with code := st.code ++ [numVal what] })
  | some k => pushF k.toNat (numVal what) st
set_option maxRecDepth 100000 in
theorem with_name (n : Int) (nm what : ByteArray) (hs : nm.size ≤ 100000) (w : World) (base g bl bn N : Nat) (vc vu : Value) (st : MkF) (h : MkP w base g vc bl vu bn st N) (hbs : base ≤ w.heap.size)
    (hp : pushesF (bytesOf nm) = none) (hb : nm ≠ ⟨#[66, 89, 84, 69, 49]⟩) :
    Calls Tryz.prog 45 #[.pointer (some ⟨g, 0, none⟩), .int .i64 n, .string nm, .string what] w fun e w' => MkOut w base g (if (opF (bytesOf nm)).isSome then 2 else 16, st) (N + 1) e w' := by
  have hpu := pushes_any nm hs w base g bl bn N vc vu st h
  rw [hp] at hpu
  have HPU := Lib.hid hpu
  have c3 := h.cell3
  have lk := NM.ask h.names nm (by unfold maxLen; omega)
  have HH := Lib.hid h
  have SAME := Lib.hid (fun (e : Ending) (r : Int) (he : e = .returned (.int .i64 r)) => (⟨he, ⟨_, _, _, _, h.more (by omega)⟩, Below.refl _ _, KeepM.refl _, hbs⟩ : MkOut w base g (r, st) (N + 1) e w))
  have hbb := str_ne (l := [66, 89, 84, 69, 49]) hb
  have hbc := str_nb (l := [66, 89, 84, 69, 49]) hb
  have HBB := Lib.hid hb
  clear h hpu hp hb
  cases ho : (opF (bytesOf nm)).isSome with
  | true =>
    rw [ho] at lk
    rw [if_pos rfl]
    clear ho
    go_enter Tryz.func45, Tryz.ntmps45
    go_wp2_with ((go_at_call 76; refine HPU.out.mono ?_; rintro e w1 ⟨rfl, rfl⟩))
    go_ret
    exact SAME.out _ _ rfl
  | false =>
    rw [ho] at lk
    rw [if_neg (by decide)]
    clear ho
    go_enter Tryz.func45, Tryz.ntmps45
    go_wp2_with ((go_at_call 76; refine HPU.out.mono ?_; rintro e w1 ⟨rfl, rfl⟩))
    go_ret
    exact SAME.out _ _ rfl
end Go.Proofs.YtibhijjmmagdcaaGreatDoor
