/- Small common lemmas of this seat: how memory below a call stays as it was; blocks known whole; arrays as values. -/
import Derived.Test.YtibhijjmmagdcaaGreatDoorProg
import Derived.WalkKit
import Derived.WalkSpells
import Derived.WalkLawsBesides
import Derived.Outline
import Derived.Below
import Derived.Lib.Hide
import Derived.Deep.QuietTactic
import Derived.BigQuiet
import Derived.Deep.RegionHeld3
import Derived.Deep.MidRow
import Derived.Deep.LoopGhost
import Derived.Test.YtibhijjmmagdcaaGreatDoorWWords
import Derived.Test.YtibhijjmmagdcaaGreatDoorWLast
import Derived.Test.YtibhijjmmagdcaaGreatDoorWTab
namespace Go.Proofs.YtibhijjmmagdcaaGreatDoor
set_option linter.unusedVariables false
set_option linter.unusedSimpArgs false
open Go.RowKit Go.Proofs.YtibhijjmmagdcaaGreatDoorW.PrintWords Go.Proofs.YtibhijjmmagdcaaGreatDoorW.PrintLast
theorem bel_set {w W : World} (h : Below w.heap.size w W) {p : Addr} (hp : w.heap.size ≤ p.block) (u : Value) : Below w.heap.size w (W.setCell p u) := h.setCell hp u
theorem bel_then {w w1 w2 : World} (h : Below w.heap.size w w1) (k : Below w1.heap.size w1 w2) : Below w.heap.size w w2 := below_then h h.size k
theorem bel_drew {w W : World} (h : Below w.heap.size w W) : Below w.heap.size w W.drew := below_drew h
theorem bel_drewN {w W : World} (h : Below w.heap.size w W) (n : Nat) : Below w.heap.size w (W.drewN n) := pw_below_drewN h n
theorem bel_cell {w w1 : World} (h : Below w.heap.size w w1) {a : Addr} {v : Value} (hc : w.cell? a = some v) : w1.cell? a = some v := pw_cell_below h hc

/-- A block of plain cells, whole. -/
def Blk (w : World) (g : Nat) (cs : Array Value) (t : Nat) : Prop := w.heap[g]? = some (.cells cs t (0, 0))
section
variable {w w1 : World} {g : Nat} {cs : Array Value} {t : Nat}
theorem Blk.cell (h : Blk w g cs t) (i : Nat) : w.cell? ⟨g, i, none⟩ = cs[i]? := blk_cell h i
theorem Blk.frozen (h : Blk w g cs t) (i : Nat) : w.frozen? ⟨g, i, none⟩ = false := blk_frozen h i
theorem Blk.below (h : Blk w g cs t) (hb : Below w.heap.size w w1) : Blk w1 g cs t := blk_below h hb
theorem Blk.drew (h : Blk w g cs t) : Blk w.drew g cs t := h
theorem Blk.drewN (h : Blk w g cs t) (n : Nat) : Blk (w.drewN n) g cs t := h
theorem Blk.alloc (h : Blk w g cs t) (o : Obj) : Blk (w.alloc o) g cs t := h.below (below_alloc (Below.refl _ _) o)
theorem Blk.new (w : World) (cs : Array Value) (t : Nat) : Blk (w.alloc (.cells cs t)) w.heap.size cs t := heap_alloc_new w _
theorem Blk.set (h : Blk w g cs t) (i : Nat) (u : Value) : Blk (w.setCell ⟨g, i, none⟩ u) g (cs.setIfInBounds i u) t := blk_set h i u
theorem Blk.far (h : Blk w g cs t) {p : Addr} (hp : g ≠ p.block) (u : Value) : Blk (w.setCell p u) g cs t := blk_far h hp u
theorem Blk.lt (h : Blk w g cs t) : g < w.heap.size := blk_lt h
theorem Blk.new' (w : World) (cs : Array Value) (t : Nat) {g : Nat} (hg : g = w.heap.size) : Blk (w.alloc (.cells cs t)) g cs t := hg ▸ Blk.new w cs t
theorem Blk.congr (h : Blk w g cs t) {cs' : Array Value} (e : cs = cs') : Blk w g cs' t := e ▸ h
end
theorem wp_any_world {P : Program} {c : Code} {Q : Exit → Act → World → Prop} {a : Act} {w : World} (S : World → Prop) (h0 : S w) (h : ∀ W, S W → c.wp P Q a W) : c.wp P Q a w := h w h0

/-- Behind a draw: whatever world meets S. -/
theorem gen_last {P : Program} {md : Region.Mode} {ops : Array Oper} {Q : Exit → Act → World → Prop} {S : World → Prop} {ds : List Nat} {n : Nat} {l : Array Bool} {a : Act} {w : World} (h : S w)
    (hg : ∀ W, S W → wpAnyLast P md ops Q S ds n l a W) : wpAnyLast P md ops Q S ds n l a w := hg w h
theorem ifw {c : Bool} {A B : Prop} (hc : c = true) (h : A) : if c = true then A else B := by rw [if_pos hc]; exact h
/-- W1 is W but for block g. -/
structure Only (W W1 : World) (g : Nat) : Prop where
  os : W1.os = W.os
  tape : W1.tape = W.tape
  output : W1.output = W.output
  size : W1.heap.size = W.heap.size
  block : ∀ k, k ≠ g → W1.heap[k]? = W.heap[k]?
theorem Only.below {w W W1 : World} {g B : Nat} (h : Below B w W) (ho : Only W W1 g) (hg : B ≤ g) : Below B w W1 :=
  ⟨ho.os.trans h.os, ho.tape.trans h.tape, ho.output.trans h.output, by have := h.size; have := ho.size; omega, fun k hk => (ho.block k (by omega)).trans (h.block k hk)⟩
theorem Only.blk {W W1 : World} {g k : Nat} {cs : Array Value} {t : Nat} (h : Blk W k cs t) (ho : Only W W1 g) (hk : k ≠ g) : Blk W1 k cs t := (ho.block k hk).trans h
theorem setCells_only (g : Nat) (vs : List Value) : ∀ (W : World) (cs : Array Value) (t : Nat) (o : Nat), Blk W g cs t → o + vs.length = cs.size →
    Only W (W.setCells g o vs) g ∧ Blk (W.setCells g o vs) g (cs.toList.take o ++ vs).toArray t := by
  induction vs with
  | nil =>
    intro W cs t o h hl
    refine ⟨⟨rfl, rfl, rfl, rfl, fun _ _ => rfl⟩, ?_⟩
    have : cs.toList.take o = cs.toList := List.take_of_length_le (by simp at hl ⊢; omega)
    rw [List.append_nil, this]
    exact h
  | cons v vs ih =>
    intro W cs t o h hl
    have h1 := h.set o v
    simp only [List.length_cons] at hl
    obtain ⟨ho, hb⟩ := ih (W.setCell ⟨g, o, none⟩ v) _ t (o + 1) h1 (by rw [Array.size_setIfInBounds]; omega)
    have hlt : o < cs.size := by omega
    refine ⟨⟨ho.os, ho.tape, ho.output, by have := ho.size; simp [World.setCell] at this ⊢; exact this, fun k hk => (ho.block k hk).trans (Below.heap_setCell W ⟨g, o, none⟩ v k hk)⟩, ?_⟩
    have e : ((cs.setIfInBounds o v).toList.take (o + 1) ++ vs) = cs.toList.take o ++ (v :: vs) := by
      rw [Array.toList_setIfInBounds, List.take_add_one, List.take_set_of_le (Nat.le_refl o), List.getElem?_set_self (by simpa using hlt)]
      simp
    rw [e] at hb
    exact hb
section
variable {P : Program} {ops : Array Oper} {rest : List Oper} {o : Oper} {a : Act} {w : World} {Q : Exit → Act → World → Prop}
/-- An operation behind a guard that holds. -/
theorem guard_on (hw : Region.wanted o (yielded ops a.tmps) = true) (h : wpList P ops Q ({ o with guard := none } :: rest) a w) : wpList P ops Q (o :: rest) a w := by
  have h1 : Region.wanted { o with guard := none } (yielded ops a.tmps) = true := rfl
  unfold wpList at h ⊢
  rw [if_pos h1] at h
  rw [if_pos hw]
  exact h
/-- A guard: is this the operation? -/
theorem gate_op (x : Op) (_ho : o.op = x) (h : wpList P ops Q (o :: rest) a w) : wpList P ops Q (o :: rest) a w := h
/-- A whole array, or struct, out of its block. -/
theorem wpl_load_blk (hgd : o.guard = none) (ty : TypeId) (x : Operand) (ho : o.op = .load ty x) (g : Nat) (hx : a.eval x = .pointer (some ⟨g, 0, none⟩)) (t : TypeId) (cs : Array Value) (d : TypeDesc) (hg : Blk w g cs t)
    (hu : P.underlying ty = some d) (hd : (match d with | .struct _ | .array _ _ => true | _ => false) = true) (n : Nat) (hi : (P.info? ty).map (·.size) = some n) (hn : cs.size = n)
    (h : wpList P ops Q rest (a.put o.dst (.agg cs)) w) : wpList P ops Q (o :: rest) a w :=
  wpList_load_row hgd ty x ho g hx t cs (0, 0) d hg hu hd (by rw [hn]; exact hi) h
/-- The same, by itself: in a region that draws its order. -/
theorem run_load_blk {ty : TypeId} {x : Operand} (ho : o.op = .load ty x) {g : Nat} (hx : a.eval x = .pointer (some ⟨g, 0, none⟩)) {t : TypeId} {cs : Array Value} {d : TypeDesc} (hg : Blk w g cs t)
    (hu : P.underlying ty = some d) (hd : (match d with | .struct _ | .array _ _ => true | _ => false) = true) (n : Nat) (hi : (P.info? ty).map (·.size) = some n) (hn : cs.size = n) :
    (execOp a.eval o).run P w = .ok (.value (.agg cs)) w := by
  unfold execOp
  simp only [ho, hx, Instr.loadAt, Instr.sureAddr, Sem.run_bind, Sem.run_pure, Result.andThen_ok, run_loadVar_row w g t ty cs (0, 0) d hg hu hd (by rw [hn]; exact hi)]
/-- A whole array, or struct, into its block. -/
theorem wpl_store_blk (hgd : o.guard = none) (ty : TypeId) (x y : Operand) (ho : o.op = .store ty x y) (g : Nat) (hx : a.eval x = .pointer (some ⟨g, 0, none⟩)) (t : TypeId) (cs cs' : Array Value) (hy : a.eval y = .agg cs') (hg : Blk w g cs t)
    (n : Nat) (hi : (P.info? ty).map (·.size) = some n) (hn : cs.size = n) (hn' : cs'.size = n) (h1 : cs'.all (·.oneCell') = true)
    (h : ∀ W1, Only w W1 g → Blk W1 g cs' t → wpList P ops Q rest (a.put o.dst undef) W1) : wpList P ops Q (o :: rest) a w := by
  have hs := setCells_only g cs'.toList w cs t 0 hg (by simp; omega)
  refine wpList_store_mid hgd ty x y ho g 0 cs' hx hy (fun j hj => ?_) (by rw [hn']; exact hi) h1 (h _ hs.1 (by simpa using hs.2))
  have hlt : j < cs.size := by omega
  exact ⟨by rw [Nat.zero_add, hg.cell, Array.getElem?_eq_getElem hlt]; rfl, by rw [Nat.zero_add]; exact hg.frozen j⟩
end
theorem ret_blk {P : Program} {fn : Func} {R : Ending → World → Prop} {a : Act} {w : World} {p : Tmp} {ty : TypeId} (h : fn.results = #[.cell p ty]) (g : Nat) (t : TypeId) (cs : Array Value) (d : TypeDesc)
    (hp : a.tmps.getD p undef = .pointer (some ⟨g, 0, none⟩)) (hg : Blk w g cs t) (hu : P.underlying ty = some d) (hd : (match d with | .struct _ | .array _ _ => true | _ => false) = true) (n : Nat) (hi : (P.info? ty).map (·.size) = some n) (hn : cs.size = n)
    (hdf : a.defers = []) (hR : R (.returned (.agg cs)) w) : bodyPost P fn R .ret a w :=
  bodyPost_ret (results_cell_row h _ w g t cs (0, 0) d hp hg hu hd (by rw [hn]; exact hi)) hdf hR

/-- Two results, the first in its block. -/
theorem ret_blk2 {P : Program} {fn : Func} {R : Ending → World → Prop} {a : Act} {w : World} {p u : Tmp} {ty : TypeId} (h : fn.results = #[.cell p ty, .tmp u]) (g : Nat) (t : TypeId) (cs : Array Value) (d : TypeDesc)
    (hp : a.tmps.getD p undef = .pointer (some ⟨g, 0, none⟩)) (hg : Blk w g cs t) (hu : P.underlying ty = some d) (hd : (match d with | .struct _ | .array _ _ => true | _ => false) = true) (n : Nat) (hi : (P.info? ty).map (·.size) = some n) (hn : cs.size = n)
    (hdf : a.defers = []) (hR : R (.returned (.tuple #[.agg cs, a.tmps.getD u undef])) w) : bodyPost P fn R .ret a w :=
  bodyPost_ret (results_ct h _ w g t cs (0, 0) d hp hg hu hd (by rw [hn]; exact hi)) hdf hR
/-- A row of n numbers, f of the place. -/
def arrF (k : IntKind) (n : Nat) (f : Nat → Int) : Array Value := ((List.range n).map fun i => Value.int k (f i)).toArray
theorem arrF_size (k : IntKind) (n : Nat) (f : Nat → Int) : (arrF k n f).size = n := by simp [arrF]
theorem arrF_get (k : IntKind) (n : Nat) (f : Nat → Int) (i : Nat) : (arrF k n f)[i]? = if i < n then some (.int k (f i)) else none := by
  simp only [arrF, List.getElem?_toArray, List.getElem?_map]
  by_cases h : i < n
  · rw [List.getElem?_range h, if_pos h]; rfl
  · rw [List.getElem?_eq_none (by simpa using h), if_neg h]; rfl
theorem arrF_ext {k : IntKind} {n : Nat} {f g : Nat → Int} (h : ∀ i, i < n → f i = g i) : arrF k n f = arrF k n g := by
  unfold arrF
  congr 1
  exact List.map_congr_left fun i hi => by rw [h i (by simpa using hi)]
theorem arrF_set {k : IntKind} {n : Nat} {f : Nat → Int} {i : Nat} (v : Int) : (arrF k n f).setIfInBounds i (.int k v) = arrF k n (fun j => if j = i then v else f j) := by
  apply Array.ext_getElem?
  intro j
  rw [arrF_get, Array.getElem?_setIfInBounds, arrF_get, arrF_size]
  by_cases h : i = j
  · subst h; by_cases hn : i < n <;> simp [hn]
  · by_cases hn : j < n
    · rw [if_neg h, if_pos hn, if_pos hn, if_neg (fun e => h e.symm)]
    · rw [if_neg h, if_neg hn, if_neg hn]
theorem arrF_one (k : IntKind) (n : Nat) (f : Nat → Int) : (arrF k n f).all (·.oneCell') = true := by
  rw [Array.all_eq_true_iff_forall_mem]
  intro v hv
  simp only [arrF, List.mem_toArray, List.mem_map] at hv
  obtain ⟨i, _, rfl⟩ := hv
  rfl

theorem ret_arr {k : IntKind} {n : Nat} {f g : Nat → Int} (h : ∀ i, i < n → f i = g i) : Ending.returned (.agg (arrF k n f)) = Ending.returned (.agg (arrF k n g)) := by rw [arrF_ext h]
/-- A word by its four parts, the lowest first. -/
def wordV (a b c d : Int) : Value := .agg #[.int .u64 a, .int .u64 b, .int .u64 c, .int .u64 d]
def limb (a b c d i : Int) : Int := if i = 0 then a else if i = 1 then b else if i = 2 then c else if i = 3 then d else 0
end Go.Proofs.YtibhijjmmagdcaaGreatDoor
