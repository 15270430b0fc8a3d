/- Slices of bytes: of the call's own, of a constant text, read ones; append and conversion. -/
import Derived.Test.YtibhijjmmagdcaaGreatDoorTextPlain
import Derived.Laws.AppendOwn
import Derived.Laws.BytesArg
import Derived.Lib.SlBytesConst
namespace Go.Proofs.YtibhijjmmagdcaaGreatDoor
set_option linter.unusedVariables false
set_option linter.unusedSimpArgs false
open Go.RowKit Go.Proofs.YtibhijjmmagdcaaGreatDoorW.PrintWords Go.Proofs.YtibhijjmmagdcaaGreatDoorW.PrintLast
theorem info5 : (Tryz.prog.info? 5).map (fun i => (i.zero, i.size, i.bytes)) = some (some (.int .u8 0), 1, 1) := by kernel_rfl
/-- A slice of bytes of the call's own. -/
def OwnB (w : World) (base : Nat) (v : Value) (l : List Int) : Prop := w.ownsRow base 5 1 v l.length (nums .u8 l)
theorem OwnB.nil (w : World) (base : Nat) : OwnB w base (.slice none 0 0) [] := own_nil _ _ _ _
theorem OwnB.below {w w1 : World} {base : Nat} {v : Value} {l : List Int} (h : OwnB w base v l) (hb : Below w.heap.size w w1) : OwnB w1 base v l := pw_own_below h hb
theorem OwnB.drew {w : World} {base : Nat} {v : Value} {l : List Int} (h : OwnB w base v l) : OwnB w.drew base v l := h
/-- A slice of bytes that may be appended to: one of the call's own, or one that is full. -/
def AppB (w : World) (base : Nat) (v : Value) (l : List Int) : Prop :=
  OwnB w base v l ∨ ∃ g, v = .slice (some ⟨g, 0, none⟩) l.length l.length ∧ base ≤ g ∧ g < w.heap.size ∧ ∀ j u, (nums .u8 l)[j]? = some u → w.cell? ⟨g, j, none⟩ = some u
theorem AppB.below {w w1 : World} {base : Nat} {v : Value} {l : List Int} (h : AppB w base v l) (hb : Below w.heap.size w w1) : AppB w1 base v l := by
  rcases h with h | ⟨g, hv, hg, hlt, hc⟩
  · exact .inl (h.below hb)
  · exact .inr ⟨g, hv, hg, Nat.lt_of_lt_of_le hlt hb.size, fun j u hj => bel_cell hb (hc j u hj)⟩
theorem nums_get {k : IntKind} {l : List Int} {j : Nat} {u : Value} (h : (nums k l)[j]? = some u) : ∃ hj : j < l.length, u = .int k l[j] := by
  simp only [nums, List.getElem?_map, Option.map_eq_some_iff] at h
  obtain ⟨a, ha, rfl⟩ := h
  obtain ⟨hj, e⟩ := List.getElem?_eq_some_iff.1 ha
  exact ⟨hj, by rw [e]⟩
theorem nums_at {k : IntKind} {l : List Int} {j : Nat} (h : j < l.length) : (nums k l)[j]? = some (.int k l[j]) := by
  simp [nums, List.getElem?_eq_getElem h]
theorem nums_one {k : IntKind} {l : List Int} : ∀ u ∈ nums k l, u.oneCell' = true := by
  intro u hu
  simp only [nums, List.mem_map] at hu
  obtain ⟨a, _, rfl⟩ := hu
  rfl
section
variable {o : Oper} {a : Act} {K : Act → World → Prop} {Q : Exit → Act → World → Prop} {w0 w : World}
theorem appb_append (s x : Operand) (ho : o.op = .call { callee := .builtin .append, args := #[s, x], argTypes := #[22, 22] }) {v : Value} {l : List Int} (hs : a.eval s = v) (hA : AppB w w0.heap.size v l) (hB : Below w0.heap.size w0 w)
    {g c : Nat} {ms : List Int} (hx : a.eval x = .slice (some ⟨g, 0, none⟩) ms.length c) (hcells : ∀ j u, (nums .u8 ms)[j]? = some u → w.cell? ⟨g, j, none⟩ = some u) (hne : 0 < ms.length) (hlen : l.length + ms.length ≤ 4000000)
    (h : ∀ v' w', OwnB w' w0.heap.size v' (l ++ ms) → Below w0.heap.size w0 w' → K (a.put o.dst v') w') : o.wp Tryz.prog a w K Q := by
  obtain ⟨i, hi, hz, hsz, hby⟩ := info_parts info5
  have hnews : ∀ j u, (nums .u8 ms)[j]? = some u → w.cell? ((⟨g, 0, none⟩ : Addr).add j) = some u := fun j u hj => by rw [add_plain]; exact hcells j u hj
  rcases hA with hO | ⟨b, rfl, hbg, hblt, hbc⟩
  · refine wp_append_own w s x 22 ho w0.heap.size 5 i (.int .u8 0) 1 1 Tryz.underlying22 hi hz hsz hby rfl (by decide) v l.length (nums .u8 l) hs hO ⟨g, 0, none⟩ ms.length c (nums .u8 ms) hx (by rw [nums_length]; omega) hnews nums_one
      (by unfold maxLen; omega) (by omega) hB.size ?_
    intro v' w' h1 h2 _
    refine h v' w' ?_ (hB.grown h2 hB.size (own_base hO))
    unfold OwnB
    rw [List.length_append, nums_append]
    exact h1
  · have hr := run_append_grow (P := Tryz.prog) w 22 o.type 5 i (.int .u8 0) Tryz.underlying22 hi hz ⟨b, 0, none⟩ l.length l.length (nums .u8 l) (by rw [nums_length, hsz]; omega) (fun j u hj => by rw [add_plain]; exact hbc j u hj)
      ⟨g, 0, none⟩ ms.length c (nums .u8 ms) (by rw [nums_length, hsz]; omega) hnews (by omega) (by omega) (growslice_fits (by omega) (by rw [hby]; omega))
    unfold Oper.wp execOp
    simp only [ho, resolve, invoke, builtin, Sem.run_bind, Sem.run_pure, Result.andThen_ok, List.map_toArray, List.map_cons, List.map_nil, hs, hx, hr]
    refine h _ _ ⟨by rw [nums_length]; omega, .inr ⟨w.heap.size, _, _, by rw [List.length_append], hB.size, heap_alloc_new w.drew _, ?_, ?_, ?_, ?_⟩⟩ ((below_drew hB).alloc hB.size _)
    · rw [List.length_append]; exact grownCap_ge w _ _ _
    · exact grownCap_le_maxLen w _ _ _ (by unfold maxLen; omega)
    · have hge := grownCap_ge w (l.length + ms.length) l.length 5
      simp only [Array.size_append, List.size_toArray, size_zeroCells, nums_length, Value.cells]
      simp
      omega
    · simp only [Array.toList_append, List.append_assoc, Nat.mul_one]
      rw [← List.append_assoc, ← nums_append]
      rw [← nums_length .u8 (l ++ ms)]
      exact List.take_left
end
/-- As a text. -/
theorem AppB.string {w : World} {base : Nat} {v : Value} {l : List Int} (h : AppB w base v l) : (convert 22 9 v).run Tryz.prog w = .ok (.string (strOfNums l)) w := by
  rcases h with h | ⟨g, rfl, _, _, hc⟩
  · exact own_string Tryz.underlying22 Tryz.underlying5 Tryz.underlying9 h
  · refine run_convert_bytes_arg w 22 5 Tryz.underlying22 Tryz.underlying5 g 0 l.length l.length l rfl (fun i hi => ?_) 9 Tryz.underlying9
    rw [Nat.zero_add, hc i _ (nums_at hi), List.getD_eq_getElem?_getD, List.getElem?_eq_getElem hi]
    rfl
end Go.Proofs.YtibhijjmmagdcaaGreatDoor
