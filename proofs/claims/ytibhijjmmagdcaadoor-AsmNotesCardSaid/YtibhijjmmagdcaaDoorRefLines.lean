/- smithyref27.Lines, walked. -/
import Derived.Test.YtibhijjmmagdcaaDoorAsmBase
namespace Go.Proofs.YtibhijjmmagdcaaDoor
set_option linter.unusedVariables false
set_option linter.unusedSimpArgs false
open Go.RowKit Go.Proofs.YtibhijjmmagdcaaDoorW.PrintWords Go.Proofs.YtibhijjmmagdcaaDoorW.PrintLast
theorem infoS : (Tryd.prog.info? 9).map (fun i => (i.zero, i.size, i.bytes)) = some (some (.string ⟨#[]⟩), 1, 16) := by kernel_rfl
def OwnT (w : World) (base : Nat) (v : Value) (l : List ByteArray) : Prop := w.ownsRow base 9 1 v l.length (encs Value.string l)
theorem lines_cut {l : List Int} {f k : Nat} (hf : f ≤ k) (hk : k < l.length) (h10 : l[k] = 10) (hno : (10 : Int) ∉ (l.drop f).take (k - f)) : linesF (l.drop f) = (l.drop f).take (k - f) :: linesF (l.drop (k + 1)) := by
  have h : l.drop f = (l.drop f).take (k - f) ++ 10 :: l.drop (k + 1) := by
    conv => lhs; rw [← List.take_append_drop (k - f) (l.drop f)]
    rw [List.drop_drop, show f + (k - f) = k by omega, List.drop_eq_getElem_cons hk, h10]
  conv => lhs; rw [h]
  rw [linesF_app, linesF_one hno]
  rfl
theorem lines_end {l : List Int} {f : Nat} (hno : (10 : Int) ∉ (l.drop f).take (l.length - f)) : linesF (l.drop f) = [(l.drop f).take (l.length - f)] := by
  rw [List.take_of_length_le (by simp)] at hno ⊢
  exact linesF_one hno
theorem no_more {l : List Int} {f k : Nat} (hf : f ≤ k) (hk : k < l.length) (h10 : l[k] ≠ 10) (hno : (10 : Int) ∉ (l.drop f).take (k - f)) : (10 : Int) ∉ (l.drop f).take (k + 1 - f) := by
  rw [show k + 1 - f = k - f + 1 by omega, List.take_add_one]
  intro h
  rcases List.mem_append.1 h with h | h
  · exact hno h
  · rw [List.getElem?_drop, show f + (k - f) = k by omega, List.getElem?_eq_getElem hk] at h
    simp at h
    exact h10 h.symm
/-- The lines that are cut so far, the place of the next one. -/
def LineI (s : ByteArray) (O : List ByteArray) (f k : Nat) : Prop :=
  (k ≤ s.size ∧ f ≤ k ∧ linesF (bytesOf s) = O.map bytesOf ++ linesF ((bytesOf s).drop f) ∧ (10 : Int) ∉ ((bytesOf s).drop f).take (k - f)) ∨ (k = s.size + 1 ∧ linesF (bytesOf s) = O.map bytesOf)
set_option maxRecDepth 100000 in
set_option maxHeartbeats 1000000 in
theorem lines_any (s : ByteArray) (hs : s.size ≤ 1000000) (w : World) :
    Calls Tryd.prog 22 #[.string s] w fun e w' => ∃ v O, e = .returned v ∧ linesF (bytesOf s) = O.map bytesOf ∧ OwnT w' w.heap.size v O ∧ Below w.heap.size w w' := by
  have HS := Lib.hid hs
  have HL1 := Lib.hid (lines_len (bytesOf s)).1
  have HPC := Lib.hid (piece s)
  clear hs
  go_enter Tryd.func22, Tryd.ntmps22
  go_wp2_with fail
  refine wp_any_world (fun W => OwnT W w.heap.size (.slice (some ⟨w.heap.size, 0, none⟩) 0 0) [] ∧ Below w.heap.size w W) ⟨⟨rfl, .inr ⟨w.heap.size, 0, #[], rfl, Nat.le_refl _, heap_alloc_new w _, Nat.le_refl _, by decide, rfl, rfl⟩⟩, below_alloc (Below.refl _ _) _⟩ ?_
  intro w1 hS
  go_loopw [3, 4, 5] (fun v fv i wr => ∃ (O : List ByteArray) (f k : Nat), k ≤ s.size + 1 ∧ fv = .int .i64 f ∧ i = .int .i64 k ∧ LineI s O f k ∧ OwnT wr w.heap.size v O ∧ Below w.heap.size w wr) (fun _ _ i _ => s.size + 1 - (intOf i).toNat)
  case atStart => exact ⟨[], 0, 0, by omega, rfl, rfl, .inl ⟨by omega, by omega, by simp, by simp⟩, hS.1, hS.2⟩
  case round =>
    clear hS
    obtain ⟨O, f, k, hk, rfl, rfl, hI, hO, hB⟩ := hrel
    by_cases hle : k ≤ s.size
    · obtain ⟨_, hf, hl, hno⟩ : k ≤ s.size ∧ f ≤ k ∧ linesF (bytesOf s) = O.map bytesOf ++ linesF ((bytesOf s).drop f) ∧ (10 : Int) ∉ ((bytesOf s).drop f).take (k - f) := by
        rcases hI with h | h
        · exact h
        · omega
      have hol : O.length ≤ 1000001 := by
        have h1 := congrArg List.length hl
        have h2 := HL1.out
        rw [bytesOf_length] at h2
        have := HS.out
        rw [List.length_append, List.length_map] at h1
        omega
      have HOL := Lib.hid hol
      have p0 : (0 : Int) ≤ (k : Int) := by omega
      have p1 : (k : Int) ≤ (s.size : Int) := by omega
      have p2 : (k : Int) < 10000000 := by have := HS.out; omega
      have p3 : (0 : Int) ≤ (f : Int) := by omega
      have p4 : (f : Int) ≤ (k : Int) := by omega
      have HO := Lib.hid hO
      have HB := Lib.hid hB
      have HF := Lib.hid hf
      have HLE := Lib.hid hle
      have hcut : ∀ x, x ∈ ([s.extract f k] : List ByteArray) → bytesOf x = ((bytesOf s).drop f).take (k - f) := fun x hx => by
        obtain rfl := List.mem_singleton.1 hx
        exact HPC.out f k hf hle
      have HCUT := Lib.hid hcut
      clear hI hO hB hol hcut
      by_cases hlt : k < s.size
      · have q1 : (k : Int) < (s.size : Int) := by omega
        have q2 : ((k : Int) == (s.size : Int)) = false := by rw [beq_eq_false_iff_ne]; omega
        have bb := bt_nat s k
        have hkl : k < (bytesOf s).length := by rw [bytesOf_length]; exact hlt
        have hg := bytesOf_get s k hlt
        by_cases h10 : bt s (k : Int) = 10
        · have HI : Hid (LineI s (O ++ [s.extract f k]) (k + 1) (k + 1)) := .inl ⟨hlt, by omega, by
            rw [hl, lines_cut hf hkl (hg.trans h10) hno, List.map_append, List.append_assoc, List.map_cons, HCUT.out _ (List.mem_singleton.2 rfl)]; rfl, by simp⟩
          clear hl hno hg hf hle hlt hkl
          go_wp2_with (at_builtin; refine print_append_of Value.string w.heap.size rfl (.tmp 23) (.tmp 28) 45 9 _ 16 rfl Tryd.underlying45 infoS rfl (by decide) _ O _ rfl rfl rfl HO.out HB.out HB.out.size (by have := HOL.out; omega) ?_; intro v1 w2 ho hb1 _ _)
          go_roundw
          case rel => exact ⟨_, k + 1, k + 1, by have := HLE.out; omega, by go_num, by go_num, HI.out, ho, hb1⟩
          case measure => have := HLE.out; simp [intOf]; omega
        · have HI : Hid (LineI s O f (k + 1)) := .inl ⟨hlt, by omega, hl, no_more hf hkl (by rw [hg]; exact h10) hno⟩
          have g10 : (bt s (k : Int) == 10) = false := beq_eq_false_iff_ne.2 h10
          clear hl hno hg hf hle hlt hkl h10
          go_wp2_with fail
          go_roundw
          case rel => exact ⟨O, f, k + 1, by have := HLE.out; omega, rfl, by go_num, HI.out, HO.out, HB.out⟩
          case measure => have := HLE.out; simp [intOf]; omega
      · obtain rfl : k = s.size := by omega
        have HI : Hid (LineI s (O ++ [s.extract f s.size]) (s.size + 1) (s.size + 1)) := .inr ⟨rfl, by
          have := lines_end (l := bytesOf s) (f := f) (by rw [bytesOf_length]; exact hno)
          rw [bytesOf_length] at this
          rw [hl, this, List.map_append, List.map_cons, HCUT.out _ (List.mem_singleton.2 rfl)]; rfl⟩
        clear hl hno hf hle hlt
        go_wp2_with (at_builtin; refine print_append_of Value.string w.heap.size rfl (.tmp 23) (.tmp 28) 45 9 _ 16 rfl Tryd.underlying45 infoS rfl (by decide) _ O _ rfl rfl rfl HO.out HB.out HB.out.size (by have := HOL.out; omega) ?_; intro v1 w2 ho hb1 _ _)
        go_roundw
        case rel => exact ⟨_, s.size + 1, s.size + 1, by omega, by go_num, by go_num, HI.out, ho, hb1⟩
        case measure => simp [intOf]
    · have hfin : linesF (bytesOf s) = O.map bytesOf := by
        rcases hI with h | h
        · omega
        · exact h.2
      have q1 : ¬ (k : Int) ≤ (s.size : Int) := by omega
      have HF := Lib.hid hfin
      have HO := Lib.hid hO
      have HB := Lib.hid hB
      clear hfin hI hO hB
      go_wp2_with fail
      go_ret
      exact ⟨_, rfl, O, HF.out, HO.out, HB.out⟩
end Go.Proofs.YtibhijjmmagdcaaDoor
