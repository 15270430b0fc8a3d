/- What the rows' proofs share: bytes, arrays and strings that came in; the laid tables. -/
import Derived.Test.YtibhijjmmagdcaaGreatDoorRows
import Derived.Test.YtibhijjmmagdcaaGreatDoorQuantPlain
import Derived.WalkKit
import Derived.ProofKit
import Derived.OpenShut
import Derived.ShutString
import Derived.ChangeOld
import Derived.Below
import Derived.Lay
import Derived.MakeChecks
namespace Go.Proofs.YtibhijjmmagdcaaGreatDoor
set_option linter.unusedVariables false
set_option linter.unusedSimpArgs false
open Go.ChangeShapes Go.WideShapes Go.ChangeAt Go.RowKit
open Go.ChangeMaps (open_string shut_string)
open Go.Proofs.YtibhijjmmagdcaaGreatDoorW.PrintWords
theorem own : ownKnob Tryz.prog.godebug = none := by kernel_rfl
theorem laidOut : laidOutB Tryz.prog = true := by kernel_rfl
theorem wf_u8 {n : Int} (h : (Lit.int .u8 n).wf = true) : 0 ≤ n ∧ n < 256 := by
  have h' : IntKind.u8.min ≤ n ∧ n ≤ IntKind.u8.max := by simpa [Lit.wf] using h
  have e1 : IntKind.u8.min = 0 := by rfl
  have e2 : IntKind.u8.max = 255 := by rfl
  omega
theorem wf_u64 {n : Int} (h : (Lit.int .u64 n).wf = true) : 0 ≤ n ∧ n < 18446744073709551616 := by
  have h' : IntKind.u64.min ≤ n ∧ n ≤ IntKind.u64.max := by simpa [Lit.wf] using h
  have e1 : IntKind.u64.min = 0 := by rfl
  have e2 : IntKind.u64.max = 18446744073709551615 := by rfl
  omega
section
variable {H : Type} {enc : TypeId × Value → H} {W : World} {base : Nat}
set_option maxRecDepth 100000 in
/-- Bytes that came in. -/
theorem open_u8s {v : Value} {d : DataW H} {p : List MemPlace} (hval : Value.okWide Tryz.prog W .any base 22 v) (h : DataW.Trod enc Tryz.prog W 0 (fun _ => true) true 22 v d p) :
    ∃ A c l, v = .slice A (List.length l) c ∧ l.length ≤ c ∧ (Kd.int .u8).C W A l.length l ∧ ∀ x ∈ l, 0 ≤ x ∧ x < 256 := by
  obtain ⟨a, len, cap, rfl⟩ := okWide_slice Tryz.underlying22 hval
  obtain ⟨fuel, hf⟩ := h
  rcases open_ints Tryz.underlying22 Tryz.underlying5 (by kernel_rfl) hf with ⟨hcs, _⟩ | ⟨x, l, c, zs, hcs, _, hl, hm, hz, _, hcell, hwz⟩
  · simp [Value.cells] at hcs
    obtain ⟨rfl, rfl, rfl⟩ := hcs
    exact ⟨none, 0, [], rfl, Nat.le_refl _, Kd.C_of_reads (d := (0 : Int)) (ReadsInt.nil W .u8), by simp⟩
  · simp [Value.cells] at hcs
    obtain ⟨rfl, rfl, rfl⟩ := hcs
    have hzl : zs.length = cap := by simpa using hz
    refine ⟨some x, cap, zs.take len, by rw [List.length_take, Nat.min_eq_left (by omega)], by rw [List.length_take]; omega, ?_, fun y hy => wf_u8 (hwz y (List.mem_of_mem_take hy))⟩
    refine Kd.C_of_reads (d := (0 : Int)) ⟨rfl, ?_, fun _ => ⟨_, rfl, fun j hj => ?_⟩⟩
    · rw [List.length_take]; unfold maxLen at hm; omega
    · rw [List.length_take] at hj
      rw [hcell j (by omega), List.getD_eq_getElem?_getD, List.getD_eq_getElem?_getD, List.getElem?_take_of_lt (by omega)]
set_option maxRecDepth 100000 in
/-- A row of n numbers that came in. -/
theorem open_arrF {t e : TypeId} {n : Nat} {k : IntKind} (ht : Tryz.prog.underlying t = some (.array n e)) (he : Tryz.prog.underlying e = some (.int k)) (hc : Tryz.prog.cellsOf e = 1) (hs : Tryz.prog.cellsOf t = n)
    {v : Value} {d : DataW H} {p : List MemPlace} (hval : Value.okWide Tryz.prog W .any base t v) (h : DataW.Trod enc Tryz.prog W 0 (fun _ => true) true t v d p) :
    ∃ f : Nat → Int, v = .agg (arrF k n f) ∧ (∀ i, i < n → (Lit.int k (f i)).wf = true) ∧ ∀ i, n ≤ i → f i = 0 := by
  simp only [Value.okWide, ht] at hval
  obtain ⟨xs, rfl, h2, _⟩ := hval
  rw [hs] at h2
  obtain ⟨fuel, hf⟩ := h
  cases fuel with
  | zero => simp [DataW.trod] at hf
  | succ m =>
    rw [DataW.trod_step] at hf
    unfold DataW.trodStep at hf
    simp only [ht, Value.cells] at hf
    rw [if_pos (by rw [hs]; simpa using h2)] at hf
    simp only [Option.map_eq_some_iff] at hf
    obtain ⟨ys, hy, _⟩ := hf
    have key : ∀ (L : List Nat) (ys : List (DataW H × List MemPlace)), L.mapM (fun i => DataW.trod enc Tryz.prog W 0 (fun _ => true) true m e ((xs.toList.drop (i * Tryz.prog.cellsOf e)).take (Tryz.prog.cellsOf e))) = some ys → ∀ i ∈ L, i < n → ∃ a : Int, xs[i]? = some (.int k a) ∧ (Lit.int k a).wf = true := by
      intro L
      induction L with
      | nil => intro _ _ i hi; cases hi
      | cons j L ih =>
        intro ys hys i hi hin
        rw [List.mapM_cons] at hys
        simp only [bind, Option.bind_eq_some_iff, pure, Option.some.injEq] at hys
        obtain ⟨y, hy, zs, hzs, rfl⟩ := hys
        rcases List.mem_cons.1 hi with rfl | hi
        · obtain ⟨a, ea, _, wa⟩ := DataW.trod_int he hy
          rw [hc, Nat.mul_one] at ea
          refine ⟨a, ?_, wa⟩
          have hlt : i < xs.toList.length := by simpa [h2] using hin
          rw [List.drop_eq_getElem_cons hlt, List.take_succ_cons, List.take_zero] at ea
          injection ea with ea _
          rw [← ea]
          simp
        · exact ih zs hzs i hi hin
    have hk := key (List.range n) ys (by simpa using hy)
    refine ⟨fun i => intOf (xs.getD i undef), ?_, fun i hi => ?_, fun i hi => ?_⟩
    · congr 1
      apply Array.ext_getElem?
      intro i
      rw [arrF_get]
      by_cases hi : i < n
      · obtain ⟨a, ha, _⟩ := hk i (List.mem_range.2 hi) hi
        rw [if_pos hi, ha]
        simp [Array.getD, ha, intOf, show i < xs.size by omega]
        have := ha
        rw [Array.getElem?_eq_getElem (by omega)] at this
        injection this with this
        rw [this]
      · rw [if_neg hi, Array.getElem?_eq_none (by omega)]
    · obtain ⟨a, ha, wa⟩ := hk i (List.mem_range.2 hi) hi
      have : xs.getD i undef = .int k a := by
        rw [Array.getElem?_eq_getElem (by omega)] at ha
        injection ha with ha
        simp [Array.getD, show i < xs.size by omega, ha]
      show (Lit.int k (intOf (xs.getD i undef))).wf = true
      rw [this]
      exact wa
    · simp [Array.getD, show ¬ i < xs.size by omega, intOf, undef]
end
end Go.Proofs.YtibhijjmmagdcaaGreatDoor
