/- strings.Builder: copyCheck, WriteString and String, as this seat's texts use them: a builder of the call's own that holds a list of bytes. -/
import Derived.Test.YtibhijjmmagdcaaGreatDoorBytes
import Derived.Test.YtibhijjmmagdcaaGreatDoorShelf
import Derived.Lib.Builder
import Derived.Lib.AppendStr
import Derived.Lib.UnsafeStr
import Derived.Laws.Externs
namespace Go.Proofs.YtibhijjmmagdcaaGreatDoor
set_option linter.unusedVariables false
set_option linter.unusedSimpArgs false
open Go.RowKit Go.Proofs.YtibhijjmmagdcaaGreatDoorW.PrintWords
theorem bld_size : (Tryz.prog.info? 39).map (·.size) = some 2 := by kernel_rfl
theorem bld_lies : liesAt Tryz.prog Tryz.prog.depth 39 (2 / Tryz.prog.cellsOf 39) 0 39 1 = true := by kernel_rfl
set_option maxHeartbeats 1000000 in
set_option maxRecDepth 100000 in
theorem copy_used (b : Nat) (w : World) (h0 : w.cell? ⟨b, 0, none⟩ = some (.pointer (some ⟨b, 0, none⟩))) :
    Calls Tryz.prog 36 #[.pointer (some ⟨b, 0, none⟩)] w fun e w' => e = .returned (.tuple #[]) ∧ w' = w := by
  obtain ⟨j, hj, _⟩ := Option.map_eq_some_iff.1 bld_size
  go_enter Tryz.func36, Tryz.ntmps36
  go_wp2
  rw [Lib.run_neq_ptr_same w _ Tryz.underlying37 hj]
  go_wp2
  go_end0
  exact ⟨rfl, rfl⟩
set_option maxHeartbeats 1000000 in
set_option maxRecDepth 100000 in
theorem copy_fresh (b : Nat) (w : World) (h0 : w.cell? ⟨b, 0, none⟩ = some (.pointer none)) (hsh : w.shape? b = some (39, 2)) (hfz : w.frozen? ⟨b, 0, none⟩ = false) :
    Calls Tryz.prog 36 #[.pointer (some ⟨b, 0, none⟩)] w fun e w' => e = .returned (.tuple #[]) ∧ w' = w.setCell ⟨b, 0, none⟩ (.pointer (some ⟨b, 0, none⟩)) := by
  obtain ⟨j, hj, hjs⟩ := Option.map_eq_some_iff.1 bld_size
  go_enter Tryz.func36, Tryz.ntmps36
  go_wp2
  rw [Lib.run_to_unsafe w ⟨b, 0, none⟩ Tryz.underlying37 Tryz.underlying109 hj (by rw [hjs]; decide) hsh (Nat.zero_lt_succ 1)]
  simp only [Result.andThen]
  rw [Oper.upon_value]
  go_wp2
  rw [run_callFunc_extern Tryz.func68 (by kernel_rfl) (by kernel_rfl) (by kernel_rfl) (e := Extern.AbiNoEscape.same) (by kernel_rfl)]
  rw [Lib.run_noEscape]
  simp only [Result.andThen]
  rw [Oper.upon_value]
  go_wp2
  rw [Lib.run_from_unsafe w ⟨b, 0, none⟩ Tryz.underlying109 Tryz.underlying37 hj hsh bld_lies]
  simp only [Result.andThen]
  rw [Oper.upon_value]
  go_wp2
  go_end0
  exact ⟨rfl, rfl⟩
/-- Every plain block but b, and but rows of bytes, stands as it stood. -/
def KeepBlk (b : Nat) (w w1 : World) : Prop := ∀ k cs t, t ≠ 5 → k ≠ b → Blk w k cs t → Blk w1 k cs t
theorem copy_any (B b : Nat) (bs : List Value) (w : World) (h : Lib.IsBuilder 39 5 B b bs w) :
    Calls Tryz.prog 36 #[.pointer (some ⟨b, 0, none⟩)] w fun e w' => e = .returned (.tuple #[]) ∧ (Lib.BuilderAt 39 5 B b (.pointer (some ⟨b, 0, none⟩)) bs w' ∧ Below B w w' ∧ ∀ k, k ≠ b → w'.heap[k]? = w.heap[k]?) := by
  rcases h with h | h
  · refine (copy_fresh b w h.cell0 h.shape h.frozen0).mono ?_
    rintro e w' ⟨rfl, rfl⟩
    exact ⟨rfl, h.used _, (Below.refl B w).setCell (p := ⟨b, 0, none⟩) h.1 _, fun k hk => Below.heap_setCell _ _ _ _ hk⟩
  · refine (copy_used b w h.cell0).mono ?_
    rintro e w' ⟨rfl, rfl⟩
    exact ⟨rfl, h, Below.refl B _, fun _ _ => rfl⟩
set_option maxHeartbeats 1000000 in
set_option maxRecDepth 100000 in
theorem write_any (B b : Nat) (bs : List Value) (s : ByteArray) (w : World) (h : Lib.IsBuilder 39 5 B b bs w) (hlen : bs.length + s.size ≤ 140737488355328) (hBw : B ≤ w.heap.size) :
    Calls Tryz.prog 12 #[.pointer (some ⟨b, 0, none⟩), .string s] w fun e w' => e = .returned (.tuple #[.int .i64 s.size, .nilIface]) ∧ (Lib.BuilderAt 39 5 B b (.pointer (some ⟨b, 0, none⟩)) (bs ++ Lib.strCells s) w' ∧ Below B w w' ∧ KeepBlk b w w') := by
  obtain ⟨i0, hi, hzz⟩ := Option.map_eq_some_iff.1 info5
  simp only [Prod.mk.injEq] at hzz
  obtain ⟨hz0, hz1, hz2⟩ := hzz
  go_enter Tryz.func12, Tryz.ntmps12
  go_wp2_with (go_at_call 36; refine (copy_any B b bs _ h).mono ?_)
  rintro e w1 ⟨rfl, h1, hb1, hk1⟩
  obtain ⟨hB, v, hbk, hown, hne⟩ := h1
  have c0 : w1.cell? ⟨b, 0, none⟩ = some (.pointer (some ⟨b, 0, none⟩)) := by rw [Lib.cell_of_heap hbk]; rfl
  have c1 : w1.cell? ⟨b, 1, none⟩ = some v := by rw [Lib.cell_of_heap hbk]; rfl
  go_wp2_with (at_builtin; refine Lib.wpList_append_own_string _ rfl _ _ 22 9 rfl B 5 i0 Tryz.underlying22 Tryz.underlying9 hi hz0 hz1 hz2 _ _ _ rfl hown s rfl ?c3 ?c4 ?c5 ?_)
  case c3 => unfold maxLen; omega
  case c4 => omega
  case c5 => have := hb1.size; omega
  intro v' w2 hown' hgrow _
  have hlt : b < w1.heap.size := by
    rcases Nat.lt_or_ge b w1.heap.size with h' | h'
    · exact h'
    · simp [Array.getElem?_eq_none h'] at hbk
  have hb2 : w2.heap[b]? = some (.cells #[.pointer (some ⟨b, 0, none⟩), v] 39 (0, 0)) := by
    rw [hgrow.block b hlt (fun e => hne e.symm)]
    exact hbk
  have d0 : w2.cell? ⟨b, 0, none⟩ = some (.pointer (some ⟨b, 0, none⟩)) := by rw [Lib.cell_of_heap hb2]; rfl
  have d1 : w2.cell? ⟨b, 1, none⟩ = some v := by rw [Lib.cell_of_heap hb2]; rfl
  have f1 : w2.frozen? ⟨b, 1, none⟩ = false := Lib.frozen_of_heap hb2 1
  obtain ⟨ao, n', cap, rfl⟩ : ∃ ao n' cap, v' = .slice ao n' cap := by
    rcases hown'.2 with ⟨hv, _⟩ | ⟨g, cap, cur, hv, _⟩
    · exact ⟨_, _, _, hv⟩
    · exact ⟨_, _, _, hv⟩
  go_wp2
  go_ret2
  refine ⟨rfl, ?_, ?_, ?_⟩
  · exact Lib.BuilderAt.put (T := 39) (e := 5) hB hb2 (bs' := bs ++ Lib.strCells s) (by simpa [Lib.strCells_length] using hown') (by decide)
  · exact (hb1.grown hgrow (by have := hb1.size; omega) (fun k hk => (hown.lt k hk).1)).setCell (p := ⟨b, 1, none⟩) hB _
  · intro k cs t ht hk hbl
    have h1 : w1.heap[k]? = some (.cells cs t (0, 0)) := (hk1 k hk).trans hbl
    have hl1 : k < w1.heap.size := blk_lt h1
    have hno : v.ownBlock ≠ some k := fun e => by
      obtain ⟨cells, hc⟩ := own_typed hown k e
      rw [h1] at hc
      simp only [Option.some.injEq, Obj.cells.injEq] at hc
      exact ht hc.2.1
    show (w2.setCell ⟨b, 1, none⟩ _).heap[k]? = _
    rw [Below.heap_setCell _ _ _ _ hk, hgrow.block k hl1 (fun e => hno e.symm)]
    exact h1
/-- A builder of the call's own, from block B on, that holds l. -/
def Bld (B b : Nat) (l : List Int) (w : World) : Prop := Lib.IsBuilder 39 5 B b (nums .u8 l) w
theorem Bld.new (w : World) : Bld w.heap.size w.heap.size [] (w.alloc (.cells #[.pointer none, .slice none 0 0] 39)) := Lib.fresh_isBuilder _ _ w
theorem Bld.below {B b : Nat} {l : List Int} {w W : World} (h : Bld B b l w) (hb : Below w.heap.size w W) : Bld B b l W := by
  have key : ∀ {p : Value}, Lib.BuilderAt 39 5 B b p (nums .u8 l) w → Lib.BuilderAt 39 5 B b p (nums .u8 l) W := by
    rintro p ⟨hB, v, hbk, hown, hne⟩
    refine ⟨hB, v, blk_below hbk hb, ?_, hne⟩
    rw [nums_length] at hown ⊢
    exact pw_own_below hown hb
  rcases h with h | h
  · exact .inl (key h)
  · exact .inr (key h)
theorem Bld.lt {B b : Nat} {l : List Int} {w : World} (h : Bld B b l w) : b < w.heap.size := by
  rcases h with h | h
  · exact h.lt
  · exact h.lt
theorem strCells_nums (s : ByteArray) : Lib.strCells s = nums .u8 (bytesOf s) := by simp [nums, bytesOf, Lib.strCells]
theorem bld_write {B b : Nat} {l : List Int} {w : World} (s : ByteArray) (h : Bld B b l w) (hl : l.length ≤ 1000000) (hs : s.size ≤ 1000000) (hBw : B ≤ w.heap.size) :
    Calls Tryz.prog 12 #[.pointer (some ⟨b, 0, none⟩), .string s] w fun e w' => e = .returned (.tuple #[.int .i64 s.size, .nilIface]) ∧ Bld B b (l ++ bytesOf s) w' ∧ Below B w w' ∧ KeepBlk b w w' := by
  refine (write_any B b _ s w h (by rw [nums_length]; omega) hBw).mono ?_
  rintro e w' ⟨rfl, hA, hb, hkp⟩
  refine ⟨rfl, .inr ?_, hb, hkp⟩
  rw [nums_append, ← strCells_nums]
  exact hA
theorem byteCells_nums {l : List Int} (h : ∀ c ∈ l, 0 ≤ c ∧ c < 256) : Lib.byteCells (l.map fun n => UInt8.ofNat n.toNat) = nums .u8 l := by
  simp only [Lib.byteCells, nums, List.map_map]
  refine List.map_congr_left fun c hc => ?_
  have := h c hc
  simp
  omega
theorem bld_string {B b : Nat} {l : List Int} {w : World} (h : Bld B b l w) (hl : ∀ c ∈ l, 0 ≤ c ∧ c < 256) (hBw : B ≤ w.heap.size) :
    Calls Tryz.prog 14 #[.pointer (some ⟨b, 0, none⟩)] w fun e w' => e = .returned (.string (strOfNums l)) ∧ Below B w w' := by
  unfold Bld at h
  rw [← byteCells_nums hl] at h
  exact Tryz.Builder_String_any B b _ w h hBw
end Go.Proofs.YtibhijjmmagdcaaGreatDoor
