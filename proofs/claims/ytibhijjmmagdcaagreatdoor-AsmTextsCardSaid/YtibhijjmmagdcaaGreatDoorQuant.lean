/- hex.Quantity and smithyref04.Quantity: how a quantity is written. -/
import Derived.Test.YtibhijjmmagdcaaGreatDoorRefText
import Derived.Test.YtibhijjmmagdcaaGreatDoorRefHex
import Derived.Test.YtibhijjmmagdcaaGreatDoorQuantPlain
namespace Go.Proofs.YtibhijjmmagdcaaGreatDoor
set_option linter.unusedVariables false
set_option linter.unusedSimpArgs false
open Go.RowKit Go.Proofs.YtibhijjmmagdcaaGreatDoorW.PrintWords Go.Proofs.YtibhijjmmagdcaaGreatDoorW.PrintLast
theorem arr_reads {W : World} {g n t : Nat} {k : IntKind} {f : Nat → Int} (h : Blk W g (arrF k n f) t) (hn : n ≤ 9223372036854775807) : (Kd.int k).C W (some ⟨g, 0, none⟩) n ((List.range n).map f) :=
  Kd.C_of_reads (d := (0 : Int)) ⟨by simp, hn, fun _ => ⟨_, rfl, fun j hj => by rw [add_plain, h.cell, arrF_get, if_pos hj]; simp [List.getD, hj]⟩⟩
theorem map_bytes {f : Nat → Int} (h : U8 f) (n : Nat) : ∀ c ∈ (List.range n).map f, 0 ≤ c ∧ c < 256 := by
  intro c hc
  obtain ⟨i, _, rfl⟩ := List.mem_map.1 hc
  exact h i
theorem text_arr {W : World} {g n t : Nat} {f : Nat → Int} (h : Blk W g (arrF .u8 n f) t) (hf : U8 f) (hn : n ≤ 1000000) :
    Calls Tryz.prog 13 #[.slice (some ⟨g, 0, none⟩) n n] W fun e w' => e = .returned (.string (strOfNums (textL ((List.range n).map f)))) ∧ Below W.heap.size W w' := by
  have ht := text_hex (some ⟨g, 0, none⟩) n ((List.range n).map f) W (by rw [List.length_map, List.length_range]; exact arr_reads h (by omega)) (by simp) (map_bytes hf n) (by simpa using hn)
  rw [List.length_map, List.length_range] at ht
  exact ht
theorem text_drop (l : List Int) : (strOfNums (textL l)).extract 2 (strOfNums (textL l)).size = strOfNums (hexOf l) := by
  rw [show textL l = [48, 120] ++ hexOf l from rfl, strOfNums_app]
  exact ByteArray.extract_append_eq_right (by rfl) (by simp)
theorem strOfNums_data (l : List Int) : (strOfNums l).data.toList = l.map fun n => UInt8.ofNat n.toNat := by simp [strOfNums]
theorem trim_nums {l : List Int} (h : ∀ c ∈ l, 0 ≤ c ∧ c < 256) : (⟨(Lib.trimLeftB (strOfNums l).data.toList 48).toArray⟩ : ByteArray) = strOfNums (l.dropWhile fun c => decide (c = 48)) := by
  rw [strOfNums_data, strOfNums, Lib.trimLeftB]
  congr 2
  induction l with
  | nil => rfl
  | cons a l ih =>
    have ha := h a (by simp)
    have ih := ih fun c hc => h c (by simp [hc])
    rw [List.map_cons, List.dropWhile_cons, List.dropWhile_cons]
    by_cases e : a = 48
    · subst e
      rw [if_pos (by rfl), if_pos (by simp)]
      exact ih
    · rw [if_neg, if_neg (by simpa using e)]
      · rfl
      · simp only [beq_iff_eq]
        intro e2
        have := congrArg UInt8.toNat e2
        simp at this
        omega
theorem size_u64 (w : World) : (sizeOf 29).run Tryz.prog w = .ok 1 w := by kernel_rfl
theorem eql25 (f g : Nat → Int) (w : World) : (Op.equalIn 10000 31 (.agg (arrF .u64 4 f)) (.agg (arrF .u64 4 g))).run Tryz.prog w = .ok (eqN 4 f g) w :=
  run_equalIn_arrF w 9998 _ 29 4 .u64 Tryz.underlying31 Tryz.underlying29 size_u64 f g
theorem eql25z (f : Nat → Int) (w : World) : (Op.equalIn 10000 31 (.agg (arrF .u64 4 f)) (.agg #[.int .u64 0, .int .u64 0, .int .u64 0, .int .u64 0])).run Tryz.prog w = .ok (eqN 4 f fun _ => 0) w := eql25 f (fun _ => 0) w
end Go.Proofs.YtibhijjmmagdcaaGreatDoor
