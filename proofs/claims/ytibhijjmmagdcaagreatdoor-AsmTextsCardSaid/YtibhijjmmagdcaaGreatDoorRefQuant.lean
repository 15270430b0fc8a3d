/- smithyref04.Quantity. -/
import Derived.Test.YtibhijjmmagdcaaGreatDoorQuant
import Derived.Test.YtibhijjmmagdcaaGreatDoorHexWord
namespace Go.Proofs.YtibhijjmmagdcaaGreatDoor
set_option linter.unusedVariables false
set_option linter.unusedSimpArgs false
open Go.RowKit Go.Proofs.YtibhijjmmagdcaaGreatDoorW.PrintWords Go.Proofs.YtibhijjmmagdcaaGreatDoorW.PrintLast
def strSize : Value → Nat
  | .string s => s.size
  | _ => 0
theorem bytesOf_extract (s : ByteArray) (i : Nat) : bytesOf (s.extract i s.size) = (bytesOf s).drop i := by
  simp only [bytesOf, ByteArray.data_extract, Array.toList_extract, List.extract_eq_take_drop]
  rw [List.take_of_length_le (by simp), List.map_drop]
theorem strip1_step {s : ByteArray} (h : 1 < s.size) (h0 : bt s 0 = 48) : strip1 (bytesOf (s.extract 1 s.size)) = strip1 (bytesOf s) := by
  rw [bytesOf_extract]
  have e1 := bytesOf_drop s 0 (by omega)
  have e2 := bytesOf_drop s 1 h
  rw [List.drop_zero] at e1
  rw [Nat.zero_add, show ((0 : Nat) : Int) = 0 from rfl, h0] at e1
  rw [e1, e2, strip1, if_pos rfl]
  rfl
theorem strip1_done {s : ByteArray} (h : 0 < s.size) (h0 : ¬ (1 < s.size ∧ bt s 0 = 48)) : strip1 (bytesOf s) = bytesOf s := by
  have e1 := bytesOf_drop s 0 h
  rw [List.drop_zero, Nat.zero_add, show ((0 : Nat) : Int) = 0 from rfl] at e1
  by_cases h1 : 1 < s.size
  · have e2 := bytesOf_drop s 1 h1
    rw [e1, e2, strip1, if_neg fun e => h0 ⟨h1, e⟩]
  · have : (bytesOf s).drop 1 = [] := List.drop_eq_nil_of_le (by rw [bytesOf_length]; omega)
    rw [e1, this]
    rfl
theorem quant_str {f : Nat → Int} {s : ByteArray} (h : strip1 (bytesOf s) = strip1 (hexOf (byteL f))) (h1 : strip1 (bytesOf s) = bytesOf s) : strOfNums (quantL f) = strOfNums [48, 120] ++ s := by
  rw [quantL, ← h, h1, show (48 :: 120 :: bytesOf s : List Int) = [48, 120] ++ bytesOf s from rfl, strOfNums_app, strOfNums_bytesOf]
def RQS (w : World) (f : Nat → Int) (W : World) : Prop := Below w.heap.size w W ∧ ∃ g, Blk W g (arrF .i64 32 (ofD f)) 108
end Go.Proofs.YtibhijjmmagdcaaGreatDoor
