/- hex.Word, and what the document's answer makes of the same text (smithyref04.Word): a quantity out of its digits. -/
import Derived.Test.YtibhijjmmagdcaaGreatDoorHex
import Derived.Test.YtibhijjmmagdcaaGreatDoorWordPlain
namespace Go.Proofs.YtibhijjmmagdcaaGreatDoor
set_option linter.unusedVariables false
set_option linter.unusedSimpArgs false
open Go.RowKit Go.Proofs.YtibhijjmmagdcaaGreatDoorW.PrintWords Go.Proofs.YtibhijjmmagdcaaGreatDoorW.PrintLast
theorem toList_ne {t : ByteArray} (h : 0 < t.size) : t.toList.isEmpty = false := by
  rw [ByteArray.toList_eq]
  have : t.data.toList ≠ [] := fun e => by
    have h2 : t.data.toList.length = 0 := by rw [e]; rfl
    rw [data_length] at h2
    omega
  simpa using this
theorem bt_zero (t : ByteArray) : ∀ h : 0 < t.size, ((t[0]'h).toNat : Int) = bt t 0 := bt_at t 0
theorem bt_nat (t : ByteArray) (k : Nat) : ∀ h : k < t.size, ((t[k]'h).toNat : Int) = bt t k := fun h => by simpa using bt_at t k (by simpa using h)
theorem zero_err {r : List Int} (h : digErr r ≠ 0) : wval (fun _ => 0) = digNum r % M256 := by rw [zero_val, digNum, if_neg h]; rfl
theorem num_err {r : List Int} (h : digErr r = 0) : digNum r = hnum r := by rw [digNum, if_pos h]
def HWS (w : World) (F : Nat → Int) (W : World) : Prop := Below w.heap.size w W ∧ Blk W w.heap.size (arrF .u64 4 fun _ => 0) 31 ∧ Blk W (w.heap.size + 1) (arrF .u64 4 F) 31
theorem HWS.below {w W W1 : World} {F : Nat → Int} (h : HWS w F W) (hb : Below W.heap.size W W1) : HWS w F W1 := ⟨bel_then h.1 hb, h.2.1.below hb, h.2.2.below hb⟩
end Go.Proofs.YtibhijjmmagdcaaGreatDoor
