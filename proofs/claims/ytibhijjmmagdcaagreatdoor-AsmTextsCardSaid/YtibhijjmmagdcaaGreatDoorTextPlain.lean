/- How bytes are written (layer 4), as plain lists. -/
import Derived.Test.YtibhijjmmagdcaaGreatDoorHexPlain
import Derived.Laws.BitsLemmas
namespace Go.Proofs.YtibhijjmmagdcaaGreatDoor
set_option linter.unusedVariables false
set_option linter.unusedSimpArgs false
open Go.RowKit Go.Proofs.YtibhijjmmagdcaaGreatDoorW.PrintWords
theorem strOfNums_app (a b : List Int) : strOfNums (a ++ b) = strOfNums a ++ strOfNums b := by
  apply ByteArray.ext
  rw [ByteArray.data_append]
  simp [strOfNums]
theorem strOfNums_bytesOf (s : ByteArray) : strOfNums (bytesOf s) = s := by
  have h : (bytesOf s).map (fun n => UInt8.ofNat n.toNat) = s.data.toList := by
    rw [bytesOf, List.map_map]
    conv => rhs; rw [← List.map_id s.data.toList]
    apply List.map_congr_left
    intro b _
    simp
  unfold strOfNums
  rw [h]
theorem bytesOf_strOfNums {l : List Int} (h : ∀ c ∈ l, 0 ≤ c ∧ c < 256) : bytesOf (strOfNums l) = l := by
  have e : (strOfNums l).data.toList = l.map fun n => UInt8.ofNat n.toNat := rfl
  rw [bytesOf, e, List.map_map]
  conv => rhs; rw [← List.map_id l]
  apply List.map_congr_left
  intro c hc
  have := h c hc
  simp only [Function.comp, UInt8.toNat_ofNat', id]
  omega
/-- A digit's sign. -/
def dg (n : Int) : Int := if n < 10 then 48 + n else 87 + n
theorem dg_byte {n : Int} (h0 : 0 ≤ n) (h1 : n < 16) : 0 ≤ dg n ∧ dg n < 256 := by unfold dg; split <;> omega
theorem hv_dg {n : Int} (h0 : 0 ≤ n) (h1 : n < 16) : hv (dg n) = n := by
  unfold dg hv
  by_cases h : n < 10
  · rw [if_pos h, if_pos (by omega)]; omega
  · rw [if_neg h, if_neg (by omega), if_pos (by omega)]; omega
def hexOf (l : List Int) : List Int := l.flatMap fun c => [dg (c / 16), dg (c % 16)]
theorem hexOf_cons (c : Int) (l : List Int) : hexOf (c :: l) = dg (c / 16) :: dg (c % 16) :: hexOf l := rfl
theorem hexOf_app (a b : List Int) : hexOf (a ++ b) = hexOf a ++ hexOf b := by simp [hexOf]
theorem hexOf_length (l : List Int) : (hexOf l).length = 2 * l.length := by
  induction l with
  | nil => rfl
  | cons c l ih => rw [hexOf_cons]; simp [ih]; omega
theorem hexOf_byte {l : List Int} (h : ∀ c ∈ l, 0 ≤ c ∧ c < 256) : ∀ c ∈ hexOf l, 0 ≤ c ∧ c < 256 := by
  intro c hc
  simp only [hexOf, List.mem_flatMap] at hc
  obtain ⟨x, hx, hc⟩ := hc
  have := h x hx
  simp only [List.mem_cons, List.not_mem_nil, or_false] at hc
  rcases hc with rfl | rfl
  · exact dg_byte (by omega) (by omega)
  · exact dg_byte (by omega) (by omega)
/-- How bytes are written. -/
def textL (l : List Int) : List Int := 48 :: 120 :: hexOf l
theorem textL_byte {l : List Int} (h : ∀ c ∈ l, 0 ≤ c ∧ c < 256) : ∀ c ∈ textL l, 0 ≤ c ∧ c < 256 := by
  intro c hc
  simp only [textL, List.mem_cons] at hc
  rcases hc with rfl | rfl | hc
  · omega
  · omega
  · exact hexOf_byte h c hc
def HEXS : ByteArray := ⟨#[48, 49, 50, 51, 52, 53, 54, 55, 56, 57, 97, 98, 99, 100, 101, 102]⟩
theorem hexs_fin : ∀ n : Fin 16, bt HEXS (n.val : Int) = dg (n.val : Int) := by decide +kernel
theorem hexs_at {n : Int} (h0 : 0 ≤ n) (h1 : n < 16) : bt HEXS n = dg n := by
  have := hexs_fin ⟨n.toNat, by omega⟩
  simpa [Int.toNat_of_nonneg h0] using this
theorem rd_at {l : List Int} {i : Nat} (h : i < l.length) : rd l (i : Int) = l[i] := by
  rw [rd, Int.toNat_natCast, List.getD_eq_getElem?_getD, List.getElem?_eq_getElem h]; rfl
theorem digit_fin : ∀ n : Fin 16, HEXS.extract n.val (n.val + 1) = strOfNums [dg (n.val : Int)] := by decide +kernel
theorem strOfNums_size (l : List Int) : (strOfNums l).size = l.length := by show ((l.map fun n => UInt8.ofNat n.toNat).toArray).size = _; simp
end Go.Proofs.YtibhijjmmagdcaaGreatDoor
