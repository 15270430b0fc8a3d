/- Layer 11's tables as plain functions; no program in sight. (The tables are written by opsgen.py off the Go text.) -/
import Derived.Test.YtibhijjmmagdcaaGreatDoorTextPlain
import Derived.Lib.ItoaNum
namespace Go.Proofs.YtibhijjmmagdcaaGreatDoor
set_option linter.unusedVariables false
set_option linter.unusedSimpArgs false
open Go.RowKit Go.Proofs.YtibhijjmmagdcaaGreatDoorW.PrintWords
/-- What is told of an instruction: its name's bytes, what it takes, puts, costs, how many bytes belong to it. -/
abbrev OpI := List Int × Int × Int × Int × Int
def zeroI : OpI := ([], 0, 0, 0, 0)
def opA (o : OpI) : Array Value := #[.string (strOfNums o.1), .int .i64 o.2.1, .int .i64 o.2.2.1, .int .u64 o.2.2.2.1, .int .i64 o.2.2.2.2]
def opR (r : Option OpI) : Value := .tuple #[.agg (opA (r.getD zeroI)), .bool r.isSome]
def recF (c : Int) : Option OpI :=
  if c = 0 then some ([83, 84, 79, 80], 0, 0, 0, 0) else
  if c = 1 then some ([65, 68, 68], 2, 1, 3, 0) else
  if c = 2 then some ([77, 85, 76], 2, 1, 5, 0) else
  if c = 3 then some ([83, 85, 66], 2, 1, 3, 0) else
  if c = 4 then some ([68, 73, 86], 2, 1, 5, 0) else
  if c = 5 then some ([83, 68, 73, 86], 2, 1, 5, 0) else
  if c = 6 then some ([77, 79, 68], 2, 1, 5, 0) else
  if c = 7 then some ([83, 77, 79, 68], 2, 1, 5, 0) else
  if c = 8 then some ([65, 68, 68, 77, 79, 68], 3, 1, 8, 0) else
  if c = 9 then some ([77, 85, 76, 77, 79, 68], 3, 1, 8, 0) else
  if c = 10 then some ([69, 88, 80], 2, 1, 10, 0) else
  if c = 11 then some ([83, 73, 71, 78, 69, 88, 84, 69, 78, 68], 2, 1, 5, 0) else
  if c = 16 then some ([76, 84], 2, 1, 3, 0) else
  if c = 17 then some ([71, 84], 2, 1, 3, 0) else
  if c = 18 then some ([83, 76, 84], 2, 1, 3, 0) else
  if c = 19 then some ([83, 71, 84], 2, 1, 3, 0) else
  if c = 20 then some ([69, 81], 2, 1, 3, 0) else
  if c = 21 then some ([73, 83, 90, 69, 82, 79], 1, 1, 3, 0) else
  if c = 22 then some ([65, 78, 68], 2, 1, 3, 0) else
  if c = 23 then some ([79, 82], 2, 1, 3, 0) else
  if c = 24 then some ([88, 79, 82], 2, 1, 3, 0) else
  if c = 25 then some ([78, 79, 84], 1, 1, 3, 0) else
  if c = 26 then some ([66, 89, 84, 69], 2, 1, 3, 0) else
  if c = 27 then some ([83, 72, 76], 2, 1, 3, 0) else
  if c = 28 then some ([83, 72, 82], 2, 1, 3, 0) else
  if c = 29 then some ([83, 65, 82], 2, 1, 3, 0) else
  if c = 32 then some ([75, 69, 67, 67, 65, 75, 50, 53, 54], 2, 1, 30, 0) else
  none
def lookF (c : Int) : Option OpI :=
  if c = 48 then some ([65, 68, 68, 82, 69, 83, 83], 0, 1, 2, 0) else
  if c = 49 then some ([66, 65, 76, 65, 78, 67, 69], 1, 1, 100, 0) else
  if c = 50 then some ([79, 82, 73, 71, 73, 78], 0, 1, 2, 0) else
  if c = 51 then some ([67, 65, 76, 76, 69, 82], 0, 1, 2, 0) else
  if c = 52 then some ([67, 65, 76, 76, 86, 65, 76, 85, 69], 0, 1, 2, 0) else
  if c = 53 then some ([67, 65, 76, 76, 68, 65, 84, 65, 76, 79, 65, 68], 1, 1, 3, 0) else
  if c = 54 then some ([67, 65, 76, 76, 68, 65, 84, 65, 83, 73, 90, 69], 0, 1, 2, 0) else
  if c = 55 then some ([67, 65, 76, 76, 68, 65, 84, 65, 67, 79, 80, 89], 3, 0, 3, 0) else
  if c = 56 then some ([67, 79, 68, 69, 83, 73, 90, 69], 0, 1, 2, 0) else
  if c = 57 then some ([67, 79, 68, 69, 67, 79, 80, 89], 3, 0, 3, 0) else
  if c = 58 then some ([71, 65, 83, 80, 82, 73, 67, 69], 0, 1, 2, 0) else
  if c = 59 then some ([69, 88, 84, 67, 79, 68, 69, 83, 73, 90, 69], 1, 1, 100, 0) else
  if c = 60 then some ([69, 88, 84, 67, 79, 68, 69, 67, 79, 80, 89], 4, 0, 100, 0) else
  if c = 61 then some ([82, 69, 84, 85, 82, 78, 68, 65, 84, 65, 83, 73, 90, 69], 0, 1, 2, 0) else
  if c = 62 then some ([82, 69, 84, 85, 82, 78, 68, 65, 84, 65, 67, 79, 80, 89], 3, 0, 3, 0) else
  if c = 63 then some ([69, 88, 84, 67, 79, 68, 69, 72, 65, 83, 72], 1, 1, 100, 0) else
  if c = 64 then some ([66, 76, 79, 67, 75, 72, 65, 83, 72], 1, 1, 20, 0) else
  if c = 65 then some ([67, 79, 73, 78, 66, 65, 83, 69], 0, 1, 2, 0) else
  if c = 66 then some ([84, 73, 77, 69, 83, 84, 65, 77, 80], 0, 1, 2, 0) else
  if c = 67 then some ([78, 85, 77, 66, 69, 82], 0, 1, 2, 0) else
  if c = 68 then some ([80, 82, 69, 86, 82, 65, 78, 68, 65, 79], 0, 1, 2, 0) else
  if c = 69 then some ([71, 65, 83, 76, 73, 77, 73, 84], 0, 1, 2, 0) else
  if c = 70 then some ([67, 72, 65, 73, 78, 73, 68], 0, 1, 2, 0) else
  if c = 71 then some ([83, 69, 76, 70, 66, 65, 76, 65, 78, 67, 69], 0, 1, 5, 0) else
  if c = 72 then some ([66, 65, 83, 69, 70, 69, 69], 0, 1, 2, 0) else
  none
def doF (c : Int) : Option OpI :=
  if c = 80 then some ([80, 79, 80], 1, 0, 2, 0) else
  if c = 81 then some ([77, 76, 79, 65, 68], 1, 1, 3, 0) else
  if c = 82 then some ([77, 83, 84, 79, 82, 69], 2, 0, 3, 0) else
  if c = 83 then some ([77, 83, 84, 79, 82, 69, 56], 2, 0, 3, 0) else
  if c = 84 then some ([83, 76, 79, 65, 68], 1, 1, 100, 0) else
  if c = 85 then some ([83, 83, 84, 79, 82, 69], 2, 0, 100, 0) else
  if c = 86 then some ([74, 85, 77, 80], 1, 0, 8, 0) else
  if c = 87 then some ([74, 85, 77, 80, 73], 2, 0, 10, 0) else
  if c = 88 then some ([80, 67], 0, 1, 2, 0) else
  if c = 89 then some ([77, 83, 73, 90, 69], 0, 1, 2, 0) else
  if c = 90 then some ([71, 65, 83], 0, 1, 2, 0) else
  if c = 91 then some ([74, 85, 77, 80, 68, 69, 83, 84], 0, 0, 1, 0) else
  if c = 95 then some ([80, 85, 83, 72, 48], 0, 1, 2, 0) else
  if c = 240 then some ([67, 82, 69, 65, 84, 69], 3, 1, 32000, 0) else
  if c = 241 then some ([67, 65, 76, 76], 7, 1, 100, 0) else
  if c = 242 then some ([67, 65, 76, 76, 67, 79, 68, 69], 7, 1, 100, 0) else
  if c = 243 then some ([82, 69, 84, 85, 82, 78], 2, 0, 0, 0) else
  if c = 244 then some ([68, 69, 76, 69, 71, 65, 84, 69, 67, 65, 76, 76], 6, 1, 100, 0) else
  if c = 245 then some ([67, 82, 69, 65, 84, 69, 50], 4, 1, 32000, 0) else
  if c = 250 then some ([83, 84, 65, 84, 73, 67, 67, 65, 76, 76], 6, 1, 100, 0) else
  if c = 253 then some ([82, 69, 86, 69, 82, 84], 2, 0, 0, 0) else
  if c = 254 then some ([73, 78, 86, 65, 76, 73, 68], 0, 0, 0, 0) else
  if c = 255 then some ([83, 69, 76, 70, 68, 69, 83, 84, 82, 85, 67, 84], 1, 0, 5000, 0) else
  none
def singleF (c : Int) : Option OpI := if c < 48 then recF c else if c < 80 then lookF c else doF c
def decL (n : Int) : List Int := if n < 10 then [48 + n] else [48 + n / 10, 48 + n % 10]
def infoF (c : Int) : Option OpI :=
  if 96 ≤ c ∧ c ≤ 127 then some ([80, 85, 83, 72] ++ decL (c % 32 + 1), 0, 1, 3, c % 32 + 1) else
  if 128 ≤ c ∧ c ≤ 143 then some ([68, 85, 80] ++ decL (c % 32 + 1), c % 32 + 1, c % 32 + 2, 3, 0) else
  if 144 ≤ c ∧ c ≤ 159 then some ([83, 87, 65, 80] ++ decL (c % 16 + 1), c % 16 + 2, c % 16 + 2, 3, 0) else
  if 160 ≤ c ∧ c ≤ 164 then some ([76, 79, 71] ++ decL (c % 16), c % 16 + 2, 0, 375 + 375 * (c % 16), 0) else
  singleF c
def namesF (r : Int) : List (List Int) :=
  if r = 0 then [[83, 84, 79, 80], [65, 68, 68], [77, 85, 76], [83, 85, 66], [68, 73, 86], [83, 68, 73, 86], [77, 79, 68], [83, 77, 79, 68], [65, 68, 68, 77, 79, 68], [77, 85, 76, 77, 79, 68], [69, 88, 80], [83, 73, 71, 78, 69, 88, 84, 69, 78, 68]] else
  if r = 1 then [[76, 84], [71, 84], [83, 76, 84], [83, 71, 84], [69, 81], [73, 83, 90, 69, 82, 79], [65, 78, 68], [79, 82], [88, 79, 82], [78, 79, 84], [66, 89, 84, 69], [83, 72, 76], [83, 72, 82], [83, 65, 82]] else
  if r = 2 then [[75, 69, 67, 67, 65, 75, 50, 53, 54]] else
  if r = 3 then [[65, 68, 68, 82, 69, 83, 83], [66, 65, 76, 65, 78, 67, 69], [79, 82, 73, 71, 73, 78], [67, 65, 76, 76, 69, 82], [67, 65, 76, 76, 86, 65, 76, 85, 69], [67, 65, 76, 76, 68, 65, 84, 65, 76, 79, 65, 68], [67, 65, 76, 76, 68, 65, 84, 65, 83, 73, 90, 69], [67, 65, 76, 76, 68, 65, 84, 65, 67, 79, 80, 89], [67, 79, 68, 69, 83, 73, 90, 69], [67, 79, 68, 69, 67, 79, 80, 89], [71, 65, 83, 80, 82, 73, 67, 69], [69, 88, 84, 67, 79, 68, 69, 83, 73, 90, 69], [69, 88, 84, 67, 79, 68, 69, 67, 79, 80, 89], [82, 69, 84, 85, 82, 78, 68, 65, 84, 65, 83, 73, 90, 69], [82, 69, 84, 85, 82, 78, 68, 65, 84, 65, 67, 79, 80, 89], [69, 88, 84, 67, 79, 68, 69, 72, 65, 83, 72]] else
  if r = 4 then [[66, 76, 79, 67, 75, 72, 65, 83, 72], [67, 79, 73, 78, 66, 65, 83, 69], [84, 73, 77, 69, 83, 84, 65, 77, 80], [78, 85, 77, 66, 69, 82], [80, 82, 69, 86, 82, 65, 78, 68, 65, 79], [71, 65, 83, 76, 73, 77, 73, 84], [67, 72, 65, 73, 78, 73, 68], [83, 69, 76, 70, 66, 65, 76, 65, 78, 67, 69], [66, 65, 83, 69, 70, 69, 69]] else
  if r = 5 then [[80, 79, 80], [77, 76, 79, 65, 68], [77, 83, 84, 79, 82, 69], [77, 83, 84, 79, 82, 69, 56], [83, 76, 79, 65, 68], [83, 83, 84, 79, 82, 69], [74, 85, 77, 80], [74, 85, 77, 80, 73], [80, 67], [77, 83, 73, 90, 69], [71, 65, 83], [74, 85, 77, 80, 68, 69, 83, 84], [45], [45], [45], [80, 85, 83, 72, 48]] else
  if r = 15 then [[67, 82, 69, 65, 84, 69], [67, 65, 76, 76], [67, 65, 76, 76, 67, 79, 68, 69], [82, 69, 84, 85, 82, 78], [68, 69, 76, 69, 71, 65, 84, 69, 67, 65, 76, 76], [67, 82, 69, 65, 84, 69, 50], [45], [45], [45], [45], [83, 84, 65, 84, 73, 67, 67, 65, 76, 76], [45], [45], [82, 69, 86, 69, 82, 84], [73, 78, 86, 65, 76, 73, 68], [83, 69, 76, 70, 68, 69, 83, 84, 82, 85, 67, 84]] else
  []
def numsF (r : Int) : List Int :=
  if r = 0 then [0, 0, 0, 2, 1, 3, 2, 1, 5, 2, 1, 3, 2, 1, 5, 2, 1, 5, 2, 1, 5, 2, 1, 5, 3, 1, 8, 3, 1, 8, 2, 1, 10, 2, 1, 5] else
  if r = 1 then [2, 1, 3, 2, 1, 3, 2, 1, 3, 2, 1, 3, 2, 1, 3, 1, 1, 3, 2, 1, 3, 2, 1, 3, 2, 1, 3, 1, 1, 3, 2, 1, 3, 2, 1, 3, 2, 1, 3, 2, 1, 3] else
  if r = 2 then [2, 1, 30] else
  if r = 3 then [0, 1, 2, 1, 1, 100, 0, 1, 2, 0, 1, 2, 0, 1, 2, 1, 1, 3, 0, 1, 2, 3, 0, 3, 0, 1, 2, 3, 0, 3, 0, 1, 2, 1, 1, 100, 4, 0, 100, 0, 1, 2, 3, 0, 3, 1, 1, 100] else
  if r = 4 then [1, 1, 20, 0, 1, 2, 0, 1, 2, 0, 1, 2, 0, 1, 2, 0, 1, 2, 0, 1, 2, 0, 1, 5, 0, 1, 2] else
  if r = 5 then [1, 0, 2, 1, 1, 3, 2, 0, 3, 2, 0, 3, 1, 1, 100, 2, 0, 100, 1, 0, 8, 2, 0, 10, 0, 1, 2, 0, 1, 2, 0, 1, 2, 0, 0, 1, 0, 0, 0, 0, 0, 0, 0, 0, 0, 0, 1, 2] else
  if r = 15 then [3, 1, 32000, 7, 1, 100, 7, 1, 100, 2, 0, 0, 6, 1, 100, 4, 1, 32000, 0, 0, 0, 0, 0, 0, 0, 0, 0, 0, 0, 0, 6, 1, 100, 0, 0, 0, 0, 0, 0, 2, 0, 0, 0, 0, 0, 1, 0, 5000] else
  []
/-- The document's answer at row r, place k. -/
def rowF (r k : Int) : Option OpI :=
  if (namesF r).length ≤ k.toNat ∨ (namesF r).getD k.toNat [] = [45] then none
  else some ((namesF r).getD k.toNat [], (numsF r).getD (3 * k.toNat) 0, (numsF r).getD (3 * k.toNat + 1) 0, (numsF r).getD (3 * k.toNat + 2) 0, 0)
def refInfoF (c : Int) : Option OpI :=
  if c / 16 = 6 ∨ c / 16 = 7 then some ([80, 85, 83, 72] ++ decL (c - 95), 0, 1, 3, c - 95) else
  if c / 16 = 8 then some ([68, 85, 80] ++ decL (c % 16 + 1), c % 16 + 1, c % 16 + 2, 3, 0) else
  if c / 16 = 9 then some ([83, 87, 65, 80] ++ decL (c % 16 + 1), c % 16 + 2, c % 16 + 2, 3, 0) else
  if c / 16 = 10 ∧ c % 16 < 5 then some ([76, 79, 71] ++ decL (c % 16), c % 16 + 2, 0, 375 * (c % 16 + 1), 0) else
  rowF (c / 16) (c % 16)
theorem info_fin : ∀ n : Fin 256, infoF (n.val : Int) = refInfoF (n.val : Int) := by decide +kernel
theorem info_same {c : Int} (h0 : 0 ≤ c) (h1 : c < 256) : refInfoF c = infoF c := by
  have := info_fin ⟨c.toNat, by omega⟩
  simpa [Int.toNat_of_nonneg h0] using this.symm
theorem data_fin : ∀ n : Fin 256, ((infoF (n.val : Int)).getD zeroI).2.2.2.2 = if 96 ≤ (n.val : Int) ∧ (n.val : Int) ≤ 127 then (n.val : Int) - 95 else 0 := by decide +kernel
theorem dec_fin : ∀ n : Fin 40, (⟨(Lib.decDigits n.val).toArray⟩ : ByteArray) = strOfNums (decL (n.val : Int)) := by decide +kernel
theorem dec_same {n : Nat} (h : n < 40) : (⟨(Lib.decDigits n).toArray⟩ : ByteArray) = strOfNums (decL (n : Int)) := dec_fin ⟨n, h⟩
theorem and31_fin : ∀ n : Fin 256, bits .and .u8 (n.val : Int) 31 = (n.val : Int) % 32 := by decide +kernel
theorem and15_fin : ∀ n : Fin 256, bits .and .u8 (n.val : Int) 15 = (n.val : Int) % 16 := by decide +kernel
theorem and31 {c : Int} (h0 : 0 ≤ c) (h1 : c < 256) : bits .and .u8 c 31 = c % 32 := by
  have := and31_fin ⟨c.toNat, by omega⟩
  simpa [Int.toNat_of_nonneg h0] using this
theorem and15 {c : Int} (h0 : 0 ≤ c) (h1 : c < 256) : bits .and .u8 c 15 = c % 16 := by
  have := and15_fin ⟨c.toNat, by omega⟩
  simpa [Int.toNat_of_nonneg h0] using this
end Go.Proofs.YtibhijjmmagdcaaGreatDoor
