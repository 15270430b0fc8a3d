/- smithyref02: whole numbers of any length, as rows of digits of 256: at, Plus, Zero, High, Word, walked. -/
import Derived.Test.YtibhijjmmagdcaaGreatDoorRef01
import Derived.Test.YtibhijjmmagdcaaGreatDoorOpsDests
namespace Go.Proofs.YtibhijjmmagdcaaGreatDoor
set_option linter.unusedVariables false
set_option linter.unusedSimpArgs false
open Go.RowKit Go.Proofs.YtibhijjmmagdcaaGreatDoorW.PrintWords Go.Proofs.YtibhijjmmagdcaaGreatDoorW.PrintLast
/-- The number whose digits these are, the lowest first: the first k of them. -/
def pre (a : List Int) : Nat → Int
  | 0 => 0
  | k + 1 => pre a k + a.getD k 0 * 256 ^ k
theorem pre_congr {a b : List Int} : ∀ {k : Nat}, (∀ j, j < k → a.getD j 0 = b.getD j 0) → pre a k = pre b k
  | 0, _ => rfl
  | k + 1, h => by rw [pre, pre, pre_congr (k := k) (fun j hj => h j (by omega)), h k (by omega)]
theorem getD_app_left {a b : List Int} {j : Nat} (h : j < a.length) : (a ++ b).getD j 0 = a.getD j 0 := by
  rw [List.getD_eq_getElem?_getD, List.getD_eq_getElem?_getD, List.getElem?_append_left h]
theorem pre_snoc (a : List Int) (x : Int) : pre (a ++ [x]) (a.length + 1) = pre a a.length + x * 256 ^ a.length := by
  rw [pre, pre_congr (b := a) (fun j hj => getD_app_left hj)]
  simp
theorem getD_out {a : List Int} {j : Nat} (h : a.length ≤ j) : a.getD j 0 = 0 := by
  rw [List.getD_eq_getElem?_getD, List.getElem?_eq_none h]; rfl
theorem pre_out {a : List Int} {n : Nat} (h : a.length ≤ n) : pre a n = pre a a.length := by
  induction n with
  | zero => have : a.length = 0 := by omega
            rw [this]
  | succ n ih =>
    rcases Nat.lt_or_ge n a.length with hn | hn
    · have : a.length = n + 1 := by omega
      rw [this]
    · rw [pre, ih hn, getD_out hn]; simp
def Dig (a : List Int) : Prop := ∀ c ∈ a, 0 ≤ c ∧ c < 256
theorem Dig.at {a : List Int} (h : Dig a) (j : Nat) : 0 ≤ a.getD j 0 ∧ a.getD j 0 < 256 := by
  rcases Nat.lt_or_ge j a.length with hj | hj
  · rw [List.getD_eq_getElem?_getD, List.getElem?_eq_getElem hj]
    exact h _ (List.getElem_mem hj)
  · rw [getD_out hj]; omega
theorem Dig.snoc {a : List Int} (h : Dig a) {x : Int} (hx : 0 ≤ x ∧ x < 256) : Dig (a ++ [x]) := fun c hc => by
  rcases List.mem_append.1 hc with hc | hc
  · exact h c hc
  · simp at hc; omega
theorem pre_nonneg {a : List Int} (h : Dig a) : ∀ k, 0 ≤ pre a k
  | 0 => Int.le_refl _
  | k + 1 => by
    have h1 := pre_nonneg h k
    have h2 : 0 ≤ a.getD k 0 * 256 ^ k := Int.mul_nonneg (h.at k).1 (Int.le_of_lt (Int.pow_pos (by decide)))
    rw [pre]; omega
theorem at_any (A : Option Addr) (c : Nat) (l : List Int) (i : Nat) (w : World) (hr : (Kd.int .i64).C w A l.length l) (hi : i ≤ 100000) :
    Calls Tryz.prog 62 #[.slice A l.length c, .int .i64 (i : Int)] w fun e w' => e = .returned (.int .i64 (l.getD i 0)) ∧ w' = w := by
  by_cases h : i < l.length
  · obtain ⟨ad, rfl, hc⟩ := Kd.at_int hr (i : Int) (by omega) (by omega)
    have hg : rd l (i : Int) = l.getD i 0 := by rw [rd]; simp
    rw [hg, Int.toNat_natCast] at hc
    have p0 : (0 : Int) ≤ (i : Int) := by omega
    have p1 : (i : Int) < (l.length : Int) := by omega
    clear hr hg h hi
    go_enter Tryz.func62, Tryz.ntmps62
    go_wp2_with fail
    go_ret
    exact ⟨rfl, rfl⟩
  · have p1 : ¬ (i : Int) < (l.length : Int) := by omega
    rw [getD_out (by omega)]
    clear hr h hi
    go_enter Tryz.func62, Tryz.ntmps62
    go_wp2_with fail
    go_ret
    exact ⟨rfl, rfl⟩
/-- A number that lies there. -/
def NumR (W : World) (base : Nat) (v : Value) (r : List Int) : Prop := OwnI W base v r ∧ Dig r
theorem NumR.below {W W1 : World} {base : Nat} {v : Value} {r : List Int} (h : NumR W base v r) (hb : Below W.heap.size W W1) : NumR W1 base v r := ⟨h.1.below hb, h.2⟩
theorem made_nil (w : World) (base : Nat) (hb : base ≤ w.heap.size) : OwnI (w.alloc (.cells #[] 3)) base (.slice (some ⟨w.heap.size, 0, none⟩) 0 0) [] := ⟨rfl, .inr ⟨w.heap.size, 0, #[], rfl, hb, heap_alloc_new w _, Nat.le_refl _, by decide, rfl, rfl⟩⟩
theorem plus_step {a b x c P Q R E : Int} (h : R + c * E = P + Q) (hx : x = a + b + c) : (R + x % 256 * E) + x / 256 * (E * 256) = (P + a * E) + (Q + b * E) := by
  have h1 : x % 256 = x - 256 * (x / 256) := by omega
  rw [h1]
  subst hx
  grind
set_option maxRecDepth 100000 in
set_option maxHeartbeats 1000000 in
theorem plus_any (A B : Option Addr) (ca cb : Nat) (a b : List Int) (w : World) (ha : (Kd.int .i64).C w A a.length a) (hb : (Kd.int .i64).C w B b.length b) (da : Dig a) (db : Dig b) (la : a.length ≤ 10000) (lb : b.length ≤ 10000) :
    Calls Tryz.prog 29 #[.slice A a.length ca, .slice B b.length cb] w fun e w' => ∃ v r, e = .returned v ∧ NumR w' w.heap.size v r ∧ r.length = max a.length b.length + 1 ∧ pre r r.length = pre a a.length + pre b b.length ∧ Below w.heap.size w w' := by
  have HA := Lib.hid fun (W : World) (h : Below w.heap.size w W) (i : Nat) (hi : i ≤ 100000) => at_any A ca a i W (Kd.C_below ha h) hi
  have HB := Lib.hid fun (W : World) (h : Below w.heap.size w W) (i : Nat) (hi : i ≤ 100000) => at_any B cb b i W (Kd.C_below hb h) hi
  obtain ⟨m, hm⟩ : ∃ m, max a.length b.length = m := ⟨_, rfl⟩
  have hmx : max (a.length : Int) (b.length : Int) = (m : Int) := by omega
  have HAL : Hid (a.length ≤ m) := by unfold Hid; omega
  have HBL : Hid (b.length ≤ m) := by unfold Hid; omega
  have HML : Hid (m ≤ 10000) := by unfold Hid; omega
  have DA := Lib.hid da
  have DB := Lib.hid db
  have HM := Lib.hid hm
  clear ha hb da db la lb hm
  go_enter Tryz.func29, Tryz.ntmps29
  go_wp2_with fail
  refine wp_any_world (fun W => OwnI W w.heap.size (.slice (some ⟨w.heap.size, 0, none⟩) 0 0) [] ∧ Below w.heap.size w W) ⟨made_nil w _ (Nat.le_refl _), below_alloc (Below.refl _ _) _⟩ ?_
  intro w1 hS
  go_loopw [5, 6, 7] (fun v cv i wr => ∃ (r : List Int) (c : Int) (k : Nat), k ≤ m + 1 ∧ i = .int .i64 k ∧ cv = .int .i64 c ∧ 0 ≤ c ∧ c ≤ 1 ∧ (k = m + 1 → c = 0) ∧ r.length = k ∧ Dig r ∧ pre r k + c * 256 ^ k = pre a k + pre b k ∧ OwnI wr w.heap.size v r ∧ Below w.heap.size w wr) (fun _ _ i _ => m + 1 - (intOf i).toNat)
  case atStart => exact ⟨[], 0, 0, by omega, rfl, rfl, by omega, by omega, fun h => by omega, rfl, fun c hc => (by cases hc), rfl, hS.1, hS.2⟩
  case round =>
    clear hS
    obtain ⟨r, c, k, hk, rfl, rfl, hc0, hc1, hcl, hrl, hdr, hpr, hO, hB⟩ := hrel
    by_cases hlt : k < m + 1
    · have p0 : (0 : Int) ≤ (k : Int) := by omega
      have p1 : (k : Int) < (m : Int) + 1 := by omega
      have p2 : (k : Int) < 100000 := by have := HML.out; omega
      have p3 : (m : Int) < 100000 := by have := HML.out; omega
      have p4 : (0 : Int) ≤ (m : Int) := by omega
      have xa := DA.out.at k
      have xb := DB.out.at k
      have HCA := Lib.hid fun (W : World) (h : Below w.heap.size w W) => HA.out W h k (by omega)
      have HCB := Lib.hid fun (W : World) (h : Below w.heap.size w W) => HB.out W h k (by omega)
      have HZ : Hid (k = m → a.getD k 0 = 0 ∧ b.getD k 0 = 0) := fun h => ⟨getD_out (by have := HAL.out; omega), getD_out (by have := HBL.out; omega)⟩
      have HST : Hid (∀ x, x = a.getD k 0 + b.getD k 0 + c → pre (r ++ [x % 256]) (k + 1) + x / 256 * 256 ^ (k + 1) = pre a (k + 1) + pre b (k + 1)) := fun x hx => by
        subst hrl
        rw [pre_snoc, Int.pow_succ, pre, pre]
        exact plus_step hpr hx
      obtain ⟨x, hx⟩ : ∃ x, a.getD k 0 = x := ⟨_, rfl⟩
      obtain ⟨y, hy⟩ : ∃ y, b.getD k 0 = y := ⟨_, rfl⟩
      rw [hx] at xa HCA HZ HST
      rw [hy] at xb HCB HZ HST
      have HO := Lib.hid hO
      have HB' := Lib.hid hB
      have HDR := Lib.hid hdr
      have HRL := Lib.hid hrl
      clear hx hy hcl hpr hO hB hdr hrl
      have hsum : x + y + c < 1000 := by omega
      go_wp2_with (first | (go_at_call 62; first | (have _g := u1x; refine (HCB.out _ HB'.out).mono ?_; rintro e w3 ⟨rfl, rfl⟩) | (refine (HCA.out _ HB'.out).mono ?_; rintro e w2 ⟨rfl, rfl⟩; have u1x := HB')) | (at_builtin; refine print_append_num w.heap.size rfl (.tmp 29) (.tmp 32) 74 3 .i64 8 rfl Tryz.underlying74 infoI (by decide) _ r _ rfl rfl HO.out HB'.out HB'.out.size (by have := HRL.out; have := HML.out; omega) ?_; intro v1 w4 ho hb1 _ _))
      go_roundw
      case rel =>
        refine ⟨r ++ [(x + y + c) % 256], (x + y + c) / 256, k + 1, by omega, by go_num, rfl, by omega, by omega, fun h => ?_, by rw [List.length_append, HRL.out]; rfl, HDR.out.snoc (by omega), HST.out _ rfl, ho, hb1⟩
        have := HZ.out (by omega)
        omega
      case measure => simp [intOf]; omega
    · obtain rfl : k = m + 1 := by omega
      have hc := hcl rfl
      subst hc
      have hfin : pre r r.length = pre a a.length + pre b b.length := by
        have h1 := hpr
        rw [pre_out (a := a) (by have := HAL.out; omega), pre_out (a := b) (by have := HBL.out; omega)] at h1
        rw [hrl]
        simpa using h1
      have p1 : ¬ ((m + 1 : Nat) : Int) < (m : Int) + 1 := by omega
      have p3 : (m : Int) < 100000 := by have := HML.out; omega
      have p4 : (0 : Int) ≤ (m : Int) := by omega
      have HF := Lib.hid hfin
      have HO := Lib.hid hO
      have HB' := Lib.hid hB
      have HDR := Lib.hid hdr
      have HRL := Lib.hid hrl
      clear hcl hpr hO hB hdr hrl hfin
      go_wp2_with fail
      go_ret
      exact ⟨_, rfl, r, ⟨HO.out, HDR.out⟩, by rw [HRL.out, HM.out], HF.out, HB'.out⟩
set_option maxRecDepth 100000 in
theorem zero_any (A : Option Addr) (c : Nat) (l : List Int) (w : World) (hr : (Kd.int .i64).C w A l.length l) (hl : l.length ≤ 100000) :
    Calls Tryz.prog 31 #[.slice A l.length c] w fun e w' => e = .returned (.bool (l.all fun x => decide (x = 0))) ∧ w' = w := by
  have HC : Hid (∀ k, (hk : k < l.length) → ∃ ad, A = some ad ∧ w.cell? (ad.add k) = some (.int .i64 l[k])) := fun k hk => by
    obtain ⟨ad, hA, hc⟩ := Kd.at_int hr (k : Int) (by omega) (by omega)
    refine ⟨ad, hA, ?_⟩
    rw [Int.toNat_natCast, rd_at hk] at hc
    exact hc
  have HL := Lib.hid hl
  obtain ⟨z, hz⟩ : ∃ z, (l.all fun x => decide (x = 0)) = z := ⟨_, rfl⟩
  rw [hz]
  have HV := Lib.hid hz
  clear hr hl hz
  go_enter Tryz.func31, Tryz.ntmps31
  go_wp2_with fail
  go_loopw [6] (fun i wr => ∃ k : Nat, k ≤ l.length ∧ i = .int .i64 k ∧ (∀ x ∈ l.take k, x = 0) ∧ wr = w) (fun i _ => l.length - (intOf i).toNat)
  case atStart => exact ⟨0, by omega, rfl, by simp, rfl⟩
  case round =>
    obtain ⟨k, hk, rfl, hz, rfl⟩ := hrel
    by_cases hlt : k < l.length
    · obtain ⟨ad, rfl, cc⟩ := HC.out k hlt
      have p0 : (0 : Int) ≤ (k : Int) := by omega
      have p1 : (k : Int) < (l.length : Int) := by omega
      have p2 : (k : Int) < 1000000 := by have := HL.out; omega
      have HZ := Lib.hid hz
      have hmem := List.getElem_mem hlt
      have htk : l.take (k + 1) = l.take k ++ [l[k]] := by rw [List.take_add_one, List.getElem?_eq_getElem hlt]; rfl
      have HTK := Lib.hid htk
      have HMEM := Lib.hid hmem
      obtain ⟨x, hx⟩ : ∃ x, l[k] = x := ⟨_, rfl⟩
      rw [hx] at cc HTK HMEM
      clear hz hmem htk hx
      by_cases h0 : x = 0
      · subst h0
        go_wp2_with fail
        go_roundw
        case rel => exact ⟨k + 1, by omega, by go_num, fun y hy => by
          rw [HTK.out] at hy
          rcases List.mem_append.1 hy with hy | hy
          · exact HZ.out y hy
          · simpa using hy, trivial⟩
        case measure => simp [intOf]; omega
      · have h0b : (x != 0) = true := by simpa using h0
        have HN : Hid ((l.all fun x => decide (x = 0)) = false) := by
          unfold Hid
          rw [List.all_eq_false]
          exact ⟨x, HMEM.out, by simpa using h0⟩
        obtain rfl : z = false := HV.out.symm.trans HN.out
        clear h0
        go_wp2_with fail
        go_ret
        exact ⟨rfl, rfl⟩
    · obtain rfl : k = l.length := by omega
      have HN : Hid ((l.all fun x => decide (x = 0)) = true) := by
        unfold Hid
        rw [List.all_eq_true]
        intro x hx
        have := hz x (by rw [List.take_length]; exact hx)
        simpa using this
      obtain rfl : z = true := HV.out.symm.trans HN.out
      clear hz
      go_wp2_with fail
      go_ret
      exact ⟨rfl, rfl⟩
set_option maxRecDepth 100000 in
/-- High, and whether it is 0: of a number of the call's own. -/
theorem high_any (base : Nat) (v : Value) (l : List Int) (w : World) (hO : OwnI w base v l) (hl : l.length ≤ 100000) :
    Calls Tryz.prog 32 #[v] w fun e w' => ∃ A c, e = .returned (.slice A (l.drop 32).length c) ∧ (Kd.int .i64).C w' A (l.drop 32).length (l.drop 32) ∧ Below w.heap.size w w' := by
  obtain ⟨A, c, rfl, hc, hr⟩ := hO.reads
  by_cases h : l.length ≤ 32
  · have p : (l.length : Int) ≤ 32 := by omega
    have hd : l.drop 32 = [] := List.drop_eq_nil_of_le h
    rw [hd]
    clear hr hO hl h hd
    go_enter Tryz.func32, Tryz.ntmps32
    go_wp2_with fail
    go_ret
    exact ⟨_, _, rfl, Kd.C_of_reads (d := (0 : Int)) ⟨rfl, by decide, fun h => by simp at h⟩, below_alloc (Below.refl _ _) _⟩
  · have p : ¬ (l.length : Int) ≤ 32 := by omega
    have p1 : (32 : Int) ≤ (l.length : Int) := by omega
    have p2 : (l.length : Int) ≤ (c : Int) := by omega
    obtain ⟨g, rfl⟩ : ∃ g, A = some ⟨g, 0, none⟩ := by
      rcases hO.2 with ⟨he, hx⟩ | ⟨g, cap, cur, hv, _⟩
      · injection he with _ he _
        omega
      · injection hv with hv _ _
        exact ⟨g, hv⟩
    have HRD : Hid ((Kd.int .i64).C w (some ⟨g, 32, none⟩) (l.drop 32).length (l.drop 32)) := Kd.C_of_reads (d := (0 : Int)) ⟨rfl, by simp; omega, fun _ => ⟨_, rfl, fun j hj => by
      rw [List.length_drop] at hj
      obtain ⟨ad, hA, hc⟩ := Kd.at_int hr ((32 + j : Nat) : Int) (by omega) (by omega)
      injection hA with hA
      subst hA
      rw [Int.toNat_natCast, add_plain, rd_at (by omega)] at hc
      rw [Addr.add_mid, hc, List.getD_eq_getElem?_getD, List.getElem?_drop, List.getElem?_eq_getElem (by omega)]
      rfl⟩⟩
    have hne : ¬ c = 32 := by omega
    have hld : (l.drop 32).length = l.length - 32 := List.length_drop
    rw [hld] at HRD ⊢
    clear hr hO hl h hc hld
    go_enter Tryz.func32, Tryz.ntmps32
    go_wp2_with fail
    go_ret
    exact ⟨_, ⟨_, rfl⟩, HRD.out, Below.refl _ _⟩
end Go.Proofs.YtibhijjmmagdcaaGreatDoor
