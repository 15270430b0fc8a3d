/- word.Small and ops.Dest, walked. -/
import Derived.Test.YtibhijjmmagdcaaDoorRefDests
import Derived.Test.YtibhijjmmagdcaaDoorFixed11
namespace Go.Proofs.YtibhijjmmagdcaaDoor
set_option linter.unusedVariables false
set_option linter.unusedSimpArgs false
open Go.RowKit Go.Proofs.YtibhijjmmagdcaaDoorW.PrintWords Go.Proofs.YtibhijjmmagdcaaDoorW.PrintLast
theorem or_nat {x y : Int} (h0 : 0 ≤ x ∧ x < 18446744073709551616) (h1 : 0 ≤ y ∧ y < 18446744073709551616) : (bits .or .u64 x y = 0 ↔ x = 0 ∧ y = 0) ∧ 0 ≤ bits .or .u64 x y ∧ bits .or .u64 x y < 18446744073709551616 := by
  have h := (bits_nat .u64 64 (by decide) wraps_u64 x.toNat y.toNat (by omega) (by omega)).2
  rw [Int.toNat_of_nonneg h0.1, Int.toNat_of_nonneg h1.1] at h
  rw [h]
  have hlt := Nat.or_lt_two_pow (n := 64) (x := x.toNat) (y := y.toNat) (by omega) (by omega)
  refine ⟨⟨fun e => ?_, fun ⟨a, b⟩ => by subst a; subst b; rfl⟩, by omega, by omega⟩
  have e' : x.toNat ||| y.toNat = 0 := by omega
  have := Nat.or_eq_zero_iff.1 e'
  omega
theorem small_any (f : Nat → Int) (w : World) (hf : U64 f) :
    Calls Tryd.prog 55 #[wordF f] w fun e w' => e = .returned (if f 1 = 0 ∧ f 2 = 0 ∧ f 3 = 0 then .tuple #[.int .u64 (f 0), .bool true] else .tuple #[.int .u64 0, .bool false]) ∧ Below w.heap.size w w' := by
  have o1 := or_nat (hf 1) (hf 2)
  have o2 := or_nat o1.2 (hf 3)
  have k0 : (w.alloc (.cells (arrF .u64 4 f) 25)).cell? ⟨w.heap.size, 0, none⟩ = some (.int .u64 (f 0)) := (Blk.new w _ _).cell 0
  have k1 : (w.alloc (.cells (arrF .u64 4 f) 25)).cell? ⟨w.heap.size, 1, none⟩ = some (.int .u64 (f 1)) := (Blk.new w _ _).cell 1
  have k2 : (w.alloc (.cells (arrF .u64 4 f) 25)).cell? ⟨w.heap.size, 2, none⟩ = some (.int .u64 (f 2)) := (Blk.new w _ _).cell 2
  have k3 : (w.alloc (.cells (arrF .u64 4 f) 25)).cell? ⟨w.heap.size, 3, none⟩ = some (.int .u64 (f 3)) := (Blk.new w _ _).cell 3
  unfold wordF
  by_cases h : f 1 = 0 ∧ f 2 = 0 ∧ f 3 = 0
  · have hz : (bits .or .u64 (bits .or .u64 (f 1) (f 2)) (f 3) != 0) = false := by simpa using o2.1.2 ⟨o1.1.2 ⟨h.1, h.2.1⟩, h.2.2⟩
    have HI : Hid ((if f 1 = 0 ∧ f 2 = 0 ∧ f 3 = 0 then Value.tuple #[.int .u64 (f 0), .bool true] else .tuple #[.int .u64 0, .bool false]) = .tuple #[.int .u64 (f 0), .bool true]) := if_pos h
    rw [HI.out]
    clear h o1 o2
    go_enter Tryd.func55, Tryd.ntmps55
    go_wp2_with fail
    go_ret2
    exact ⟨rfl, below_alloc (Below.refl _ _) _⟩
  · have hz : (bits .or .u64 (bits .or .u64 (f 1) (f 2)) (f 3) != 0) = true := by
      simp only [bne_iff_ne, ne_eq]
      intro e
      have a := o2.1.1 e
      have b := o1.1.1 a.1
      exact h ⟨b.1, b.2, a.2⟩
    have HI : Hid ((if f 1 = 0 ∧ f 2 = 0 ∧ f 3 = 0 then Value.tuple #[.int .u64 (f 0), .bool true] else .tuple #[.int .u64 0, .bool false]) = .tuple #[.int .u64 0, .bool false]) := if_neg h
    rw [HI.out]
    clear h o1 o2
    go_enter Tryd.func55, Tryd.ntmps55
    go_wp2_with fail
    go_ret2
    exact ⟨rfl, below_alloc (Below.refl _ _) _⟩
/-- Is a place a destination? -/
def hereB (f : Nat → Int) (l : List Int) : Bool := l.any fun x => eqN 4 f fun i => if i = 0 then x else 0
theorem hereB_iff {f : Nat → Int} {l : List Int} : hereB f l = true ↔ f 1 = 0 ∧ f 2 = 0 ∧ f 3 = 0 ∧ f 0 ∈ l := by
  rw [hereB, List.any_eq_true]
  constructor
  · rintro ⟨x, hx, he⟩
    have h := eqN_iff.1 he
    have h0 := h 0 (by omega); have h1 := h 1 (by omega); have h2 := h 2 (by omega); have h3 := h 3 (by omega)
    simp at h0 h1 h2 h3
    exact ⟨h1, h2, h3, h0 ▸ hx⟩
  · rintro ⟨h1, h2, h3, h0⟩
    refine ⟨f 0, h0, eqN_iff.2 fun i hi => ?_⟩
    obtain rfl | rfl | rfl | rfl : i = 0 ∨ i = 1 ∨ i = 2 ∨ i = 3 := by omega
    · rfl
    · exact h1
    · exact h2
    · exact h3
theorem search_any {W : World} {base : Nat} {v : Value} {ds : List Int} (h : OwnI W base v ds) (hs : ds.Pairwise (· ≤ ·)) (hn : ds.length ≤ 1000000) (x : Int) :
    Calls Tryd.prog 56 #[v, .int .i64 x] W fun e w' => ∃ i, e = .returned (.tuple #[.int .i64 i, .bool (ds.contains x)]) ∧ Below W.heap.size W w' := by
  by_cases h0 : ds.length = 0
  · obtain ⟨A, c, rfl, _, _⟩ := h.reads
    have : ds = [] := List.eq_nil_of_length_eq_zero h0
    subst this
    refine (Tryd.slices_BinarySearch_int_empty A c x W).mono ?_
    rintro e w' ⟨rfl, rfl⟩
    exact ⟨0, rfl, Below.refl _ _⟩
  · obtain ⟨g, c, rfl, _, hc⟩ := h.range (by omega)
    refine (Tryd.slices_BinarySearch_int g 0 ds.length c ds x W (Nat.le_refl _) (by omega) (fun j hj => by rw [Nat.zero_add, hc j hj, List.getD_eq_getElem?_getD, List.getElem?_eq_getElem hj]; rfl) (by rw [List.take_length]; exact hs)).mono ?_
    rintro e w' ⟨rfl, q, rfl⟩
    exact ⟨_, by rw [List.take_length], bel_drewN (Below.refl _ _) q⟩
theorem dests_search (A : Option Addr) (c : Nat) (l : List Int) (w : World) (hr : (Kd.int .u8).C w A l.length l) (hc : l.length ≤ c) (hl : ∀ c ∈ l, 0 ≤ c ∧ c < 256) (hsz : l.length ≤ 1000000) :
    Calls Tryd.prog 27 #[.slice A l.length c] w fun e w' => ∃ v, e = .returned v ∧ Below w.heap.size w w' ∧ ∀ x, Calls Tryd.prog 56 #[v, .int .i64 x] w' fun e w2 => ∃ i, e = .returned (.tuple #[.int .i64 i, .bool ((destsF l).contains x)]) ∧ Below w'.heap.size w' w2 := by
  refine (dests_any A c l w hr hc hl hsz).mono ?_
  rintro e w' ⟨v, rfl, hO, hb⟩
  refine ⟨v, rfl, hb, fun x => search_any hO ?_ ?_ x⟩
  · exact (destsS_sorted 0 0 l).imp fun h => Int.le_of_lt h
  · have := destsS_len 0 0 l; unfold destsF; omega
set_option maxRecDepth 100000 in
theorem dest_no (f : Nat → Int) (A : Option Addr) (c : Nat) (l : List Int) (w : World) (hf : U64 f) (hr : (Kd.int .u8).C w A l.length l) (hc : l.length ≤ c) (hsz : l.length ≤ 1000000)
    (hno : ¬ (f 1 = 0 ∧ f 2 = 0 ∧ f 3 = 0) ∨ (l.length : Int) ≤ f 0 ∨ ∃ k : Nat, f 0 = k ∧ l[k]? ≠ some 91) :
    Calls Tryd.prog 29 #[.slice A l.length c, wordF f] w fun e w' => e = .returned (.bool false) ∧ Below w.heap.size w w' := by
  have hsm := fun W => small_any f W hf
  have hf0 := hf 0
  have hl1 : (l.length : Int) ≤ 1000000 := by omega
  have HF0 := Lib.hid hf0
  clear hf0
  by_cases h : f 1 = 0 ∧ f 2 = 0 ∧ f 3 = 0
  · simp only [if_pos h] at hsm
    have HSM := Lib.hid hsm
    clear hsm
    by_cases hle : (l.length : Int) ≤ f 0
    · clear hno h hr
      unfold wordF at HSM ⊢
      go_enter Tryd.func29, Tryd.ntmps29
      go_wp2_with (first | ((with_reducible refine gate_op (.load 25 (.tmp 3)) rfl ?_); refine wpl_load_blk rfl 25 (.tmp 3) rfl _ rfl _ _ _ (Blk.new _ _ _) Tryd.underlying25 rfl 4 size25 (arrF_size _ _ _) ?_) | (go_at_call 55; refine (HSM.out _).mono ?_; rintro e w1 ⟨rfl, hb1⟩))
      go_ret
      exact ⟨rfl, bel_then (below_alloc (Below.refl _ _) _) hb1⟩
    · have hf0 := HF0.out
      obtain ⟨k, hk, h91⟩ : ∃ k : Nat, f 0 = k ∧ l[k]? ≠ some 91 := by
        rcases hno with h' | h' | h'
        · exact absurd h h'
        · exact absurd h' hle
        · exact h'
      have hlt : k < l.length := by omega
      obtain ⟨ad, hA, HCL⟩ := byte_at hr hlt
      subst hA
      have HC := Lib.hid HCL
      have hne : l[k] ≠ 91 := fun e => h91 (by rw [List.getElem?_eq_getElem hlt, e])
      obtain ⟨e, he⟩ : ∃ e, l[k] = e := ⟨_, rfl⟩
      rw [he] at HC hne
      have hneb : (e != 91) = true := by simpa using hne
      have p1 : (k : Int) < (l.length : Int) := by omega
      rw [hk] at HSM
      clear hno h hr HCL he hne h91 hlt hle hf0 hk hsz hf
      unfold wordF at HSM ⊢
      go_enter Tryd.func29, Tryd.ntmps29
      go_wp2_with (first | ((with_reducible refine gate_op (.load 25 (.tmp 3)) rfl ?_); refine wpl_load_blk rfl 25 (.tmp 3) rfl _ rfl _ _ _ (Blk.new _ _ _) Tryd.underlying25 rfl 4 size25 (arrF_size _ _ _) ?_) | (go_at_call 55; refine (HSM.out _).mono ?_; rintro e w1 ⟨rfl, hb1⟩; have cc := HC.out w1 (bel_then (below_alloc (Below.refl _ _) _) hb1)))
      go_ret
      exact ⟨rfl, bel_then (below_alloc (Below.refl _ _) _) hb1⟩
  · simp only [if_neg h] at hsm
    have HSM := Lib.hid hsm
    clear hsm hno h hr
    unfold wordF at HSM ⊢
    go_enter Tryd.func29, Tryd.ntmps29
    go_wp2_with (first | ((with_reducible refine gate_op (.load 25 (.tmp 3)) rfl ?_); refine wpl_load_blk rfl 25 (.tmp 3) rfl _ rfl _ _ _ (Blk.new _ _ _) Tryd.underlying25 rfl 4 size25 (arrF_size _ _ _) ?_) | (go_at_call 55; refine (HSM.out _).mono ?_; rintro e w1 ⟨rfl, hb1⟩))
    go_ret
    exact ⟨rfl, bel_then (below_alloc (Below.refl _ _) _) hb1⟩
set_option maxRecDepth 100000 in
theorem dest_yes (f : Nat → Int) (A : Option Addr) (c : Nat) (l : List Int) (w : World) (hf : U64 f) (hr : (Kd.int .u8).C w A l.length l) (hc : l.length ≤ c) (hl : ∀ c ∈ l, 0 ≤ c ∧ c < 256) (hsz : l.length ≤ 1000000)
    (h : f 1 = 0 ∧ f 2 = 0 ∧ f 3 = 0) (k : Nat) (hk : f 0 = k) (hlt : k < l.length) (h91 : l[k] = 91) :
    Calls Tryd.prog 29 #[.slice A l.length c, wordF f] w fun e w' => e = .returned (.bool ((destsF l).contains (f 0))) ∧ Below w.heap.size w w' := by
  have hsm := fun W => small_any f W hf
  simp only [if_pos h] at hsm
  have HSM := Lib.hid hsm
  have HDS : Hid (∀ W, Below w.heap.size w W → _) := fun W hb => dests_search A c l W (Kd.C_below hr hb) hc hl hsz
  obtain ⟨ad, hA, HCL⟩ := byte_at hr hlt
  subst hA
  rw [h91] at HCL
  have HC := Lib.hid HCL
  have p1 : (k : Int) < (l.length : Int) := by omega
  rw [hk] at HSM ⊢
  have hl1 : (l.length : Int) ≤ 1000000 := by omega
  clear hr HCL h91 hlt hsm h hl hsz hf hk
  unfold wordF at HSM ⊢
  go_enter Tryd.func29, Tryd.ntmps29
  go_wp2_with (first | ((with_reducible refine gate_op (.load 25 (.tmp 3)) rfl ?_); refine wpl_load_blk rfl 25 (.tmp 3) rfl _ rfl _ _ _ (Blk.new _ _ _) Tryd.underlying25 rfl 4 size25 (arrF_size _ _ _) ?_) | (go_at_call 55; refine (HSM.out _).mono ?_; rintro e w1 ⟨rfl, hb1⟩; have e1 := bel_then (below_alloc (Below.refl w.heap.size w) _) hb1; have cc := HC.out w1 e1) | (go_at_call 27; refine (HDS.out _ e1).mono ?_; rintro e w2 ⟨v, rfl, hb2, hsr⟩; have HSR := Lib.hid hsr; clear hsr) | (go_at_call 56; refine (HSR.out _).mono ?_; rintro e w3 ⟨i, rfl, hb3⟩))
  go_ret
  exact ⟨by rw [List.contains_eq_mem]; rfl, bel_then (bel_then e1 hb2) hb3⟩
set_option maxRecDepth 100000 in
theorem dest_any (f : Nat → Int) (A : Option Addr) (c : Nat) (l : List Int) (w : World) (hf : U64 f) (hr : (Kd.int .u8).C w A l.length l) (hc : l.length ≤ c) (hl : ∀ c ∈ l, 0 ≤ c ∧ c < 256) (hsz : l.length ≤ 1000000) :
    Calls Tryd.prog 29 #[.slice A l.length c, wordF f] w fun e w' => e = .returned (.bool (hereB f (destsF l))) ∧ Below w.heap.size w w' := by
  have no : hereB f (destsF l) = false → (¬ (f 1 = 0 ∧ f 2 = 0 ∧ f 3 = 0) ∨ (l.length : Int) ≤ f 0 ∨ ∃ k : Nat, f 0 = k ∧ l[k]? ≠ some 91) → Calls Tryd.prog 29 #[.slice A l.length c, wordF f] w fun e w' => e = .returned (.bool (hereB f (destsF l))) ∧ Below w.heap.size w w' := fun e h => by
    rw [e]; exact dest_no f A c l w hf hr hc hsz h
  have hfalse : ¬ (f 1 = 0 ∧ f 2 = 0 ∧ f 3 = 0 ∧ f 0 ∈ destsF l) → hereB f (destsF l) = false := fun h => by
    cases hb : hereB f (destsF l) with
    | false => rfl
    | true => exact absurd (hereB_iff.1 hb) h
  by_cases h : f 1 = 0 ∧ f 2 = 0 ∧ f 3 = 0
  · have hf0 := hf 0
    obtain ⟨k, hk⟩ : ∃ k : Nat, f 0 = k := ⟨(f 0).toNat, by omega⟩
    by_cases hlt : k < l.length
    · by_cases h91 : l[k] = 91
      · have := dest_yes f A c l w hf hr hc hl hsz h k hk hlt h91
        have e : (destsF l).contains (f 0) = hereB f (destsF l) := by
          rw [Bool.eq_iff_iff, hereB_iff, List.contains_iff_mem]
          exact ⟨fun hm => ⟨h.1, h.2.1, h.2.2, hm⟩, fun hm => hm.2.2.2⟩
        rw [e] at this
        exact this
      · refine no (hfalse fun hh => ?_) (.inr (.inr ⟨k, hk, fun e => h91 ?_⟩))
        · have := destsS_byte 0 0 l k (by rw [← hk]; exact hh.2.2.2)
          rw [Nat.sub_zero, List.getElem?_eq_getElem hlt] at this
          exact h91 (by injection this.2)
        · rw [List.getElem?_eq_getElem hlt] at e
          injection e
    · refine no (hfalse fun hh => ?_) (.inr (.inl (by omega)))
      have := destsS_range 0 0 l (f 0) hh.2.2.2
      omega
  · exact no (hfalse fun hh => h ⟨hh.1, hh.2.1, hh.2.2.1⟩) (.inl h)
end Go.Proofs.YtibhijjmmagdcaaDoor
