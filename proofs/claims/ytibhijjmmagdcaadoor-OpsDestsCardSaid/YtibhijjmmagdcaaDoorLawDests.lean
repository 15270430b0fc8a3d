/- smithylaw11.OpsDests: the walk. -/
import Derived.Test.YtibhijjmmagdcaaDoorDest
import Derived.Test.YtibhijjmmagdcaaDoorLawWhole
namespace Go.Proofs.YtibhijjmmagdcaaDoor
set_option linter.unusedVariables false
set_option linter.unusedSimpArgs false
open Go.RowKit Go.Proofs.YtibhijjmmagdcaaDoorW.PrintWords Go.Proofs.YtibhijjmmagdcaaDoorW.PrintLast
theorem eql25x (f : Nat → Int) (x : Int) (w : World) : (Op.equalIn 10000 25 (.agg (arrF .u64 4 f)) (.agg #[.int .u64 x, .int .u64 0, .int .u64 0, .int .u64 0])).run Tryd.prog w = .ok (eqN 4 f fun i => if i = 0 then x else 0) w := eql25 f (fun i => if i = 0 then x else 0) w
theorem hereB_step (f : Nat → Int) (l : List Int) (k : Nat) (hk : k < l.length) : hereB f (l.take (k + 1)) = (hereB f (l.take k) || eqN 4 f fun i => if i = 0 then l[k] else 0) := by
  rw [List.take_succ_eq_append_getElem hk, hereB, hereB, List.any_append]
  simp
theorem opsDests_long (A : Option Addr) (c : Nat) (l : List Int) (f : Nat → Int) (w : World) (hn : 3000 < l.length) :
    Calls Tryd.prog 10 #[.slice A l.length c, wordF f] w fun e w' => e = .returned (.bool true) ∧ Below w.heap.size w w' := by
  have hn' : (3000 : Int) < l.length := by omega
  clear hn
  unfold wordF
  go_enter Tryd.func10, Tryd.ntmps10
  go_wp2_with (go_at_call 26; refine (fixed11 _).mono ?_; rintro e w1 ⟨rfl, hb1⟩)
  go_ret
  exact ⟨rfl, bel_then (below_alloc (Below.refl _ _) _) hb1⟩
set_option maxRecDepth 100000 in
theorem opsDests_short (A : Option Addr) (c : Nat) (l : List Int) (f : Nat → Int) (w : World) (hr : (Kd.int .u8).C w A l.length l) (hc : l.length ≤ c) (hl : ∀ c ∈ l, 0 ≤ c ∧ c < 256) (hf : U64 f) (hn : l.length ≤ 3000) :
    Calls Tryd.prog 10 #[.slice A l.length c, wordF f] w fun e w' => e = .returned (.bool true) ∧ Below w.heap.size w w' := by
  have hn' : (l.length : Int) ≤ 3000 := by omega
  obtain ⟨ds, hds⟩ : ∃ ds, ds = destsF l := ⟨_, rfl⟩
  have HR1 : Hid (∀ W, Below w.heap.size w W → ReadsInt W .u8 A l.length l) := fun W hb => Kd.reads_of_C (enc := Value.int .u8) (d := (0 : Int)) (h1 := fun _ => rfl) (Kd.C_below hr hb)
  have HCV : Hid (∀ W, Below w.heap.size w W → (convert 22 9 (.slice A l.length c)).run Tryd.prog W = .ok (.string (strOfNums l)) W) := fun W hb => conv_bytes (Kd.C_below hr hb)
  have HE1 : Hid (∀ W A c, (Kd.int .u8).C W A l.length l → l.length ≤ c → Calls Tryd.prog 27 #[.slice A l.length c] W fun e w' => ∃ A c, e = .returned (.slice A ds.length c) ∧ (Kd.int .i64).C w' A ds.length ds ∧ Below W.heap.size W w') := fun W A c hr hc => by
    refine (dests_any A c l W hr hc hl (by omega)).mono ?_
    rintro e w' ⟨v, rfl, hO, hb⟩
    rw [← hds] at hO
    obtain ⟨A, c, rfl, h⟩ := ints_reads _ _ _ _ hO
    exact ⟨A, c, rfl, h, hb⟩
  have HE2 : Hid (∀ W, Below w.heap.size w W → Calls Tryd.prog 28 #[.slice A l.length c] W fun e w' => ∃ A c, e = .returned (.slice A ds.length c) ∧ (Kd.int .i64).C w' A ds.length ds ∧ Below W.heap.size W w') := fun W hb => by
    refine (refdests_any A c l W (Kd.C_below hr hb) hc hl (by omega)).mono ?_
    rintro e w' ⟨v, rfl, hO, hb⟩
    rw [← hds] at hO
    obtain ⟨A, c, rfl, h⟩ := ints_reads _ _ _ _ hO
    exact ⟨A, c, rfl, h, hb⟩
  have HD : Hid (∀ W A c, (Kd.int .u8).C W A l.length l → l.length ≤ c → Calls Tryd.prog 29 #[.slice A l.length c, wordF f] W fun e w' => e = .returned (.bool (hereB f ds)) ∧ Below W.heap.size W w') := fun W A c hr hc => by
    have := dest_any f A c l W hf hr hc hl (by omega)
    rw [← hds] at this
    exact this
  have HX : Hid (∀ k (hk : k < ds.length), 0 ≤ ds[k] ∧ ds[k] < 3000) := fun k hk => by
    have := destsS_range 0 0 l ds[k] (by rw [← destsF, ← hds]; exact List.getElem_mem hk)
    omega
  have HDL : Hid (ds.length ≤ 3000) := by
    have := destsS_len 0 0 l
    rw [← destsF, ← hds] at this
    unfold Hid
    omega
  have HN := Lib.hid hn
  clear hr hl hf hn hds
  unfold wordF at HD ⊢
  go_enter Tryd.func10, Tryd.ntmps10
  go_wp2_with (at_builtin; refine print_append_row (w0 := w.alloc (.cells (arrF .u64 4 f) 25)) (w.heap.size + 1) rfl (.tmp 14) (.tmp 15) 22 5 .u8 1 rfl Tryd.underlying22 info5 (by decide) _ ([] : List Int) l A l.length c rfl rfl (own_empty (Blk.new' _ _ _ (by simp)) (Nat.le_refl _)) (HR1.out _ (by repeat (first | exact Below.refl _ _ | assumption | refine below_alloc ?_ _ | refine bel_drewN ?_ _ | refine bel_drew ?_ | refine bel_set ?_ (by simp) _))) ((Below.refl _ _).alloc (by simp) _) (by simp) (by have := HN.out; simp; omega) ?_; intro v1 w1 ho1 hb1 _ _)
  obtain ⟨A1, c1, rfl, hc1, hr1⟩ : ∃ A1 c1, v1 = .slice A1 l.length c1 ∧ l.length ≤ c1 ∧ (Kd.int .u8).C w1 A1 l.length l := OwnB.reads (base := w.heap.size + 1) ho1
  have k1 : Blk w1 w.heap.size (arrF .u64 4 f) 25 := (hb1.block _ (by omega)).trans (Blk.new _ _ _)
  have e1 : Below w.heap.size w w1 := (below_alloc (Below.refl _ _) _).trans ⟨hb1.os, hb1.tape, hb1.output, hb1.size, fun k hk => hb1.block k (by omega)⟩
  clear ho1 hb1
  refine (HE1.out _ _ _ hr1 hc1).mono ?_
  rintro e w2 ⟨A2, c2, rfl, r2, hb2⟩
  have e2 := bel_then e1 hb2
  go_wp2_with (first | (go_at_call 28; refine (HE2.out _ e2).mono ?_; rintro e w3 ⟨A3, c3, rfl, r3, hb3⟩) | (go_at_call 26; refine (fixed11 _).mono ?_; rintro e w4 ⟨rfl, hb4⟩))
  have E4 := Lib.hid (bel_then (bel_then e2 hb3) hb4)
  have K4 := Lib.hid (((k1.below hb2).below hb3).below hb4)
  have O4 := Lib.hid (Kd.C_below (Kd.C_below (Kd.C_below hr1 hb2) hb3) hb4)
  have R2 := Lib.hid (Kd.C_below (Kd.C_below r2 hb3) hb4)
  have R3 := Lib.hid (Kd.C_below r3 hb4)
  clear hr1 k1 e1 r2 hb2 e2 r3 hb3 hb4
  go_loopw [8, 32] (fun t i wr => ∃ k : Nat, k ≤ ds.length ∧ i = .int .i64 k ∧ t = .bool (hereB f (ds.take k)) ∧ Below w4.heap.size w4 wr) (fun _ i _ => ds.length - (intOf i).toNat)
  case atStart => exact ⟨0, by omega, rfl, rfl, Below.refl _ _⟩
  case round =>
    obtain ⟨k, hk, rfl, rfl, hB⟩ := hrel
    by_cases hlt : k < ds.length
    · have p2 : (k : Int) < 1000000 := by have := HDL.out; omega
      have p0 : (0 : Int) ≤ (k : Int) := by omega
      have p1 : (k : Int) < (ds.length : Int) := by omega
      obtain ⟨ad1, hA1, C1⟩ := ints_at R2.out hlt
      subst hA1
      obtain ⟨ad2, hA2, C2⟩ := ints_at R3.out hlt
      subst hA2
      have hx := HX.out k hlt
      have HST : Hid (hereB f (ds.take (k + 1)) = (hereB f (ds.take k) || eqN 4 f fun i => if i = 0 then ds[k] else 0)) := hereB_step f ds k hlt
      obtain ⟨x, hxe⟩ : ∃ x, ds[k] = x := ⟨_, rfl⟩
      rw [hxe] at hx C1 C2 HST
      have D1 := Lib.hid C1
      have D2 := Lib.hid C2
      have heq := eql25x f x
      obtain ⟨z, hz⟩ : ∃ z, eqN 4 f (fun i => if i = 0 then x else 0) = z := ⟨_, rfl⟩
      rw [hz] at heq HST
      clear C1 C2 hxe hz
      cases ht : hereB f (ds.take k) with
      | true =>
        rw [ht] at HST
        go_wp2_with fail
        refine start_ (n := 9) (S := fun W => Below w4.heap.size w4 W) (ds := []) #[false, false, false, false, false, false, false, false, false] (by kernel_rfl) rfl rfl (bel_drew hB) (fun hHeld => ?_)
        refine gen_last hHeld ?_
        clear hHeld
        intro wd hHeld
        refine pure_ (i := 0) (N := some 35) (v := ?_) (a' := ?_) #[true, false, false, false, false, false, false, false, false] rfl rfl (by kernel_rfl) (fun _ _ _ h => h) (Or.inl ⟨by rfl, ?_⟩) ?_ ?_
        rotate_left
        · intro w2
          (go_simp; (try go_bits); with_reducible rfl)
        rotate_left
        · simp only [Act.put, List.setIfInBounds_toArray, List.set_cons_zero, List.set_cons_succ, i64_w, i32_w]
          rfl
        refine pure_ (i := 1) (N := some 36) (v := ?_) (a' := ?_) #[true, true, false, false, false, false, false, false, false] rfl rfl (by kernel_rfl) (fun _ _ _ h => h) (Or.inl ⟨by rfl, ?_⟩) ?_ ?_
        rotate_left
        · intro w2
          (go_simp; (try go_bits); with_reducible rfl)
        rotate_left
        · simp only [Act.put, List.setIfInBounds_toArray, List.set_cons_zero, List.set_cons_succ, i64_w, i32_w]
          rfl
        refine pure_ (i := 2) (N := some 37) (v := ?_) (a' := ?_) #[true, true, true, false, false, false, false, false, false] rfl rfl (by kernel_rfl) (fun _ _ _ h => h) (Or.inl ⟨by rfl, ?_⟩) ?_ ?_
        rotate_left
        · intro w2
          (go_simp; (try go_bits); with_reducible rfl)
        rotate_left
        · simp only [Act.put, List.setIfInBounds_toArray, List.set_cons_zero, List.set_cons_succ, i64_w, i32_w]
          rfl
        refine pure_ (i := 4) (N := some 39) (v := ?_) (a' := ?_) #[true, true, true, false, true, false, false, false, false] rfl rfl (by kernel_rfl) (fun _ _ _ h => h) (Or.inl ⟨by rfl, ?_⟩) ?_ ?_
        rotate_left
        · intro w2
          (go_simp; (try go_bits); with_reducible rfl)
        rotate_left
        · simp only [Act.put, List.setIfInBounds_toArray, List.set_cons_zero, List.set_cons_succ, i64_w, i32_w]
          rfl
        refine pure_ (i := 5) (N := some 40) (v := ?_) (a' := ?_) #[true, true, true, false, true, true, false, false, false] rfl rfl (by kernel_rfl) (fun _ _ _ h => h) (Or.inl ⟨by rfl, ?_⟩) ?_ ?_
        rotate_left
        · intro w2
          (go_simp; (try go_bits); with_reducible rfl)
        rotate_left
        · simp only [Act.put, List.setIfInBounds_toArray, List.set_cons_zero, List.set_cons_succ, i64_w, i32_w]
          rfl
        refine pure_ (i := 6) (N := some 41) (v := ?_) (a' := ?_) #[true, true, true, false, true, true, true, false, false] rfl rfl (by kernel_rfl) (fun _ _ _ h => h) (Or.inl ⟨by rfl, ?_⟩) ?_ ?_
        rotate_left
        · intro w2
          (go_simp; (try go_bits); with_reducible rfl)
        rotate_left
        · simp only [Act.put, List.setIfInBounds_toArray, List.set_cons_zero, List.set_cons_succ, i64_w, i32_w]
          rfl
        refine take_ (i := 3) (N := some 38) (v := ?_) (a' := ?_) #[true, true, true, true, true, true, true, false, false] rfl rfl (by kernel_rfl) (fun _ _ _ h => h) (Or.inl ⟨by rfl, ?_⟩) hHeld ?_ ?_
        rotate_left
        · intro w2 hS2
          have c1 := D1.out w2 hS2
          have c2 := D2.out w2 hS2
          (go_simp; (try go_bits); with_reducible rfl)
        rotate_left
        · simp only [Act.put, List.setIfInBounds_toArray, List.set_cons_zero, List.set_cons_succ, i64_w, i32_w]
          rfl
        refine take_ (i := 7) (N := some 42) (v := ?_) (a' := ?_) #[true, true, true, true, true, true, true, true, false] rfl rfl (by kernel_rfl) (fun _ _ _ h => h) (Or.inl ⟨by rfl, ?_⟩) hHeld ?_ ?_
        rotate_left
        · intro w2 hS2
          have c1 := D1.out w2 hS2
          have c2 := D2.out w2 hS2
          (go_simp; (try go_bits); with_reducible rfl)
        rotate_left
        · simp only [Act.put, List.setIfInBounds_toArray, List.set_cons_zero, List.set_cons_succ, i64_w, i32_w]
          rfl
        refine pure_ (i := 8) (N := some 43) (v := ?_) (a' := ?_) #[true, true, true, true, true, true, true, true, true] rfl rfl (by kernel_rfl) (fun _ _ _ h => h) (Or.inl ⟨by rfl, ?_⟩) ?_ ?_
        rotate_left
        · intro w2
          (go_simp; (try go_bits); with_reducible rfl)
        rotate_left
        · simp only [Act.put, List.setIfInBounds_toArray, List.set_cons_zero, List.set_cons_succ, i64_w, i32_w]
          rfl
        refine done_ (by kernel_rfl) ?_
        go_wp2_with fail
        refine start_ (n := 12) (S := fun W => Below w4.heap.size w4 W) (ds := []) #[false, false, false, false, false, false, false, false, false, false, false, false] (by kernel_rfl) rfl rfl (bel_drew hHeld) (fun hHeld => ?_)
        refine gen_last hHeld ?_
        clear hHeld
        intro wd hHeld
        refine pure_ (i := 0) (N := some 44) (v := ?_) (a' := ?_) #[true, false, false, false, false, false, false, false, false, false, false, false] rfl rfl (by kernel_rfl) (fun _ _ _ h => h) (Or.inl ⟨by rfl, ?_⟩) ?_ ?_
        rotate_left
        · intro w2
          (go_simp; (try go_bits); with_reducible rfl)
        rotate_left
        · simp only [Act.put, List.setIfInBounds_toArray, List.set_cons_zero, List.set_cons_succ, i64_w, i32_w]
          rfl
        refine pure_ (i := 1) (N := some 45) (v := ?_) (a' := ?_) #[true, true, false, false, false, false, false, false, false, false, false, false] rfl rfl (by kernel_rfl) (fun _ _ _ h => h) (Or.inl ⟨by rfl, ?_⟩) ?_ ?_
        rotate_left
        · intro w2
          (go_simp; (try go_bits); with_reducible rfl)
        rotate_left
        · simp only [Act.put, List.setIfInBounds_toArray, List.set_cons_zero, List.set_cons_succ, i64_w, i32_w]
          rfl
        refine pure_ (i := 2) (N := some 46) (v := undef) (a' := ?_) #[true, true, true, false, false, false, false, false, false, false, false, false] rfl rfl (by kernel_rfl) (fun _ _ _ h => h) (Or.inr ⟨by rfl, rfl⟩) ?_ ?_
        rotate_left
        · simp only [Act.put, List.setIfInBounds_toArray, List.set_cons_zero, List.set_cons_succ, i64_w, i32_w]
          rfl
        refine pure_ (i := 3) (N := some 47) (v := undef) (a' := ?_) #[true, true, true, true, false, false, false, false, false, false, false, false] rfl rfl (by kernel_rfl) (fun _ _ _ h => h) (Or.inr ⟨by rfl, rfl⟩) ?_ ?_
        rotate_left
        · simp only [Act.put, List.setIfInBounds_toArray, List.set_cons_zero, List.set_cons_succ, i64_w, i32_w]
          rfl
        refine pure_ (i := 4) (N := some 48) (v := undef) (a' := ?_) #[true, true, true, true, true, false, false, false, false, false, false, false] rfl rfl (by kernel_rfl) (fun _ _ _ h => h) (Or.inr ⟨by rfl, rfl⟩) ?_ ?_
        rotate_left
        · simp only [Act.put, List.setIfInBounds_toArray, List.set_cons_zero, List.set_cons_succ, i64_w, i32_w]
          rfl
        refine pure_ (i := 5) (N := some 49) (v := undef) (a' := ?_) #[true, true, true, true, true, true, false, false, false, false, false, false] rfl rfl (by kernel_rfl) (fun _ _ _ h => h) (Or.inr ⟨by rfl, rfl⟩) ?_ ?_
        rotate_left
        · simp only [Act.put, List.setIfInBounds_toArray, List.set_cons_zero, List.set_cons_succ, i64_w, i32_w]
          rfl
        refine pure_ (i := 6) (N := some 50) (v := undef) (a' := ?_) #[true, true, true, true, true, true, true, false, false, false, false, false] rfl rfl (by kernel_rfl) (fun _ _ _ h => h) (Or.inr ⟨by rfl, rfl⟩) ?_ ?_
        rotate_left
        · simp only [Act.put, List.setIfInBounds_toArray, List.set_cons_zero, List.set_cons_succ, i64_w, i32_w]
          rfl
        refine pure_ (i := 7) (N := some 51) (v := undef) (a' := ?_) #[true, true, true, true, true, true, true, true, false, false, false, false] rfl rfl (by kernel_rfl) (fun _ _ _ h => h) (Or.inr ⟨by rfl, rfl⟩) ?_ ?_
        rotate_left
        · simp only [Act.put, List.setIfInBounds_toArray, List.set_cons_zero, List.set_cons_succ, i64_w, i32_w]
          rfl
        refine pure_ (i := 8) (N := some 52) (v := undef) (a' := ?_) #[true, true, true, true, true, true, true, true, true, false, false, false] rfl rfl (by kernel_rfl) (fun _ _ _ h => h) (Or.inr ⟨by rfl, rfl⟩) ?_ ?_
        rotate_left
        · simp only [Act.put, List.setIfInBounds_toArray, List.set_cons_zero, List.set_cons_succ, i64_w, i32_w]
          rfl
        refine pure_ (i := 9) (N := some 53) (v := undef) (a' := ?_) #[true, true, true, true, true, true, true, true, true, true, false, false] rfl rfl (by kernel_rfl) (fun _ _ _ h => h) (Or.inr ⟨by rfl, rfl⟩) ?_ ?_
        rotate_left
        · simp only [Act.put, List.setIfInBounds_toArray, List.set_cons_zero, List.set_cons_succ, i64_w, i32_w]
          rfl
        refine pure_ (i := 10) (N := some 54) (v := ?_) (a' := ?_) #[true, true, true, true, true, true, true, true, true, true, true, false] rfl rfl (by kernel_rfl) (fun _ _ _ h => h) (Or.inl ⟨by rfl, ?_⟩) ?_ ?_
        rotate_left
        · intro w2
          (go_simp; (try go_bits); with_reducible rfl)
        rotate_left
        · simp only [Act.put, List.setIfInBounds_toArray, List.set_cons_zero, List.set_cons_succ, i64_w, i32_w]
          rfl
        refine pure_ (i := 11) (N := some 8) (v := ?_) (a' := ?_) #[true, true, true, true, true, true, true, true, true, true, true, true] rfl rfl (by kernel_rfl) (fun _ _ _ h => h) (Or.inl ⟨by rfl, ?_⟩) ?_ ?_
        rotate_left
        · intro w2
          (go_simp; (try go_bits); with_reducible rfl)
        rotate_left
        · simp only [Act.put, List.setIfInBounds_toArray, List.set_cons_zero, List.set_cons_succ, i64_w, i32_w]
          rfl
        refine done_ (by kernel_rfl) ?_
        go_wp2_with fail
        go_roundw
        case rel => exact ⟨k + 1, by omega, by go_num, by rw [HST.out]; try rfl, hHeld⟩
        case measure => simp [intOf]; omega
      | false =>
        rw [ht] at HST
        go_wp2_with fail
        refine start_ (n := 9) (S := fun W => Below w4.heap.size w4 W) (ds := []) #[false, false, false, false, false, false, false, false, false] (by kernel_rfl) rfl rfl (bel_drew hB) (fun hHeld => ?_)
        refine gen_last hHeld ?_
        clear hHeld
        intro wd hHeld
        refine pure_ (i := 0) (N := some 35) (v := ?_) (a' := ?_) #[true, false, false, false, false, false, false, false, false] rfl rfl (by kernel_rfl) (fun _ _ _ h => h) (Or.inl ⟨by rfl, ?_⟩) ?_ ?_
        rotate_left
        · intro w2
          (go_simp; (try go_bits); with_reducible rfl)
        rotate_left
        · simp only [Act.put, List.setIfInBounds_toArray, List.set_cons_zero, List.set_cons_succ, i64_w, i32_w]
          rfl
        refine pure_ (i := 1) (N := some 36) (v := ?_) (a' := ?_) #[true, true, false, false, false, false, false, false, false] rfl rfl (by kernel_rfl) (fun _ _ _ h => h) (Or.inl ⟨by rfl, ?_⟩) ?_ ?_
        rotate_left
        · intro w2
          (go_simp; (try go_bits); with_reducible rfl)
        rotate_left
        · simp only [Act.put, List.setIfInBounds_toArray, List.set_cons_zero, List.set_cons_succ, i64_w, i32_w]
          rfl
        refine pure_ (i := 2) (N := some 37) (v := ?_) (a' := ?_) #[true, true, true, false, false, false, false, false, false] rfl rfl (by kernel_rfl) (fun _ _ _ h => h) (Or.inl ⟨by rfl, ?_⟩) ?_ ?_
        rotate_left
        · intro w2
          (go_simp; (try go_bits); with_reducible rfl)
        rotate_left
        · simp only [Act.put, List.setIfInBounds_toArray, List.set_cons_zero, List.set_cons_succ, i64_w, i32_w]
          rfl
        refine pure_ (i := 4) (N := some 39) (v := ?_) (a' := ?_) #[true, true, true, false, true, false, false, false, false] rfl rfl (by kernel_rfl) (fun _ _ _ h => h) (Or.inl ⟨by rfl, ?_⟩) ?_ ?_
        rotate_left
        · intro w2
          (go_simp; (try go_bits); with_reducible rfl)
        rotate_left
        · simp only [Act.put, List.setIfInBounds_toArray, List.set_cons_zero, List.set_cons_succ, i64_w, i32_w]
          rfl
        refine pure_ (i := 5) (N := some 40) (v := ?_) (a' := ?_) #[true, true, true, false, true, true, false, false, false] rfl rfl (by kernel_rfl) (fun _ _ _ h => h) (Or.inl ⟨by rfl, ?_⟩) ?_ ?_
        rotate_left
        · intro w2
          (go_simp; (try go_bits); with_reducible rfl)
        rotate_left
        · simp only [Act.put, List.setIfInBounds_toArray, List.set_cons_zero, List.set_cons_succ, i64_w, i32_w]
          rfl
        refine pure_ (i := 6) (N := some 41) (v := ?_) (a' := ?_) #[true, true, true, false, true, true, true, false, false] rfl rfl (by kernel_rfl) (fun _ _ _ h => h) (Or.inl ⟨by rfl, ?_⟩) ?_ ?_
        rotate_left
        · intro w2
          (go_simp; (try go_bits); with_reducible rfl)
        rotate_left
        · simp only [Act.put, List.setIfInBounds_toArray, List.set_cons_zero, List.set_cons_succ, i64_w, i32_w]
          rfl
        refine take_ (i := 3) (N := some 38) (v := ?_) (a' := ?_) #[true, true, true, true, true, true, true, false, false] rfl rfl (by kernel_rfl) (fun _ _ _ h => h) (Or.inl ⟨by rfl, ?_⟩) hHeld ?_ ?_
        rotate_left
        · intro w2 hS2
          have c1 := D1.out w2 hS2
          have c2 := D2.out w2 hS2
          (go_simp; (try go_bits); with_reducible rfl)
        rotate_left
        · simp only [Act.put, List.setIfInBounds_toArray, List.set_cons_zero, List.set_cons_succ, i64_w, i32_w]
          rfl
        refine take_ (i := 7) (N := some 42) (v := ?_) (a' := ?_) #[true, true, true, true, true, true, true, true, false] rfl rfl (by kernel_rfl) (fun _ _ _ h => h) (Or.inl ⟨by rfl, ?_⟩) hHeld ?_ ?_
        rotate_left
        · intro w2 hS2
          have c1 := D1.out w2 hS2
          have c2 := D2.out w2 hS2
          (go_simp; (try go_bits); with_reducible rfl)
        rotate_left
        · simp only [Act.put, List.setIfInBounds_toArray, List.set_cons_zero, List.set_cons_succ, i64_w, i32_w]
          rfl
        refine pure_ (i := 8) (N := some 43) (v := ?_) (a' := ?_) #[true, true, true, true, true, true, true, true, true] rfl rfl (by kernel_rfl) (fun _ _ _ h => h) (Or.inl ⟨by rfl, ?_⟩) ?_ ?_
        rotate_left
        · intro w2
          (go_simp; (try go_bits); with_reducible rfl)
        rotate_left
        · simp only [Act.put, List.setIfInBounds_toArray, List.set_cons_zero, List.set_cons_succ, i64_w, i32_w]
          rfl
        refine done_ (by kernel_rfl) ?_
        go_wp2_with fail
        refine start_ (n := 12) (S := fun W => Below w4.heap.size w4 W) (ds := []) #[false, false, false, false, false, false, false, false, false, false, false, false] (by kernel_rfl) rfl rfl (bel_drew hHeld) (fun hHeld => ?_)
        refine gen_last hHeld ?_
        clear hHeld
        intro wd hHeld
        refine pure_ (i := 0) (N := some 44) (v := ?_) (a' := ?_) #[true, false, false, false, false, false, false, false, false, false, false, false] rfl rfl (by kernel_rfl) (fun _ _ _ h => h) (Or.inl ⟨by rfl, ?_⟩) ?_ ?_
        rotate_left
        · intro w2
          (go_simp; (try go_bits); with_reducible rfl)
        rotate_left
        · simp only [Act.put, List.setIfInBounds_toArray, List.set_cons_zero, List.set_cons_succ, i64_w, i32_w]
          rfl
        refine pure_ (i := 1) (N := some 45) (v := ?_) (a' := ?_) #[true, true, false, false, false, false, false, false, false, false, false, false] rfl rfl (by kernel_rfl) (fun _ _ _ h => h) (Or.inl ⟨by rfl, ?_⟩) ?_ ?_
        rotate_left
        · intro w2
          (go_simp; (try go_bits); with_reducible rfl)
        rotate_left
        · simp only [Act.put, List.setIfInBounds_toArray, List.set_cons_zero, List.set_cons_succ, i64_w, i32_w]
          rfl
        refine pure_ (i := 3) (N := some 47) (v := ?_) (a' := ?_) #[true, true, false, true, false, false, false, false, false, false, false, false] rfl rfl (by kernel_rfl) (fun _ _ _ h => h) (Or.inl ⟨by rfl, ?_⟩) ?_ ?_
        rotate_left
        · intro w2
          (go_simp; (try go_bits); with_reducible rfl)
        rotate_left
        · simp only [Act.put, List.setIfInBounds_toArray, List.set_cons_zero, List.set_cons_succ, i64_w, i32_w]
          rfl
        refine pure_ (i := 4) (N := some 48) (v := ?_) (a' := ?_) #[true, true, false, true, true, false, false, false, false, false, false, false] rfl rfl (by kernel_rfl) (fun _ _ _ h => h) (Or.inl ⟨by rfl, ?_⟩) ?_ ?_
        rotate_left
        · intro w2
          (go_simp; (try go_bits); with_reducible rfl)
        rotate_left
        · simp only [Act.put, List.setIfInBounds_toArray, List.set_cons_zero, List.set_cons_succ, i64_w, i32_w]
          rfl
        refine pure_ (i := 5) (N := some 49) (v := ?_) (a' := ?_) #[true, true, false, true, true, true, false, false, false, false, false, false] rfl rfl (by kernel_rfl) (fun _ _ _ h => h) (Or.inl ⟨by rfl, ?_⟩) ?_ ?_
        rotate_left
        · intro w2
          (go_simp; (try go_bits); with_reducible rfl)
        rotate_left
        · simp only [Act.put, List.setIfInBounds_toArray, List.set_cons_zero, List.set_cons_succ, i64_w, i32_w]
          rfl
        refine take_ (i := 2) (N := some 46) (v := ?_) (a' := ?_) #[true, true, true, true, true, true, false, false, false, false, false, false] rfl rfl (by kernel_rfl) (fun _ _ _ h => h) (Or.inl ⟨by rfl, ?_⟩) hHeld ?_ ?_
        rotate_left
        · intro w2 hS2
          have c1 := D1.out w2 hS2
          have c2 := D2.out w2 hS2
          (refine run_load_blk (x := .tmp 3) ?_ ?_ (K4.out.below hS2) Tryd.underlying25 rfl 4 size25 (arrF_size _ _ _) <;> rfl)
        rotate_left
        · simp only [Act.put, List.setIfInBounds_toArray, List.set_cons_zero, List.set_cons_succ, i64_w, i32_w]
          rfl
        refine take_ (i := 6) (N := some 50) (v := ?_) (a' := ?_) #[true, true, true, true, true, true, true, false, false, false, false, false] rfl rfl (by kernel_rfl) (fun _ _ _ h => h) (Or.inl ⟨by rfl, ?_⟩) hHeld ?_ ?_
        rotate_left
        · intro w2 hS2
          have c1 := D1.out w2 hS2
          have c2 := D2.out w2 hS2
          (go_simp; (try go_bits); with_reducible rfl)
        rotate_left
        · simp only [Act.put, List.setIfInBounds_toArray, List.set_cons_zero, List.set_cons_succ, i64_w, i32_w]
          rfl
        refine pure_ (i := 7) (N := some 51) (v := ?_) (a' := ?_) #[true, true, true, true, true, true, true, true, false, false, false, false] rfl rfl (by kernel_rfl) (fun _ _ _ h => h) (Or.inl ⟨by rfl, ?_⟩) ?_ ?_
        rotate_left
        · intro w2
          (go_simp; (try go_bits); with_reducible rfl)
        rotate_left
        · simp only [Act.put, List.setIfInBounds_toArray, List.set_cons_zero, List.set_cons_succ, i64_w, i32_w]
          rfl
        refine pure_ (i := 8) (N := some 52) (v := ?_) (a' := ?_) #[true, true, true, true, true, true, true, true, true, false, false, false] rfl rfl (by kernel_rfl) (fun _ _ _ h => h) (Or.inl ⟨by rfl, ?_⟩) ?_ ?_
        rotate_left
        · intro w2
          (go_simp; (try go_bits); with_reducible rfl)
        rotate_left
        · simp only [Act.put, List.setIfInBounds_toArray, List.set_cons_zero, List.set_cons_succ, i64_w, i32_w]
          rfl
        refine pure_ (i := 9) (N := some 53) (v := ?_) (a' := ?_) #[true, true, true, true, true, true, true, true, true, true, false, false] rfl rfl (by kernel_rfl) (fun _ _ _ h => h) (Or.inl ⟨by rfl, ?_⟩) ?_ ?_
        rotate_left
        · intro w2
          (go_simp; (try go_bits); with_reducible rfl)
        rotate_left
        · simp only [Act.put, List.setIfInBounds_toArray, List.set_cons_zero, List.set_cons_succ, i64_w, i32_w]
          rfl
        refine pure_ (i := 10) (N := some 54) (v := ?_) (a' := ?_) #[true, true, true, true, true, true, true, true, true, true, true, false] rfl rfl (by kernel_rfl) (fun _ _ _ h => h) (Or.inl ⟨by rfl, ?_⟩) ?_ ?_
        rotate_left
        · intro w2
          (go_simp; (try go_bits); with_reducible rfl)
        rotate_left
        · simp only [Act.put, List.setIfInBounds_toArray, List.set_cons_zero, List.set_cons_succ, i64_w, i32_w]
          rfl
        refine pure_ (i := 11) (N := some 8) (v := ?_) (a' := ?_) #[true, true, true, true, true, true, true, true, true, true, true, true] rfl rfl (by kernel_rfl) (fun _ _ _ h => h) (Or.inl ⟨by rfl, ?_⟩) ?_ ?_
        rotate_left
        · intro w2
          (go_simp; (try go_bits); with_reducible rfl)
        rotate_left
        · simp only [Act.put, List.setIfInBounds_toArray, List.set_cons_zero, List.set_cons_succ, i64_w, i32_w]
          rfl
        refine done_ (by kernel_rfl) ?_
        go_wp2_with fail
        go_roundw
        case rel => exact ⟨k + 1, by omega, by go_num, by rw [HST.out]; try rfl, hHeld⟩
        case measure => simp [intOf]; omega
    · obtain rfl : k = ds.length := by omega
      rw [List.take_length]
      have b4 := bel_then E4.out hB
      have hd := HD.out wr _ _ (Kd.C_below O4.out hB) hc1
      go_wp2_with (first | ((with_reducible refine gate_op (.load 25 (.tmp 3)) rfl ?_); refine wpl_load_blk rfl 25 (.tmp 3) rfl _ rfl _ _ _ (K4.out.below hB) Tryd.underlying25 rfl 4 size25 (arrF_size _ _ _) ?_) | (go_at_call 29; refine hd.mono ?_; rintro e w5 ⟨rfl, hb5⟩; have cv := HCV.out _ (bel_then b4 hb5); have co := conv_bytes (c := c1) (Kd.C_below (Kd.C_below O4.out hB) hb5)))
      go_ret
      exact ⟨by simp, bel_then b4 hb5⟩
theorem opsDests_any (A : Option Addr) (c : Nat) (l : List Int) (f : Nat → Int) (w : World) (hr : (Kd.int .u8).C w A l.length l) (hc : l.length ≤ c) (hl : ∀ c ∈ l, 0 ≤ c ∧ c < 256) (hf : U64 f) :
    Calls Tryd.prog 10 #[.slice A l.length c, wordF f] w fun e w' => e = .returned (.bool true) ∧ Below w.heap.size w w' := by
  by_cases h : 3000 < l.length
  · exact opsDests_long A c l f w h
  · exact opsDests_short A c l f w hr hc hl hf (by omega)
end Go.Proofs.YtibhijjmmagdcaaDoor
