/- smithylaw11.OpsWhole: the walk. -/
import Derived.Test.YtibhijjmmagdcaaDoorFixed11
import Derived.Test.YtibhijjmmagdcaaDoorRefDests
namespace Go.Proofs.YtibhijjmmagdcaaDoor
set_option linter.unusedVariables false
set_option linter.unusedSimpArgs false
open Go.RowKit Go.Proofs.YtibhijjmmagdcaaDoorW.PrintWords Go.Proofs.YtibhijjmmagdcaaDoorW.PrintLast
theorem infoB : ∃ i, Tryd.prog.info? 5 = some i ∧ i.size = 1 := by
  obtain ⟨i, hi, h⟩ := Option.map_eq_some_iff.1 info5
  simp only [Prod.mk.injEq] at h
  exact ⟨i, hi, h.2.1⟩
theorem take_bytes (A : Option Addr) (c : Nat) (l : List Int) (m : Nat) (hm : 1 + m ≤ l.length) (hc : l.length ≤ c) (W : World) :
    (Instr.slice 22 (.slice A l.length c) none (some (.int .i64 (1 + (m : Int)))) none).run Tryd.prog W = .ok (.slice A (1 + m) c) W := by
  obtain ⟨i, hi, hs⟩ := infoB
  have h := (print_take_int (k := .u8) 22 5 Tryd.underlying22 hi hs A c l (1 + (m : Int)) (by omega) (by omega) hc).1 W
  rw [h, List.length_take, show (1 + (m : Int)).toNat = 1 + m by omega, Nat.min_eq_left hm]
theorem own_fresh (w : World) (x : Int) {base : Nat} (hb : base ≤ w.heap.size) : OwnB (w.alloc (.cells #[.int .u8 x] 5)) base (.slice (some ⟨w.heap.size, 0, none⟩) 1 1) [x] :=
  ⟨rfl, .inr ⟨w.heap.size, 1, #[.int .u8 x], rfl, hb, heap_alloc_new w _, Nat.le_refl _, by decide, rfl, rfl⟩⟩
theorem opsWhole_skip (n : Int) (A B : Option Addr) (cd cl : Nat) (d l : List Int) (w : World) (h0 : 0 ≤ n) (h1 : n < 256) (h : (d.length : Int) < 1 + n % 32 ∨ 2000 < l.length ∨ 2000 < d.length) :
    Calls Tryd.prog 9 #[.int .u8 n, .slice A d.length cd, .slice B l.length cl] w fun e w' => e = .returned (.bool true) ∧ Below w.heap.size w w' := by
  have key : (d.length : Int) < 1 + n % 32 ∨ (¬ (d.length : Int) < 1 + n % 32 ∧ (2000 : Int) < l.length) ∨ (¬ (d.length : Int) < 1 + n % 32 ∧ ¬ (2000 : Int) < l.length ∧ (2000 : Int) < d.length) := by omega
  clear h
  rcases key with a | ⟨a, b⟩ | ⟨a, b, c⟩
  all_goals
    go_enter Tryd.func9, Tryd.ntmps9
    go_wp2_with (go_at_call 26; refine (fixed11 _).mono ?_; rintro e w1 ⟨rfl, hb1⟩)
    go_ret
    exact ⟨rfl, hb1⟩
theorem ints_reads (v : Value) (base : Nat) (l : List Int) (w : World) (h : OwnI w base v l) : ∃ A c, v = .slice A l.length c ∧ (Kd.int .i64).C w A l.length l := by
  obtain ⟨A, c, he, _, hr⟩ := h.reads
  exact ⟨A, c, he, hr⟩
set_option maxRecDepth 100000 in
theorem opsWhole_main (n : Int) (A B : Option Addr) (cd cl : Nat) (d l : List Int) (w : World) (h0 : 0 ≤ n) (h1 : n < 256) (m : Nat) (hm : n % 32 = m) (hd : 1 + m ≤ d.length) (hd2 : d.length ≤ 2000) (hl2 : l.length ≤ 2000)
    (hA : (Kd.int .u8).C w A d.length d) (hB : (Kd.int .u8).C w B l.length l) (hcd : d.length ≤ cd) (hcl : l.length ≤ cl) (hbd : ∀ c ∈ d, 0 ≤ c ∧ c < 256) (hbl : ∀ c ∈ l, 0 ≤ c ∧ c < 256) :
    Calls Tryd.prog 9 #[.int .u8 n, .slice A d.length cd, .slice B l.length cl] w fun e w' => e = .returned (.bool true) ∧ Below w.heap.size w w' := by
  have hm32 : m < 32 := by omega
  have htl : (d.take (1 + m)).length = 1 + m := by rw [List.length_take]; omega
  have HSP : Hid (destsF ((95 + (1 + (m : Int))) :: (d.take (1 + m) ++ l)) = (destsF l).map (· + ((1 + (1 + m) : Nat) : Int))) := by
    have hdf : dataF (95 + (1 + (m : Int))) = (d.take (1 + m)).length := by rw [htl, dataF, if_pos (by omega)]; omega
    have := dests_push (l := l) hdf (by omega)
    rw [htl] at this
    exact this
  have HTA : Hid (∀ W, Below w.heap.size w W → ReadsInt W .u8 A (1 + m) (d.take (1 + m))) := fun W hb => by
    have := (Kd.reads_of_C (enc := Value.int .u8) (d := (0 : Int)) (h1 := fun _ => rfl) (Kd.C_below hA hb))
    exact ReadsInt.take_ this (1 + m) hd
  have HTB : Hid (∀ W, Below w.heap.size w W → ReadsInt W .u8 B l.length l) := fun W hb => Kd.reads_of_C (enc := Value.int .u8) (d := (0 : Int)) (h1 := fun _ => rfl) (Kd.C_below hB hb)
  have hall : ∀ c ∈ (95 + (1 + (m : Int))) :: (d.take (1 + m) ++ l), 0 ≤ c ∧ c < 256 := by
    intro c hc
    rcases List.mem_cons.1 hc with rfl | hc
    · omega
    · rcases List.mem_append.1 hc with hc | hc
      · exact hbd c (List.mem_of_mem_take hc)
      · exact hbl c hc
  have hlen : ((95 + (1 + (m : Int))) :: (d.take (1 + m) ++ l)).length ≤ 5000 := by rw [List.length_cons, List.length_append, htl]; omega
  have HD1 : Hid (∀ W A c, (Kd.int .u8).C W A ((95 + (1 + (m : Int))) :: (d.take (1 + m) ++ l)).length ((95 + (1 + (m : Int))) :: (d.take (1 + m) ++ l)) → ((95 + (1 + (m : Int))) :: (d.take (1 + m) ++ l)).length ≤ c → Calls Tryd.prog 27 #[.slice A ((95 + (1 + (m : Int))) :: (d.take (1 + m) ++ l)).length c] W fun e w' => ∃ v, e = .returned v ∧ OwnI w' W.heap.size v ((destsF l).map (· + ((1 + (1 + m) : Nat) : Int))) ∧ Below W.heap.size W w') := fun W A c hr hc => by
    have := dests_any A c _ W hr hc hall (by omega)
    rw [HSP.out] at this
    exact this
  have HD2 : Hid (∀ W, Below w.heap.size w W → Calls Tryd.prog 27 #[.slice B l.length cl] W fun e w' => ∃ v, e = .returned v ∧ OwnI w' W.heap.size v (destsF l) ∧ Below W.heap.size W w') := fun W hb => dests_any B cl l W (Kd.C_below hB hb) hcl hbl (by omega)
  have hts := take_bytes A cd d m hd hcd
  have b1 : ¬ (d.length : Int) < 1 + (m : Int) := by omega
  have b2 : ¬ (2000 : Int) < l.length := by omega
  have b3 : ¬ (2000 : Int) < d.length := by omega
  have HTL := Lib.hid htl
  have HM := Lib.hid (show m < 32 from hm32)
  have HL2 := Lib.hid hl2
  have hd' := Lib.hid hd
  clear hd hd2 hl2 hA hB hbd hbl htl hall hlen HSP
  obtain ⟨al, hal⟩ : ∃ al, al = (95 + (1 + (m : Int))) :: (d.take (1 + m) ++ l) := ⟨_, rfl⟩
  rw [← hal] at HD1
  have HAL := Lib.hid hal
  obtain ⟨ds, hds⟩ : ∃ ds, ds = destsF l := ⟨_, rfl⟩
  rw [← hds] at HD1 HD2
  have HX : Hid (∀ k (hk : k < ds.length), 0 ≤ ds[k] ∧ ds[k] < 2000) := fun k hk => by
    have := destsS_range 0 0 l ds[k] (by rw [← destsF, ← hds]; exact List.getElem_mem hk)
    have := HL2.out
    omega
  have HDL : Hid (ds.length ≤ 2000) := by
    have := destsS_len 0 0 l
    rw [← destsF, ← hds] at this
    have := HL2.out
    unfold Hid
    omega
  have HE1 : Hid (∀ W A c, (Kd.int .u8).C W A al.length al → al.length ≤ c → Calls Tryd.prog 27 #[.slice A al.length c] W fun e w' => ∃ A c, e = .returned (.slice A ds.length c) ∧ (Kd.int .i64).C w' A (ds.map (· + ((1 + (1 + m) : Nat) : Int))).length (ds.map (· + ((1 + (1 + m) : Nat) : Int))) ∧ Below W.heap.size W w') := fun W A c hr hc => by
    refine (HD1.out W A c hr hc).mono ?_
    rintro e w' ⟨v, rfl, hO, hb⟩
    obtain ⟨A, c, rfl, h⟩ := ints_reads _ _ _ _ hO
    exact ⟨A, c, by rw [List.length_map], h, hb⟩
  have HE2 : Hid (∀ W, Below w.heap.size w W → Calls Tryd.prog 27 #[.slice B l.length cl] W fun e w' => ∃ A c, e = .returned (.slice A ds.length c) ∧ (Kd.int .i64).C w' A ds.length ds ∧ Below W.heap.size W w') := fun W hb => by
    refine (HD2.out W hb).mono ?_
    rintro e w' ⟨v, rfl, hO, hb⟩
    obtain ⟨A, c, rfl, h⟩ := ints_reads _ _ _ _ hO
    exact ⟨A, c, rfl, h, hb⟩
  clear hal hds HD1 HD2
  go_enter Tryd.func9, Tryd.ntmps9
  go_wp2_with (first | (at_builtin; refine print_append_row w.heap.size rfl (.tmp 34) (.tmp 37) 22 5 .u8 1 rfl Tryd.underlying22 info5 (by decide) _ [95 + (1 + (m : Int))] (d.take (1 + m)) A (1 + m) cd rfl rfl (own_fresh w _ (Nat.le_refl _)) (HTA.out _ (below_alloc (Below.refl _ _) _)) (below_alloc (Below.refl _ _) _) (by simp) (by simp; omega) ?_; intro v1 w1 ho1 hb1 _ _) | (at_builtin; refine print_append_row w.heap.size rfl (.tmp 38) (.tmp 39) 22 5 .u8 1 rfl Tryd.underlying22 info5 (by decide) _ ([95 + (1 + (m : Int))] ++ d.take (1 + m)) l B l.length cl rfl rfl ho1 (HTB.out _ hb1) hb1 hb1.size (by have := HL2.out; simp; omega) ?_; intro v2 w2 ho2 hb2 _ _; obtain ⟨A2, c2, rfl, hc2, hr2⟩ : ∃ A2 c2, v2 = .slice A2 al.length c2 ∧ al.length ≤ c2 ∧ (Kd.int .u8).C w2 A2 al.length al := OwnB.reads (base := w.heap.size) (by rw [HAL.out]; exact ho2)))
  have HTW := hb2
  refine (HE1.out _ _ _ hr2 hc2).mono ?_
  rintro e w3 ⟨A3, c3, rfl, r3, hb3⟩
  have e3 := bel_then hb2 hb3
  clear ho1 ho2 hr2 hb1 HTW
  go_wp2_with (go_at_call 27; refine (HE2.out _ e3).mono ?_; rintro e w4 ⟨A4, c4, rfl, r4, hb4⟩)
  have R3 := Lib.hid (Kd.C_below r3 hb4)
  have R4 := Lib.hid r4
  have E4 := Lib.hid (bel_then e3 hb4)
  clear r3 r4 hb4 e3 hb3 hb2
  go_loopw [52] (fun i wr => ∃ k : Nat, k ≤ ds.length ∧ i = .int .i64 k ∧ Below w4.heap.size w4 wr) (fun i _ => ds.length - (intOf i).toNat)
  case atStart => exact ⟨0, by omega, rfl, Below.refl _ _⟩
  case round =>
    obtain ⟨k, hk, rfl, hB⟩ := hrel
    by_cases hlt : k < ds.length
    · have p2 : (k : Int) < 1000000 := by have := HDL.out; omega
      have p0 : (0 : Int) ≤ (k : Int) := by omega
      have p1 : (k : Int) < (ds.length : Int) := by omega
      have hlm : k < (ds.map (· + ((1 + (1 + m) : Nat) : Int))).length := by rw [List.length_map]; exact hlt
      obtain ⟨ad1, hA1, C1⟩ := ints_at R3.out hlm
      subst hA1
      obtain ⟨ad2, hA2, C2⟩ := ints_at R4.out hlt
      subst hA2
      have hx := HX.out k hlt
      obtain ⟨x, hxe⟩ : ∃ x, ds[k] = x := ⟨_, rfl⟩
      rw [hxe] at hx C2
      have hval : (ds.map (· + ((1 + (1 + m) : Nat) : Int)))[k] = x + 1 + (1 + (m : Int)) := by
        rw [List.getElem_map, hxe]; omega
      rw [hval] at C1
      have D1 := Lib.hid C1
      have D2 := Lib.hid C2
      clear C1 C2 hval hxe hlm
      go_wp2_with fail
      refine start_ (n := 12) (S := fun W => Below w4.heap.size w4 W) (ds := []) #[false, false, false, false, false, false, false, false, false, false, false, false] (by kernel_rfl) rfl rfl (bel_drew hB) (fun hHeld => ?_)
      refine gen_last hHeld ?_
      clear hHeld
      intro wd hHeld
      refine pure_ (i := 0) (N := some 55) (v := ?_) (a' := ?_) #[true, false, false, false, false, false, false, false, false, false, false, false] rfl rfl (by kernel_rfl) (fun _ _ _ h => h) (Or.inl ⟨by rfl, ?_⟩) ?_ ?_
      rotate_left
      · intro w2
        (go_simp; (try go_bits); with_reducible rfl)
      rotate_left
      · simp only [Act.put, List.setIfInBounds_toArray, List.set_cons_zero, List.set_cons_succ, i64_w, i32_w]
        rfl
      refine pure_ (i := 1) (N := some 56) (v := ?_) (a' := ?_) #[true, true, false, false, false, false, false, false, false, false, false, false] rfl rfl (by kernel_rfl) (fun _ _ _ h => h) (Or.inl ⟨by rfl, ?_⟩) ?_ ?_
      rotate_left
      · intro w2
        (go_simp; (try go_bits); with_reducible rfl)
      rotate_left
      · simp only [Act.put, List.setIfInBounds_toArray, List.set_cons_zero, List.set_cons_succ, i64_w, i32_w]
        rfl
      refine pure_ (i := 2) (N := some 57) (v := ?_) (a' := ?_) #[true, true, true, false, false, false, false, false, false, false, false, false] rfl rfl (by kernel_rfl) (fun _ _ _ h => h) (Or.inl ⟨by rfl, ?_⟩) ?_ ?_
      rotate_left
      · intro w2
        (go_simp; (try go_bits); with_reducible rfl)
      rotate_left
      · simp only [Act.put, List.setIfInBounds_toArray, List.set_cons_zero, List.set_cons_succ, i64_w, i32_w]
        rfl
      refine pure_ (i := 4) (N := some 59) (v := ?_) (a' := ?_) #[true, true, true, false, true, false, false, false, false, false, false, false] rfl rfl (by kernel_rfl) (fun _ _ _ h => h) (Or.inl ⟨by rfl, ?_⟩) ?_ ?_
      rotate_left
      · intro w2
        (go_simp; (try go_bits); with_reducible rfl)
      rotate_left
      · simp only [Act.put, List.setIfInBounds_toArray, List.set_cons_zero, List.set_cons_succ, i64_w, i32_w]
        rfl
      refine pure_ (i := 5) (N := some 60) (v := ?_) (a' := ?_) #[true, true, true, false, true, true, false, false, false, false, false, false] rfl rfl (by kernel_rfl) (fun _ _ _ h => h) (Or.inl ⟨by rfl, ?_⟩) ?_ ?_
      rotate_left
      · intro w2
        (go_simp; (try go_bits); with_reducible rfl)
      rotate_left
      · simp only [Act.put, List.setIfInBounds_toArray, List.set_cons_zero, List.set_cons_succ, i64_w, i32_w]
        rfl
      refine pure_ (i := 6) (N := some 61) (v := ?_) (a' := ?_) #[true, true, true, false, true, true, true, false, false, false, false, false] rfl rfl (by kernel_rfl) (fun _ _ _ h => h) (Or.inl ⟨by rfl, ?_⟩) ?_ ?_
      rotate_left
      · intro w2
        (go_simp; (try go_bits); with_reducible rfl)
      rotate_left
      · simp only [Act.put, List.setIfInBounds_toArray, List.set_cons_zero, List.set_cons_succ, i64_w, i32_w]
        rfl
      refine pure_ (i := 9) (N := some 64) (v := ?_) (a' := ?_) #[true, true, true, false, true, true, true, false, false, true, false, false] rfl rfl (by kernel_rfl) (fun _ _ _ h => h) (Or.inl ⟨by rfl, ?_⟩) ?_ ?_
      rotate_left
      · intro w2
        (go_simp; (try go_bits); with_reducible rfl)
      rotate_left
      · simp only [Act.put, List.setIfInBounds_toArray, List.set_cons_zero, List.set_cons_succ, i64_w, i32_w]
        rfl
      refine take_ (i := 3) (N := some 58) (v := ?_) (a' := ?_) #[true, true, true, true, true, true, true, false, false, true, false, false] rfl rfl (by kernel_rfl) (fun _ _ _ h => h) (Or.inl ⟨by rfl, ?_⟩) hHeld ?_ ?_
      rotate_left
      · intro w2 hS2
        have c1 := D1.out w2 hS2
        have c2 := D2.out w2 hS2
        (go_simp; (try go_bits); with_reducible rfl)
      rotate_left
      · simp only [Act.put, List.setIfInBounds_toArray, List.set_cons_zero, List.set_cons_succ, i64_w, i32_w]
        rfl
      refine take_ (i := 7) (N := some 62) (v := ?_) (a' := ?_) #[true, true, true, true, true, true, true, true, false, true, false, false] rfl rfl (by kernel_rfl) (fun _ _ _ h => h) (Or.inl ⟨by rfl, ?_⟩) hHeld ?_ ?_
      rotate_left
      · intro w2 hS2
        have c1 := D1.out w2 hS2
        have c2 := D2.out w2 hS2
        (go_simp; (try go_bits); with_reducible rfl)
      rotate_left
      · simp only [Act.put, List.setIfInBounds_toArray, List.set_cons_zero, List.set_cons_succ, i64_w, i32_w]
        rfl
      refine pure_ (i := 8) (N := some 63) (v := ?_) (a' := ?_) #[true, true, true, true, true, true, true, true, true, true, false, false] rfl rfl (by kernel_rfl) (fun _ _ _ h => h) (Or.inl ⟨by rfl, ?_⟩) ?_ ?_
      rotate_left
      · intro w2
        (go_simp; (try go_bits); with_reducible rfl)
      rotate_left
      · simp only [Act.put, List.setIfInBounds_toArray, List.set_cons_zero, List.set_cons_succ, i64_w, i32_w]
        rfl
      refine pure_ (i := 10) (N := some 65) (v := ?_) (a' := ?_) #[true, true, true, true, true, true, true, true, true, true, true, false] rfl rfl (by kernel_rfl) (fun _ _ _ h => h) (Or.inl ⟨by rfl, ?_⟩) ?_ ?_
      rotate_left
      · intro w2
        (go_simp; (try go_bits); with_reducible rfl)
      rotate_left
      · simp only [Act.put, List.setIfInBounds_toArray, List.set_cons_zero, List.set_cons_succ, i64_w, i32_w]
        rfl
      refine pure_ (i := 11) (N := some 66) (v := ?_) (a' := ?_) #[true, true, true, true, true, true, true, true, true, true, true, true] rfl rfl (by kernel_rfl) (fun _ _ _ h => h) (Or.inl ⟨by rfl, ?_⟩) ?_ ?_
      rotate_left
      · intro w2
        (go_simp; (try go_bits); with_reducible rfl)
      rotate_left
      · simp only [Act.put, List.setIfInBounds_toArray, List.set_cons_zero, List.set_cons_succ, i64_w, i32_w]
        rfl
      refine done_ (by kernel_rfl) ?_
      go_wp2_with fail
      go_roundw
      case rel => exact ⟨k + 1, by omega, by go_num, hHeld⟩
      case measure => simp [intOf]; omega
    · obtain rfl : k = ds.length := by omega
      go_wp2_with (go_at_call 26; refine (fixed11 _).mono ?_; rintro e w5 ⟨rfl, hb5⟩)
      go_ret
      exact ⟨rfl, bel_then (bel_then E4.out hB) hb5⟩
theorem opsWhole_any (n : Int) (A B : Option Addr) (cd cl : Nat) (d l : List Int) (w : World) (h0 : 0 ≤ n) (h1 : n < 256)
    (hA : (Kd.int .u8).C w A d.length d) (hB : (Kd.int .u8).C w B l.length l) (hcd : d.length ≤ cd) (hcl : l.length ≤ cl) (hbd : ∀ c ∈ d, 0 ≤ c ∧ c < 256) (hbl : ∀ c ∈ l, 0 ≤ c ∧ c < 256) :
    Calls Tryd.prog 9 #[.int .u8 n, .slice A d.length cd, .slice B l.length cl] w fun e w' => e = .returned (.bool true) ∧ Below w.heap.size w w' := by
  by_cases h : (d.length : Int) < 1 + n % 32 ∨ 2000 < l.length ∨ 2000 < d.length
  · exact opsWhole_skip n A B cd cl d l w h0 h1 h
  · exact opsWhole_main n A B cd cl d l w h0 h1 (n % 32).toNat (by omega) (by omega) (by omega) (by omega) hA hB hcd hcl hbd hbl
end Go.Proofs.YtibhijjmmagdcaaDoor
