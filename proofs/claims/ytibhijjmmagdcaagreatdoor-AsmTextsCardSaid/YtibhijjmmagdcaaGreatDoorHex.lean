/- Layer 4 (package hex): its functions, walked: what each comes to. -/
import Derived.Test.YtibhijjmmagdcaaGreatDoorBytes
import Derived.Test.YtibhijjmmagdcaaGreatDoorWord
import Derived.Test.YtibhijjmmagdcaaGreatDoorShelf
namespace Go.Proofs.YtibhijjmmagdcaaGreatDoor
set_option linter.unusedVariables false
set_option linter.unusedSimpArgs false
open Go.RowKit Go.Proofs.YtibhijjmmagdcaaGreatDoorW.PrintWords Go.Proofs.YtibhijjmmagdcaaGreatDoorW.PrintLast
theorem value_any (c : Int) (w : World) (h0 : 0 ≤ c) (h1 : c < 256) :
    Calls Tryz.prog 81 #[.int .u8 c] w fun e w' => e = .returned (.int .i64 (hv c)) ∧ w = w' := by
  have HV := Lib.hid (index_hv' h0 h1)
  by_cases hA : 65 ≤ c
  · by_cases hF : c ≤ 70
    · have HL : Hid (lower c = c + 32) := by unfold Hid; rw [lower, if_pos ⟨hA, hF⟩]
      go_enter Tryz.func81, Tryz.ntmps81
      go_wp2_with (go_at_call 92; refine (Tryz.strings_IndexByte _ _ _).mono ?_; rintro e w' ⟨rfl, rfl⟩)
      go_ret
      exact ⟨by rw [← HV.out, HL.out]; rfl, rfl⟩
    · have HL : Hid (lower c = c) := by unfold Hid; rw [lower, if_neg (by omega)]
      go_enter Tryz.func81, Tryz.ntmps81
      go_wp2_with (go_at_call 92; refine (Tryz.strings_IndexByte _ _ _).mono ?_; rintro e w' ⟨rfl, rfl⟩)
      go_ret
      exact ⟨by rw [← HV.out, HL.out]; rfl, rfl⟩
  · have HL : Hid (lower c = c) := by unfold Hid; rw [lower, if_neg (by omega)]
    go_enter Tryz.func81, Tryz.ntmps81
    go_wp2_with (go_at_call 92; refine (Tryz.strings_IndexByte _ _ _).mono ?_; rintro e w' ⟨rfl, rfl⟩)
    go_ret
    exact ⟨by rw [← HV.out, HL.out]; rfl, rfl⟩
set_option maxRecDepth 100000 in
theorem bytes_run (t : ByteArray) (ht : t.size ≤ 1000000) (heven : t.size % 2 = 0) (s : ByteArray) (w : World)
    (hcut : ∀ W, Calls Tryz.prog 21 #[.string s, .string ⟨#[48, 120]⟩] W fun e w' => e = .returned (.tuple #[.string t, .bool true]) ∧ W = w') :
    Calls Tryz.prog 51 #[.string s] w fun e w' => ∃ v, e = .returned (.tuple #[v, .int .i64 (formErr (pairs (bytesOf t)))]) ∧ OwnB w' w.heap.size v ((pairs (bytesOf t)).getD []) ∧ Below w.heap.size w w' := by
  have HCUT := Lib.hid hcut
  clear hcut
  have hz0 : (t.size : Int) % 2 = 0 := by omega
  have hz1 : ((t.size : Int) % 2 != 0) = false := by simp [hz0]
  have HE := Lib.hid heven
  clear heven hz0
  go_enter Tryz.func51, Tryz.ntmps51
  go_wp2_with (go_at_call 21; refine (HCUT.out _).mono ?_; rintro e w' ⟨rfl, rfl⟩)
  clear hz1
  go_loopw [5, 6] (fun v i wr => ∃ (k : Nat) (d : List Int), 2 * k ≤ t.size ∧ i = .int .i64 (2 * (k : Int)) ∧ d.length = k ∧ pairs (bytesOf t) = (pairs ((bytesOf t).drop (2 * k))).map (d ++ ·) ∧ OwnB wr w.heap.size v d ∧ Below w.heap.size w wr) (fun _ i _ => t.size - (intOf i).toNat)
  case atStart => exact ⟨0, [], by omega, rfl, rfl, by simp, OwnB.nil _ _, Below.refl _ _⟩
  case round =>
    obtain ⟨k, d, hk, rfl, hd, hp, hO, hB⟩ := hrel
    by_cases hlt : 2 * k < t.size
    · have he := HE.out
      have e1 := bytesOf_drop t (2 * k) (by omega)
      rw [bytesOf_drop t (2 * k + 1) (by omega), show ((2 * k : Nat) : Int) = 2 * (k : Int) by omega, show ((2 * k + 1 : Nat) : Int) = 2 * (k : Int) + 1 by omega] at e1
      have HP := Lib.hid hp
      have HD := Lib.hid e1
      have HL := Lib.hid hd
      have p0 : (0 : Int) ≤ 2 * (k : Int) := by omega
      have p1 : 2 * (k : Int) < (t.size : Int) := by omega
      have p2 : (0 : Int) ≤ 2 * (k : Int) + 1 := by omega
      have p3 : 2 * (k : Int) + 1 < (t.size : Int) := by omega
      have x0 := bt_at t (2 * (k : Int))
      have x1 := bt_at t (2 * (k : Int) + 1)
      have r0 := bt_range t (2 * (k : Int))
      have r1 := bt_range t (2 * (k : Int) + 1)
      have q0 := hv_le (bt t (2 * (k : Int)))
      have q1 := hv_le (bt t (2 * (k : Int) + 1))
      clear hp e1 he hd
      go_wp2_with fail
      refine start_ (n := 11) (S := fun W => OwnB W w.heap.size u5 d ∧ Below w.heap.size w W) (ds := []) #[false, false, false, false, false, false, false, false, false, false, false] (by kernel_rfl) rfl rfl ⟨hO.drew, bel_drew hB⟩ (fun hHeld => ?_)
      refine gen_last hHeld ?_
      clear hHeld
      intro wd hHeld
      refine pure_ (i := 0) (N := some 28) (v := ?_) (a' := ?_) #[true, false, false, false, false, false, false, false, false, false, false] rfl rfl (by kernel_rfl) (fun _ _ _ h => h) (Or.inl ⟨by rfl, ?_⟩) ?_ ?_
      rotate_left
      · intro w2
        (go_simp; (try go_bits); with_reducible rfl)
      rotate_left
      · simp only [Act.put, List.setIfInBounds_toArray, List.set_cons_zero, List.set_cons_succ, i64_w, i32_w]
        rfl
      refine pure_ (i := 1) (N := some 29) (v := ?_) (a' := ?_) #[true, true, false, false, false, false, false, false, false, false, false] rfl rfl (by kernel_rfl) (fun _ _ _ h => h) (Or.inl ⟨by rfl, ?_⟩) ?_ ?_
      rotate_left
      · intro w2
        (go_simp; (try go_bits); with_reducible rfl)
      rotate_left
      · simp only [Act.put, List.setIfInBounds_toArray, List.set_cons_zero, List.set_cons_succ, i64_w, i32_w]
        rfl
      refine pure_ (i := 2) (N := some 30) (v := ?_) (a' := ?_) #[true, true, true, false, false, false, false, false, false, false, false] rfl rfl (by kernel_rfl) (fun _ _ _ h => h) (Or.inl ⟨by rfl, ?_⟩) ?_ ?_
      rotate_left
      · intro w2
        (go_simp; (try go_bits); with_reducible rfl)
      rotate_left
      · simp only [Act.put, List.setIfInBounds_toArray, List.set_cons_zero, List.set_cons_succ, i64_w, i32_w]
        rfl
      refine pure_ (i := 4) (N := some 32) (v := ?_) (a' := ?_) #[true, true, true, false, true, false, false, false, false, false, false] rfl rfl (by kernel_rfl) (fun _ _ _ h => h) (Or.inl ⟨by rfl, ?_⟩) ?_ ?_
      rotate_left
      · intro w2
        (go_simp; (try go_bits); with_reducible rfl)
      rotate_left
      · simp only [Act.put, List.setIfInBounds_toArray, List.set_cons_zero, List.set_cons_succ, i64_w, i32_w]
        rfl
      refine pure_ (i := 5) (N := some 33) (v := ?_) (a' := ?_) #[true, true, true, false, true, true, false, false, false, false, false] rfl rfl (by kernel_rfl) (fun _ _ _ h => h) (Or.inl ⟨by rfl, ?_⟩) ?_ ?_
      rotate_left
      · intro w2
        (go_simp; (try go_bits); with_reducible rfl)
      rotate_left
      · simp only [Act.put, List.setIfInBounds_toArray, List.set_cons_zero, List.set_cons_succ, i64_w, i32_w]
        rfl
      refine pure_ (i := 6) (N := some 34) (v := ?_) (a' := ?_) #[true, true, true, false, true, true, true, false, false, false, false] rfl rfl (by kernel_rfl) (fun _ _ _ h => h) (Or.inl ⟨by rfl, ?_⟩) ?_ ?_
      rotate_left
      · intro w2
        (go_simp; (try go_bits); with_reducible rfl)
      rotate_left
      · simp only [Act.put, List.setIfInBounds_toArray, List.set_cons_zero, List.set_cons_succ, i64_w, i32_w]
        rfl
      refine pure_ (i := 7) (N := some 35) (v := ?_) (a' := ?_) #[true, true, true, false, true, true, true, true, false, false, false] rfl rfl (by kernel_rfl) (fun _ _ _ h => h) (Or.inl ⟨by rfl, ?_⟩) ?_ ?_
      rotate_left
      · intro w2
        (go_simp; (try go_bits); with_reducible rfl)
      rotate_left
      · simp only [Act.put, List.setIfInBounds_toArray, List.set_cons_zero, List.set_cons_succ, i64_w, i32_w]
        rfl
      refine one_ (i := 3) (N := some 31) #[true, true, true, true, true, true, true, true, false, false, false] rfl rfl (by kernel_rfl) (by decide) (fun K hK => ?_)
      go_simp
      try go_bits
      refine (value_any _ _ (by omega) (by omega)).mono ?_
      rintro e w1 ⟨rfl, rfl⟩
      refine hK.out _ _ hHeld (fun hHeld => ?_)
      clear hK K
      refine norm_ (a' := ?_) ?_ ?_
      rotate_left
      · first | rfl | (simp only [Act.put, List.setIfInBounds_toArray, List.set_cons_zero, List.set_cons_succ, i64_w, i32_w]; rfl)
      refine one_ (i := 8) (N := some 36) #[true, true, true, true, true, true, true, true, true, false, false] rfl rfl (by kernel_rfl) (by decide) (fun K hK => ?_)
      go_simp
      try go_bits
      refine (value_any _ _ (by omega) (by omega)).mono ?_
      rintro e w1 ⟨rfl, rfl⟩
      refine hK.out _ _ hHeld (fun hHeld => ?_)
      clear hK K
      refine norm_ (a' := ?_) ?_ ?_
      rotate_left
      · first | rfl | (simp only [Act.put, List.setIfInBounds_toArray, List.set_cons_zero, List.set_cons_succ, i64_w, i32_w]; rfl)
      refine pure_ (i := 9) (N := some 7) (v := ?_) (a' := ?_) #[true, true, true, true, true, true, true, true, true, true, false] rfl rfl (by kernel_rfl) (fun _ _ _ h => h) (Or.inl ⟨by rfl, ?_⟩) ?_ ?_
      rotate_left
      · intro w2
        (go_simp; (try go_bits); with_reducible rfl)
      rotate_left
      · simp only [Act.put, List.setIfInBounds_toArray, List.set_cons_zero, List.set_cons_succ, i64_w, i32_w]
        rfl
      refine pure_ (i := 10) (N := some 8) (v := ?_) (a' := ?_) #[true, true, true, true, true, true, true, true, true, true, true] rfl rfl (by kernel_rfl) (fun _ _ _ h => h) (Or.inl ⟨by rfl, ?_⟩) ?_ ?_
      rotate_left
      · intro w2
        (go_simp; (try go_bits); with_reducible rfl)
      rotate_left
      · simp only [Act.put, List.setIfInBounds_toArray, List.set_cons_zero, List.set_cons_succ, i64_w, i32_w]
        rfl
      refine done_ (by kernel_rfl) ?_
      obtain ⟨hO1, hB1⟩ := hHeld
      have HO := Lib.hid hO1
      have hW := hB1.size
      clear hO hB hO1
      by_cases ha : hv (bt t (2 * (k : Int))) < 0
      · go_wp2_with fail
        go_ret2
        have hn : pairs (bytesOf t) = none := by rw [HP.out, HD.out]; rw [pairs, if_pos (.inl ha)]; rfl
        exact ⟨_, by rw [hn]; rfl, by rw [hn]; exact OwnB.nil _ _, hB1⟩
      by_cases hb : hv (bt t (2 * (k : Int) + 1)) < 0
      · go_wp2_with fail
        go_ret2
        have hn : pairs (bytesOf t) = none := by rw [HP.out, HD.out]; rw [pairs, if_pos (.inr hb)]; rfl
        exact ⟨_, by rw [hn]; rfl, by rw [hn]; exact OwnB.nil _ _, hB1⟩
      have hl : d.length ≤ 1000000 := by have := HL.out; omega
      go_wp2_with (at_builtin; refine print_append_num w.heap.size rfl (.tmp 43) (.tmp 49) 22 5 .u8 1 rfl Tryz.underlying22 info5 (by decide) _ d _ rfl rfl HO.out hB1 hW (by omega) ?_; intro v1 w1 ho hb1 _ _)
      go_roundw
      case rel => 
        refine ⟨k + 1, _, by have := HE.out; omega, by go_num, by simp [HL.out], ?_, ho, hb1⟩
        rw [HP.out, HD.out, pairs_step _ _ _ _ ha hb]
        rfl
      case measure => simp [intOf]; omega
    · have he : 2 * k = t.size := by omega
      have hn : pairs (bytesOf t) = some d := by rw [hp, he, bytesOf_drop_end]; simp [pairs]
      have HN := Lib.hid hn
      clear hn hp he hd
      go_wp2_with fail
      go_ret2
      exact ⟨_, by rw [HN.out]; rfl, by rw [HN.out]; exact hO, hB⟩
theorem cut_yes {s t : ByteArray} (h : (⟨(Lib.trimPrefix s.data.toList [48, 120]).toArray⟩ : ByteArray) = t) (hp : Lib.hasPrefix s.data.toList [48, 120] = true) (W : World) :
    Calls Tryz.prog 21 #[.string s, .string ⟨#[48, 120]⟩] W fun e w' => e = .returned (.tuple #[.string t, .bool true]) ∧ W = w' :=
  (Tryz.strings_CutPrefix s ⟨#[48, 120]⟩ W).mono fun e w' ⟨he, hw⟩ => ⟨by rw [he]; show Ending.returned (.tuple #[.string ⟨(Lib.trimPrefix s.data.toList [48, 120]).toArray⟩, .bool (Lib.hasPrefix s.data.toList [48, 120])]) = _; rw [h, hp], hw.symm⟩
theorem cut_no {s : ByteArray} (hp : Lib.hasPrefix s.data.toList [48, 120] = false) (W : World) :
    Calls Tryz.prog 21 #[.string s, .string ⟨#[48, 120]⟩] W fun e w' => ∃ t, e = .returned (.tuple #[.string t, .bool false]) ∧ W = w' :=
  (Tryz.strings_CutPrefix s ⟨#[48, 120]⟩ W).mono fun e w' ⟨he, hw⟩ => ⟨⟨(Lib.trimPrefix s.data.toList [48, 120]).toArray⟩, he.trans (by show Ending.returned (.tuple #[.string ⟨(Lib.trimPrefix s.data.toList [48, 120]).toArray⟩, .bool (Lib.hasPrefix s.data.toList [48, 120])]) = _; rw [hp]), hw.symm⟩
/-- hex.Bytes: the bytes that a text says, or ErrForm. -/
theorem bytes_hex (s : ByteArray) (hs : s.size ≤ 1000000) (w : World) :
    Calls Tryz.prog 51 #[.string s] w fun e w' => ∃ v, e = .returned (.tuple #[v, .int .i64 (formErr (bytesOfText (bytesOf s)))]) ∧ OwnB w' w.heap.size v ((bytesOfText (bytesOf s)).getD []) ∧ Below w.heap.size w w' := by
  cases hr : rest0x (bytesOf s) with
  | none =>
    have hn : bytesOfText (bytesOf s) = none := by rw [bytesOfText_rest, hr]; rfl
    have hp : Lib.hasPrefix s.data.toList [48, 120] = false := by rw [hasPrefix_0x, hr]; rfl
    have HCUT := Lib.hid (fun W => cut_no hp W)
    have HN := Lib.hid hn
    clear hn hp hr
    go_enter Tryz.func51, Tryz.ntmps51
    go_wp2_with (go_at_call 21; refine (HCUT.out _).mono ?_; rintro e w' ⟨t, rfl, rfl⟩)
    go_ret2
    exact ⟨_, by rw [HN.out]; rfl, by rw [HN.out]; exact OwnB.nil _ _, Below.refl _ _⟩
  | some r =>
    obtain ⟨t, ht, htr, hsz⟩ := rest0x_some hr
    have hp : Lib.hasPrefix s.data.toList [48, 120] = true := by rw [hasPrefix_0x, hr]; rfl
    have hb : bytesOfText (bytesOf s) = pairs (bytesOf t) := by rw [bytesOfText_rest, hr, ht]; rfl
    rw [hb]
    by_cases he : t.size % 2 = 0
    · exact bytes_run t (by omega) he s w (fun W => cut_yes htr hp W)
    · have hn : pairs (bytesOf t) = none := pairs_odd _ (by rw [bytesOf_length]; omega)
      have hz1 : ((t.size : Int) % 2 != 0) = true := by rw [bne_iff_ne]; omega
      have HCUT := Lib.hid (fun W => cut_yes htr hp W)
      have HN := Lib.hid hn
      clear hn hp hr hb ht htr
      go_enter Tryz.func51, Tryz.ntmps51
      go_wp2_with (go_at_call 21; refine (HCUT.out _).mono ?_; rintro e w' ⟨rfl, rfl⟩)
      go_ret2
      exact ⟨_, by rw [HN.out]; rfl, by rw [HN.out]; exact OwnB.nil _ _, Below.refl _ _⟩
end Go.Proofs.YtibhijjmmagdcaaGreatDoor
