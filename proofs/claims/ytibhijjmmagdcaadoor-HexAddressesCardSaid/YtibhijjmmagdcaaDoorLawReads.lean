/- smithylaw04.HexReads: the walk. -/
import Derived.Test.YtibhijjmmagdcaaDoorAddress
namespace Go.Proofs.YtibhijjmmagdcaaDoor
set_option linter.unusedVariables false
set_option linter.unusedSimpArgs false
open Go.RowKit Go.Proofs.YtibhijjmmagdcaaDoorW.PrintWords Go.Proofs.YtibhijjmmagdcaaDoorW.PrintLast
/-- A number's four parts. -/
def limbs (n : Int) : Nat → Int
  | 0 => n % 18446744073709551616
  | 1 => n / 18446744073709551616 % 18446744073709551616
  | 2 => n / 340282366920938463463374607431768211456 % 18446744073709551616
  | 3 => n / 6277101735386680763835789423207666416102355444464034512896 % 18446744073709551616
  | _ => 0
theorem limbs_U64 (n : Int) : U64 (limbs n) := fun i => by
  unfold limbs
  split <;> omega
theorem limbs_val {n : Int} (h : 0 ≤ n ∧ n < M256) : wval (limbs n) = n := by
  simp only [wval, limbs]
  unfold M256 at h
  omega
theorem word_limbs {F : Nat → Int} (hF : U64 F) {n : Int} (h : wval F = n % M256) : wordF F = wordF (limbs (n % M256)) := by
  have hm : 0 < M256 := by decide
  refine wordF_eq hF (limbs_U64 _) ?_
  rw [limbs_val ⟨Int.emod_nonneg _ (by omega), Int.emod_lt_of_pos _ hm⟩, h]
def textWord (s : ByteArray) : Nat → Int := limbs (wordNum (bytesOf s) % M256)
theorem reads_word (s : ByteArray) (hs : s.size ≤ 1000000) (w : World) :
    Calls Tryd.prog 15 #[.string s] w fun e w' => e = .returned (.tuple #[wordF (textWord s), .int .i64 (wordErr (bytesOf s))]) ∧ Below w.heap.size w w' := by
  refine (word_hex s hs w).mono ?_
  rintro e w' ⟨F, hF, hv, rfl, hB⟩
  exact ⟨by rw [word_limbs hF hv]; rfl, hB⟩
theorem reads_refword (s : ByteArray) (hs : s.size ≤ 1000000) (w : World) :
    Calls Tryd.prog 19 #[.string s] w fun e w' => e = .returned (.tuple #[wordF (textWord s), .int .i64 (wordErr (bytesOf s))]) ∧ Below w.heap.size w w' := by
  refine (word_ref s hs w).mono ?_
  rintro e w' ⟨F, hF, hv, rfl, hB⟩
  exact ⟨by rw [word_limbs hF hv]; rfl, hB⟩
theorem reads_bytes (s : ByteArray) (hs : s.size ≤ 1000000) (w : World) :
    Calls Tryd.prog 14 #[.string s] w fun e w' => ∃ A c, e = .returned (.tuple #[.slice A ((bytesOfText (bytesOf s)).getD []).length c, .int .i64 (formErr (bytesOfText (bytesOf s)))]) ∧ (Kd.int .u8).C w' A ((bytesOfText (bytesOf s)).getD []).length ((bytesOfText (bytesOf s)).getD []) ∧ Below w.heap.size w w' := by
  refine (bytes_hex s hs w).mono ?_
  rintro e w' ⟨v, rfl, hO, hB⟩
  obtain ⟨A, c, rfl, _, hr⟩ := hO.reads
  exact ⟨A, c, rfl, hr, hB⟩
theorem reads_refbytes (s : ByteArray) (hs : s.size ≤ 1000000) (w : World) :
    Calls Tryd.prog 18 #[.string s] w fun e w' => ∃ A c, e = .returned (.tuple #[.slice A ((bytesOfText (bytesOf s)).getD []).length c, .int .i64 (formErr (bytesOfText (bytesOf s)))]) ∧ (Kd.int .u8).C w' A ((bytesOfText (bytesOf s)).getD []).length ((bytesOfText (bytesOf s)).getD []) ∧ Below w.heap.size w w' := by
  refine (bytes_ref s hs w).mono ?_
  rintro e w' ⟨v, rfl, hO, hB⟩
  obtain ⟨A, c, rfl, _, hr⟩ := hO.reads
  exact ⟨A, c, rfl, hr, hB⟩
theorem eql40 (f g : Nat → Int) (w : World) : (Op.equalIn 10000 40 (.agg (arrF .u8 20 f)) (.agg (arrF .u8 20 g))).run Tryd.prog w = .ok (eqN 20 f g) w :=
  run_equalIn_arrF w 9998 _ 5 20 .u8 Tryd.underlying40 Tryd.underlying5 (fun w => by kernel_rfl) f g
theorem hexReads_long (s : ByteArray) (w : World) (hn : 3000 < s.size) :
    Calls Tryd.prog 4 #[.string s] w fun e w' => e = .returned (.bool true) ∧ Below w.heap.size w w' := by
  have hn' : (3000 : Int) < s.size := by omega
  clear hn
  go_enter Tryd.func4, Tryd.ntmps4
  go_wp2_with (go_at_call 11; refine (fixed04 _).mono ?_; rintro e w1 ⟨rfl, hb1⟩)
  go_ret
  exact ⟨rfl, hb1⟩
theorem addrErr_less {l : List Int} (h : l.length < 20) : addrErr (some l) = 3 := by rw [addrErr, if_pos h]
theorem addrErr_more {l : List Int} (h : 20 < l.length) : addrErr (some l) = 4 := by rw [addrErr, if_neg (by omega), if_pos h]
theorem addrErr_same {l : List Int} (h : l.length = 20) : addrErr (some l) = 0 := by rw [addrErr, if_neg (by omega), if_neg (by omega)]
theorem addrF_bad {o : Option (List Int)} (h : addrErr o ≠ 0) : arrF .u8 20 (addrF o) = arrF .u8 20 fun _ => 0 := arrF_ext fun i _ => by rw [addrF, if_neg h]
theorem addrF_good {l : List Int} (h : l.length = 20) : arrF .u8 20 (addrF (some l)) = arrF .u8 20 fun i => l.getD i 0 := arrF_ext fun i _ => by rw [addrF, if_pos (addrErr_same h)]; rfl
set_option maxRecDepth 100000 in
theorem hexReads_none (s : ByteArray) (w : World) (hn : s.size ≤ 3000) (ho : bytesOfText (bytesOf s) = none) :
    Calls Tryd.prog 4 #[.string s] w fun e w' => e = .returned (.bool true) ∧ Below w.heap.size w w' := by
  have hn' : (s.size : Int) ≤ 3000 := by omega
  have HB := Lib.hid (reads_bytes s (by omega))
  have HC := Lib.hid (reads_refbytes s (by omega))
  have HW := Lib.hid (reads_word s (by omega))
  have HV := Lib.hid (reads_refword s (by omega))
  have HA := Lib.hid (address_hex s (by omega))
  rw [ho] at HB HC HA
  simp only [Option.getD_none, Option.getD_some, List.length_nil, formErr] at HB HC
  clear hn ho
  obtain ⟨F, hF⟩ : ∃ F, F = textWord s := ⟨_, rfl⟩
  obtain ⟨we, hwe⟩ : ∃ we, we = wordErr (bytesOf s) := ⟨_, rfl⟩
  rw [← hF, ← hwe] at HW HV
  clear hF hwe
  have he := eql25 F F
  rw [eqN_refl] at he
  have hz := zero25
  have hz40 := zero40
  unfold wordF at HW HV
  have H0 := addrF_bad (o := none) (by decide)
  have heq := eql40 (fun _ => 0) (fun _ => 0)
  rw [eqN_refl] at heq
  rw [H0] at HA
  clear H0
  go_enter Tryd.func4, Tryd.ntmps4
  go_wp2_with (first | (go_at_call 14; refine (HB.out _).mono ?_; rintro e w1 ⟨A1, c1, rfl, hr1, hb1⟩) | (go_at_call 18; refine (HC.out _).mono ?_; rintro e w2 ⟨A2, c2, rfl, hr2, hb2⟩) | (go_at_call 15; refine (HW.out _).mono ?_; rintro e w3 ⟨rfl, hb3⟩) | ((with_reducible refine gate_op (.store 25 (.tmp 7) (.tmp 30)) rfl ?_); refine wpl_store_blk rfl 25 (.tmp 7) (.tmp 30) rfl _ rfl _ _ _ rfl (Blk.new _ _ _) 4 size25 (arrF_size _ _ _) (arrF_size _ _ _) (arrF_one _ _ _) ?_; intro w4 hO4 hB4))
  have e34 : Below w3.heap.size w3 w4 := Only.below (below_alloc (Below.refl _ _) _) hO4 (Nat.le_refl _)
  obtain ⟨g4, hg4⟩ : ∃ g4, g4 = w3.heap.size := ⟨_, rfl⟩
  rw [← hg4] at hB4 ⊢
  have e4 := bel_then (bel_then (bel_then hb1 hb2) hb3) e34
  have r1 := Kd.C_below (Kd.C_below (Kd.C_below hr1 hb2) hb3) e34
  have r2 := Kd.C_below (Kd.C_below hr2 hb3) e34
  clear hr1 hr2 hb1 hb2 hb3 e34 hO4 hg4
  refine (HV.out _).mono ?_
  rintro e w5 ⟨rfl, hb5⟩
  go_wp2_with ((with_reducible refine gate_op (.store 25 (.tmp 9) (.tmp 35)) rfl ?_); refine wpl_store_blk rfl 25 (.tmp 9) (.tmp 35) rfl _ rfl _ _ _ rfl (Blk.new _ _ _) 4 size25 (arrF_size _ _ _) (arrF_size _ _ _) (arrF_one _ _ _) ?_; intro w6 hO6 hB6)
  have e56 : Below w5.heap.size w5 w6 := Only.below (below_alloc (Below.refl _ _) _) hO6 (Nat.le_refl _)
  obtain ⟨g6, hg6⟩ : ∃ g6, g6 = w5.heap.size := ⟨_, rfl⟩
  rw [← hg6] at hB6 ⊢
  have e6 := bel_then (bel_then e4 hb5) e56
  have r3 := Kd.C_below (Kd.C_below r1 hb5) e56
  have r4 := Kd.C_below (Kd.C_below r2 hb5) e56
  have k6 := (hB4.below hb5).below e56
  clear e4 r1 r2 hb5 e56 hO6 hg6 hB4
  refine (fixed04 _).mono ?_
  rintro e w7 ⟨rfl, hb7⟩
  have e7 := bel_then e6 hb7
  have r5 := Kd.C_below r3 hb7
  have r6 := Kd.C_below r4 hb7
  have k7 := k6.below hb7
  have h7 := hB6.below hb7
  have v5 := conv_bytes (c := c1) r5
  have v6 := conv_bytes (c := c2) r6
  clear e6 r3 r4 k6 hB6 hb7
  go_wp2_with (first | ((with_reducible refine gate_op (.load 25 (.tmp 7)) rfl ?_); refine guard_on (by rfl) ?_; refine wpl_load_blk rfl 25 (.tmp 7) rfl _ rfl _ _ _ k7 Tryd.underlying25 rfl 4 size25 (arrF_size _ _ _) ?_) | ((with_reducible refine gate_op (.load 25 (.tmp 9)) rfl ?_); refine guard_on (by rfl) ?_; refine wpl_load_blk rfl 25 (.tmp 9) rfl _ rfl _ _ _ h7 Tryd.underlying25 rfl 4 size25 (arrF_size _ _ _) ?_) | (go_at_call 20; refine (HA.out _).mono ?_; rintro e w8 ⟨rfl, hb8⟩) | ((with_reducible refine gate_op (.store 40 (.tmp 11) (.tmp 64)) rfl ?_); refine wpl_store_blk rfl 40 (.tmp 11) (.tmp 64) rfl _ rfl _ _ _ rfl (Blk.new _ _ _) 20 size40 (arrF_size _ _ _) (arrF_size _ _ _) (arrF_one _ _ _) ?_; intro w9 hO9 hB9) | ((with_reducible refine gate_op (.load 40 (.tmp 11)) rfl ?_); refine wpl_load_blk rfl 40 (.tmp 11) rfl _ rfl _ _ _ hB9 Tryd.underlying40 rfl 20 size40 (arrF_size _ _ _) ?_))
  go_ret
  exact ⟨rfl, Only.below (bel_then (bel_then e7 hb8) (below_alloc (Below.refl _ _) _)) hO9 (by have := e7.size; have := hb8.size; omega)⟩
set_option maxRecDepth 100000 in
theorem hexReads_less (s : ByteArray) (w : World) (hn : s.size ≤ 3000) (l : List Int) (ho : bytesOfText (bytesOf s) = some l) (hl : l.length < 20) :
    Calls Tryd.prog 4 #[.string s] w fun e w' => e = .returned (.bool true) ∧ Below w.heap.size w w' := by
  have hn' : (s.size : Int) ≤ 3000 := by omega
  have HB := Lib.hid (reads_bytes s (by omega))
  have HC := Lib.hid (reads_refbytes s (by omega))
  have HW := Lib.hid (reads_word s (by omega))
  have HV := Lib.hid (reads_refword s (by omega))
  have HA := Lib.hid (address_hex s (by omega))
  rw [ho] at HB HC HA
  simp only [Option.getD_none, Option.getD_some, List.length_nil, formErr] at HB HC
  clear hn ho
  obtain ⟨F, hF⟩ : ∃ F, F = textWord s := ⟨_, rfl⟩
  obtain ⟨we, hwe⟩ : ∃ we, we = wordErr (bytesOf s) := ⟨_, rfl⟩
  rw [← hF, ← hwe] at HW HV
  clear hF hwe
  have he := eql25 F F
  rw [eqN_refl] at he
  have hz := zero25
  have hz40 := zero40
  unfold wordF at HW HV
  have H1 := addrErr_less hl
  have H0 := addrF_bad (o := some l) (by rw [H1]; decide)
  have h1' : (l.length : Int) < 20 := by omega
  have heq := eql40 (fun _ => 0) (fun _ => 0)
  rw [eqN_refl] at heq
  rw [H0, H1] at HA
  clear H0 H1 hl
  go_enter Tryd.func4, Tryd.ntmps4
  go_wp2_with (first | (go_at_call 14; refine (HB.out _).mono ?_; rintro e w1 ⟨A1, c1, rfl, hr1, hb1⟩) | (go_at_call 18; refine (HC.out _).mono ?_; rintro e w2 ⟨A2, c2, rfl, hr2, hb2⟩) | (go_at_call 15; refine (HW.out _).mono ?_; rintro e w3 ⟨rfl, hb3⟩) | ((with_reducible refine gate_op (.store 25 (.tmp 7) (.tmp 30)) rfl ?_); refine wpl_store_blk rfl 25 (.tmp 7) (.tmp 30) rfl _ rfl _ _ _ rfl (Blk.new _ _ _) 4 size25 (arrF_size _ _ _) (arrF_size _ _ _) (arrF_one _ _ _) ?_; intro w4 hO4 hB4))
  have e34 : Below w3.heap.size w3 w4 := Only.below (below_alloc (Below.refl _ _) _) hO4 (Nat.le_refl _)
  obtain ⟨g4, hg4⟩ : ∃ g4, g4 = w3.heap.size := ⟨_, rfl⟩
  rw [← hg4] at hB4 ⊢
  have e4 := bel_then (bel_then (bel_then hb1 hb2) hb3) e34
  have r1 := Kd.C_below (Kd.C_below (Kd.C_below hr1 hb2) hb3) e34
  have r2 := Kd.C_below (Kd.C_below hr2 hb3) e34
  clear hr1 hr2 hb1 hb2 hb3 e34 hO4 hg4
  refine (HV.out _).mono ?_
  rintro e w5 ⟨rfl, hb5⟩
  go_wp2_with ((with_reducible refine gate_op (.store 25 (.tmp 9) (.tmp 35)) rfl ?_); refine wpl_store_blk rfl 25 (.tmp 9) (.tmp 35) rfl _ rfl _ _ _ rfl (Blk.new _ _ _) 4 size25 (arrF_size _ _ _) (arrF_size _ _ _) (arrF_one _ _ _) ?_; intro w6 hO6 hB6)
  have e56 : Below w5.heap.size w5 w6 := Only.below (below_alloc (Below.refl _ _) _) hO6 (Nat.le_refl _)
  obtain ⟨g6, hg6⟩ : ∃ g6, g6 = w5.heap.size := ⟨_, rfl⟩
  rw [← hg6] at hB6 ⊢
  have e6 := bel_then (bel_then e4 hb5) e56
  have r3 := Kd.C_below (Kd.C_below r1 hb5) e56
  have r4 := Kd.C_below (Kd.C_below r2 hb5) e56
  have k6 := (hB4.below hb5).below e56
  clear e4 r1 r2 hb5 e56 hO6 hg6 hB4
  refine (fixed04 _).mono ?_
  rintro e w7 ⟨rfl, hb7⟩
  have e7 := bel_then e6 hb7
  have r5 := Kd.C_below r3 hb7
  have r6 := Kd.C_below r4 hb7
  have k7 := k6.below hb7
  have h7 := hB6.below hb7
  have v5 := conv_bytes (c := c1) r5
  have v6 := conv_bytes (c := c2) r6
  clear e6 r3 r4 k6 hB6 hb7
  go_wp2_with (first | ((with_reducible refine gate_op (.load 25 (.tmp 7)) rfl ?_); refine guard_on (by rfl) ?_; refine wpl_load_blk rfl 25 (.tmp 7) rfl _ rfl _ _ _ k7 Tryd.underlying25 rfl 4 size25 (arrF_size _ _ _) ?_) | ((with_reducible refine gate_op (.load 25 (.tmp 9)) rfl ?_); refine guard_on (by rfl) ?_; refine wpl_load_blk rfl 25 (.tmp 9) rfl _ rfl _ _ _ h7 Tryd.underlying25 rfl 4 size25 (arrF_size _ _ _) ?_) | (go_at_call 20; refine (HA.out _).mono ?_; rintro e w8 ⟨rfl, hb8⟩) | ((with_reducible refine gate_op (.store 40 (.tmp 11) (.tmp 64)) rfl ?_); refine wpl_store_blk rfl 40 (.tmp 11) (.tmp 64) rfl _ rfl _ _ _ rfl (Blk.new _ _ _) 20 size40 (arrF_size _ _ _) (arrF_size _ _ _) (arrF_one _ _ _) ?_; intro w9 hO9 hB9) | ((with_reducible refine gate_op (.load 40 (.tmp 11)) rfl ?_); refine wpl_load_blk rfl 40 (.tmp 11) rfl _ rfl _ _ _ hB9 Tryd.underlying40 rfl 20 size40 (arrF_size _ _ _) ?_))
  go_ret
  exact ⟨rfl, Only.below (bel_then (bel_then e7 hb8) (below_alloc (Below.refl _ _) _)) hO9 (by have := e7.size; have := hb8.size; omega)⟩
set_option maxRecDepth 100000 in
theorem hexReads_more (s : ByteArray) (w : World) (hn : s.size ≤ 3000) (l : List Int) (ho : bytesOfText (bytesOf s) = some l) (hl : 20 < l.length) :
    Calls Tryd.prog 4 #[.string s] w fun e w' => e = .returned (.bool true) ∧ Below w.heap.size w w' := by
  have hn' : (s.size : Int) ≤ 3000 := by omega
  have HB := Lib.hid (reads_bytes s (by omega))
  have HC := Lib.hid (reads_refbytes s (by omega))
  have HW := Lib.hid (reads_word s (by omega))
  have HV := Lib.hid (reads_refword s (by omega))
  have HA := Lib.hid (address_hex s (by omega))
  rw [ho] at HB HC HA
  simp only [Option.getD_none, Option.getD_some, List.length_nil, formErr] at HB HC
  clear hn ho
  obtain ⟨F, hF⟩ : ∃ F, F = textWord s := ⟨_, rfl⟩
  obtain ⟨we, hwe⟩ : ∃ we, we = wordErr (bytesOf s) := ⟨_, rfl⟩
  rw [← hF, ← hwe] at HW HV
  clear hF hwe
  have he := eql25 F F
  rw [eqN_refl] at he
  have hz := zero25
  have hz40 := zero40
  unfold wordF at HW HV
  have H1 := addrErr_more hl
  have H0 := addrF_bad (o := some l) (by rw [H1]; decide)
  have h1' : ¬ (l.length : Int) < 20 := by omega
  have h2' : (20 : Int) < l.length := by omega
  have heq := eql40 (fun _ => 0) (fun _ => 0)
  rw [eqN_refl] at heq
  rw [H0, H1] at HA
  clear H0 H1 hl
  go_enter Tryd.func4, Tryd.ntmps4
  go_wp2_with (first | (go_at_call 14; refine (HB.out _).mono ?_; rintro e w1 ⟨A1, c1, rfl, hr1, hb1⟩) | (go_at_call 18; refine (HC.out _).mono ?_; rintro e w2 ⟨A2, c2, rfl, hr2, hb2⟩) | (go_at_call 15; refine (HW.out _).mono ?_; rintro e w3 ⟨rfl, hb3⟩) | ((with_reducible refine gate_op (.store 25 (.tmp 7) (.tmp 30)) rfl ?_); refine wpl_store_blk rfl 25 (.tmp 7) (.tmp 30) rfl _ rfl _ _ _ rfl (Blk.new _ _ _) 4 size25 (arrF_size _ _ _) (arrF_size _ _ _) (arrF_one _ _ _) ?_; intro w4 hO4 hB4))
  have e34 : Below w3.heap.size w3 w4 := Only.below (below_alloc (Below.refl _ _) _) hO4 (Nat.le_refl _)
  obtain ⟨g4, hg4⟩ : ∃ g4, g4 = w3.heap.size := ⟨_, rfl⟩
  rw [← hg4] at hB4 ⊢
  have e4 := bel_then (bel_then (bel_then hb1 hb2) hb3) e34
  have r1 := Kd.C_below (Kd.C_below (Kd.C_below hr1 hb2) hb3) e34
  have r2 := Kd.C_below (Kd.C_below hr2 hb3) e34
  clear hr1 hr2 hb1 hb2 hb3 e34 hO4 hg4
  refine (HV.out _).mono ?_
  rintro e w5 ⟨rfl, hb5⟩
  go_wp2_with ((with_reducible refine gate_op (.store 25 (.tmp 9) (.tmp 35)) rfl ?_); refine wpl_store_blk rfl 25 (.tmp 9) (.tmp 35) rfl _ rfl _ _ _ rfl (Blk.new _ _ _) 4 size25 (arrF_size _ _ _) (arrF_size _ _ _) (arrF_one _ _ _) ?_; intro w6 hO6 hB6)
  have e56 : Below w5.heap.size w5 w6 := Only.below (below_alloc (Below.refl _ _) _) hO6 (Nat.le_refl _)
  obtain ⟨g6, hg6⟩ : ∃ g6, g6 = w5.heap.size := ⟨_, rfl⟩
  rw [← hg6] at hB6 ⊢
  have e6 := bel_then (bel_then e4 hb5) e56
  have r3 := Kd.C_below (Kd.C_below r1 hb5) e56
  have r4 := Kd.C_below (Kd.C_below r2 hb5) e56
  have k6 := (hB4.below hb5).below e56
  clear e4 r1 r2 hb5 e56 hO6 hg6 hB4
  refine (fixed04 _).mono ?_
  rintro e w7 ⟨rfl, hb7⟩
  have e7 := bel_then e6 hb7
  have r5 := Kd.C_below r3 hb7
  have r6 := Kd.C_below r4 hb7
  have k7 := k6.below hb7
  have h7 := hB6.below hb7
  have v5 := conv_bytes (c := c1) r5
  have v6 := conv_bytes (c := c2) r6
  clear e6 r3 r4 k6 hB6 hb7
  go_wp2_with (first | ((with_reducible refine gate_op (.load 25 (.tmp 7)) rfl ?_); refine guard_on (by rfl) ?_; refine wpl_load_blk rfl 25 (.tmp 7) rfl _ rfl _ _ _ k7 Tryd.underlying25 rfl 4 size25 (arrF_size _ _ _) ?_) | ((with_reducible refine gate_op (.load 25 (.tmp 9)) rfl ?_); refine guard_on (by rfl) ?_; refine wpl_load_blk rfl 25 (.tmp 9) rfl _ rfl _ _ _ h7 Tryd.underlying25 rfl 4 size25 (arrF_size _ _ _) ?_) | (go_at_call 20; refine (HA.out _).mono ?_; rintro e w8 ⟨rfl, hb8⟩) | ((with_reducible refine gate_op (.store 40 (.tmp 11) (.tmp 64)) rfl ?_); refine wpl_store_blk rfl 40 (.tmp 11) (.tmp 64) rfl _ rfl _ _ _ rfl (Blk.new _ _ _) 20 size40 (arrF_size _ _ _) (arrF_size _ _ _) (arrF_one _ _ _) ?_; intro w9 hO9 hB9) | ((with_reducible refine gate_op (.load 40 (.tmp 11)) rfl ?_); refine wpl_load_blk rfl 40 (.tmp 11) rfl _ rfl _ _ _ hB9 Tryd.underlying40 rfl 20 size40 (arrF_size _ _ _) ?_))
  go_ret
  exact ⟨rfl, Only.below (bel_then (bel_then e7 hb8) (below_alloc (Below.refl _ _) _)) hO9 (by have := e7.size; have := hb8.size; omega)⟩
theorem map_getD {l : List Int} {n : Nat} (h : l.length = n) : (List.range n).map (fun i => l[i]?.getD 0) = l := by
  apply List.ext_getElem?
  intro i
  rw [List.getElem?_map]
  by_cases hi : i < n
  · rw [List.getElem?_range hi, Option.map_some, List.getElem?_eq_getElem (by omega)]; rfl
  · rw [List.getElem?_eq_none (by simpa using hi), List.getElem?_eq_none (by omega)]; rfl
set_option maxRecDepth 100000 in
theorem hexReads_same (s : ByteArray) (w : World) (hn : s.size ≤ 3000) (l : List Int) (ho : bytesOfText (bytesOf s) = some l) (hl : l.length = 20) :
    Calls Tryd.prog 4 #[.string s] w fun e w' => e = .returned (.bool true) ∧ Below w.heap.size w w' := by
  have hn' : (s.size : Int) ≤ 3000 := by omega
  have HB := Lib.hid (reads_bytes s (by omega))
  have HC := Lib.hid (reads_refbytes s (by omega))
  have HW := Lib.hid (reads_word s (by omega))
  have HV := Lib.hid (reads_refword s (by omega))
  have HA := Lib.hid (address_hex s (by omega))
  rw [ho] at HB HC HA
  simp only [Option.getD_none, Option.getD_some, List.length_nil, formErr] at HB HC
  clear hn ho
  obtain ⟨F, hF⟩ : ∃ F, F = textWord s := ⟨_, rfl⟩
  obtain ⟨we, hwe⟩ : ∃ we, we = wordErr (bytesOf s) := ⟨_, rfl⟩
  rw [← hF, ← hwe] at HW HV
  clear hF hwe
  have he := eql25 F F
  rw [eqN_refl] at he
  have hz := zero25
  have hz40 := zero40
  unfold wordF at HW HV
  have H1 := addrErr_same hl
  have H0 := addrF_good hl
  have h1' : (l.length : Int) = 20 := by omega
  have HM := Lib.hid (map_getD hl)
  rw [H0, H1] at HA
  have HL := Lib.hid hl
  clear H0 H1 hl
  go_enter Tryd.func4, Tryd.ntmps4
  go_wp2_with (first | (go_at_call 14; refine (HB.out _).mono ?_; rintro e w1 ⟨A1, c1, rfl, hr1, hb1⟩) | (go_at_call 18; refine (HC.out _).mono ?_; rintro e w2 ⟨A2, c2, rfl, hr2, hb2⟩) | (go_at_call 15; refine (HW.out _).mono ?_; rintro e w3 ⟨rfl, hb3⟩) | ((with_reducible refine gate_op (.store 25 (.tmp 7) (.tmp 30)) rfl ?_); refine wpl_store_blk rfl 25 (.tmp 7) (.tmp 30) rfl _ rfl _ _ _ rfl (Blk.new _ _ _) 4 size25 (arrF_size _ _ _) (arrF_size _ _ _) (arrF_one _ _ _) ?_; intro w4 hO4 hB4))
  have e34 : Below w3.heap.size w3 w4 := Only.below (below_alloc (Below.refl _ _) _) hO4 (Nat.le_refl _)
  obtain ⟨g4, hg4⟩ : ∃ g4, g4 = w3.heap.size := ⟨_, rfl⟩
  rw [← hg4] at hB4 ⊢
  have e4 := bel_then (bel_then (bel_then hb1 hb2) hb3) e34
  have r1 := Kd.C_below (Kd.C_below (Kd.C_below hr1 hb2) hb3) e34
  have r2 := Kd.C_below (Kd.C_below hr2 hb3) e34
  clear hr1 hr2 hb1 hb2 hb3 e34 hO4 hg4
  refine (HV.out _).mono ?_
  rintro e w5 ⟨rfl, hb5⟩
  go_wp2_with ((with_reducible refine gate_op (.store 25 (.tmp 9) (.tmp 35)) rfl ?_); refine wpl_store_blk rfl 25 (.tmp 9) (.tmp 35) rfl _ rfl _ _ _ rfl (Blk.new _ _ _) 4 size25 (arrF_size _ _ _) (arrF_size _ _ _) (arrF_one _ _ _) ?_; intro w6 hO6 hB6)
  have e56 : Below w5.heap.size w5 w6 := Only.below (below_alloc (Below.refl _ _) _) hO6 (Nat.le_refl _)
  obtain ⟨g6, hg6⟩ : ∃ g6, g6 = w5.heap.size := ⟨_, rfl⟩
  rw [← hg6] at hB6 ⊢
  have e6 := bel_then (bel_then e4 hb5) e56
  have r3 := Kd.C_below (Kd.C_below r1 hb5) e56
  have r4 := Kd.C_below (Kd.C_below r2 hb5) e56
  have k6 := (hB4.below hb5).below e56
  clear e4 r1 r2 hb5 e56 hO6 hg6 hB4
  refine (fixed04 _).mono ?_
  rintro e w7 ⟨rfl, hb7⟩
  have e7 := bel_then e6 hb7
  have r5 := Kd.C_below r3 hb7
  have r6 := Kd.C_below r4 hb7
  have k7 := k6.below hb7
  have h7 := hB6.below hb7
  have v5 := conv_bytes (c := c1) r5
  have v6 := conv_bytes (c := c2) r6
  clear e6 r3 r4 k6 hB6 hb7
  go_wp2_with (first | ((with_reducible refine gate_op (.load 25 (.tmp 7)) rfl ?_); refine guard_on (by rfl) ?_; refine wpl_load_blk rfl 25 (.tmp 7) rfl _ rfl _ _ _ k7 Tryd.underlying25 rfl 4 size25 (arrF_size _ _ _) ?_) | ((with_reducible refine gate_op (.load 25 (.tmp 9)) rfl ?_); refine guard_on (by rfl) ?_; refine wpl_load_blk rfl 25 (.tmp 9) rfl _ rfl _ _ _ h7 Tryd.underlying25 rfl 4 size25 (arrF_size _ _ _) ?_) | (go_at_call 20; refine (HA.out _).mono ?_; rintro e w8 ⟨rfl, hb8⟩) | ((with_reducible refine gate_op (.store 40 (.tmp 11) (.tmp 64)) rfl ?_); refine wpl_store_blk rfl 40 (.tmp 11) (.tmp 64) rfl _ rfl _ _ _ rfl (Blk.new _ _ _) 20 size40 (arrF_size _ _ _) (arrF_size _ _ _) (arrF_one _ _ _) ?_; intro w9 hO9 hB9))
  have e89 : Below w8.heap.size w8 w9 := Only.below (below_alloc (Below.refl _ _) _) hO9 (Nat.le_refl _)
  obtain ⟨g9, hg9⟩ : ∃ g9, g9 = w8.heap.size := ⟨_, rfl⟩
  rw [← hg9] at hB9 ⊢
  have e9 := bel_then (bel_then e7 hb8) e89
  have r9 := Kd.C_below (Kd.C_below r6 hb8) e89
  have q9 := arr_reads hB9 (by decide)
  rw [HM.out] at q9
  clear e7 hb8 e89 r5 r6 k7 h7 v5 v6 hB9 hO9 hg9
  refine start_ (n := 10) (S := fun W => Below w.heap.size w W ∧ (Kd.int .u8).C W A2 l.length l ∧ (Kd.int .u8).C W (some ⟨g9, 0, none⟩) 20 l) (ds := []) #[false, false, false, false, false, false, false, false, false, false] (by kernel_rfl) rfl rfl ⟨bel_drew e9, r9, q9⟩ (fun hHeld => ?_)
  refine gen_last hHeld ?_
  clear hHeld
  intro wd hHeld
  refine pure_ (i := 0) (N := some 99) (v := ?_) (a' := ?_) #[true, false, false, false, false, false, false, false, false, false] rfl rfl (by kernel_rfl) (fun _ _ _ h => h) (Or.inl ⟨by rfl, ?_⟩) ?_ ?_
  rotate_left
  · intro w2
    (go_simp; (try go_bits); with_reducible rfl)
  rotate_left
  · simp only [Act.put, List.setIfInBounds_toArray, List.set_cons_zero, List.set_cons_succ, i64_w, i32_w]
    rfl
  refine pure_ (i := 1) (N := some 100) (v := ?_) (a' := ?_) #[true, true, false, false, false, false, false, false, false, false] rfl rfl (by kernel_rfl) (fun _ _ _ h => h) (Or.inl ⟨by rfl, ?_⟩) ?_ ?_
  rotate_left
  · intro w2
    (go_simp; (try go_bits); with_reducible rfl)
  rotate_left
  · simp only [Act.put, List.setIfInBounds_toArray, List.set_cons_zero, List.set_cons_succ, i64_w, i32_w]
    rfl
  refine pure_ (i := 2) (N := some 101) (v := ?_) (a' := ?_) #[true, true, true, false, false, false, false, false, false, false] rfl rfl (by kernel_rfl) (fun _ _ _ h => h) (Or.inl ⟨by rfl, ?_⟩) ?_ ?_
  rotate_left
  · intro w2
    (go_simp; (try go_bits); with_reducible rfl)
  rotate_left
  · simp only [Act.put, List.setIfInBounds_toArray, List.set_cons_zero, List.set_cons_succ, i64_w, i32_w]
    rfl
  refine pure_ (i := 3) (N := some 102) (v := ?_) (a' := ?_) #[true, true, true, true, false, false, false, false, false, false] rfl rfl (by kernel_rfl) (fun _ _ _ h => h) (Or.inl ⟨by rfl, ?_⟩) ?_ ?_
  rotate_left
  · intro w2
    (go_simp; (try go_bits); with_reducible rfl)
  rotate_left
  · simp only [Act.put, List.setIfInBounds_toArray, List.set_cons_zero, List.set_cons_succ, i64_w, i32_w]
    rfl
  refine pure_ (i := 5) (N := some 104) (v := ?_) (a' := ?_) #[true, true, true, true, false, true, false, false, false, false] rfl rfl (by kernel_rfl) (fun _ _ _ h => h) (Or.inl ⟨by rfl, ?_⟩) ?_ ?_
  rotate_left
  · intro w2
    (go_simp; (try go_bits); with_reducible rfl)
  rotate_left
  · simp only [Act.put, List.setIfInBounds_toArray, List.set_cons_zero, List.set_cons_succ, i64_w, i32_w]
    rfl
  refine take_ (i := 4) (N := some 103) (v := ?_) (a' := ?_) #[true, true, true, true, true, true, false, false, false, false] rfl rfl (by kernel_rfl) (fun _ _ _ h => h) (Or.inl ⟨by rfl, ?_⟩) hHeld ?_ ?_
  rotate_left
  · intro w2 hS2
    skip
    have c4 := conv_bytes (c := 20) hS2.2.2
    go_simp
    with_reducible rfl
  rotate_left
  · simp only [Act.put, List.setIfInBounds_toArray, List.set_cons_zero, List.set_cons_succ, i64_w, i32_w]
    rfl
  refine take_ (i := 6) (N := some 105) (v := ?_) (a' := ?_) #[true, true, true, true, true, true, true, false, false, false] rfl rfl (by kernel_rfl) (fun _ _ _ h => h) (Or.inl ⟨by rfl, ?_⟩) hHeld ?_ ?_
  rotate_left
  · intro w2 hS2
    skip
    have c6 := conv_bytes (c := c2) hS2.2.1
    go_simp
    with_reducible rfl
  rotate_left
  · simp only [Act.put, List.setIfInBounds_toArray, List.set_cons_zero, List.set_cons_succ, i64_w, i32_w]
    rfl
  refine pure_ (i := 7) (N := some 106) (v := ?_) (a' := ?_) #[true, true, true, true, true, true, true, true, false, false] rfl rfl (by kernel_rfl) (fun _ _ _ h => h) (Or.inl ⟨by rfl, ?_⟩) ?_ ?_
  rotate_left
  · intro w2
    (go_simp; (try go_bits); with_reducible rfl)
  rotate_left
  · simp only [Act.put, List.setIfInBounds_toArray, List.set_cons_zero, List.set_cons_succ, i64_w, i32_w]
    rfl
  refine pure_ (i := 8) (N := some 107) (v := ?_) (a' := ?_) #[true, true, true, true, true, true, true, true, true, false] rfl rfl (by kernel_rfl) (fun _ _ _ h => h) (Or.inl ⟨by rfl, ?_⟩) ?_ ?_
  rotate_left
  · intro w2
    (go_simp; (try go_bits); with_reducible rfl)
  rotate_left
  · simp only [Act.put, List.setIfInBounds_toArray, List.set_cons_zero, List.set_cons_succ, i64_w, i32_w]
    rfl
  refine pure_ (i := 9) (N := some 2) (v := ?_) (a' := ?_) #[true, true, true, true, true, true, true, true, true, true] rfl rfl (by kernel_rfl) (fun _ _ _ h => h) (Or.inl ⟨by rfl, ?_⟩) ?_ ?_
  rotate_left
  · intro w2
    (go_simp; (try go_bits); with_reducible rfl)
  rotate_left
  · simp only [Act.put, List.setIfInBounds_toArray, List.set_cons_zero, List.set_cons_succ, i64_w, i32_w]
    rfl
  refine done_ (by kernel_rfl) ?_
  go_wp2_with fail
  go_ret
  exact ⟨rfl, hHeld.1⟩
theorem hexReads_any (s : ByteArray) (w : World) :
    Calls Tryd.prog 4 #[.string s] w fun e w' => e = .returned (.bool true) ∧ Below w.heap.size w w' := by
  by_cases hn : s.size ≤ 3000
  · cases ho : bytesOfText (bytesOf s) with
    | none => exact hexReads_none s w hn ho
    | some l =>
      by_cases h1 : l.length < 20
      · exact hexReads_less s w hn l ho h1
      by_cases h2 : 20 < l.length
      · exact hexReads_more s w hn l ho h2
      exact hexReads_same s w hn l ho (by omega)
  · exact hexReads_long s w (by omega)
end Go.Proofs.YtibhijjmmagdcaaDoor
