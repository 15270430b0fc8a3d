/- smithyref11.Info. -/
import Derived.Test.YtibhijjmmagdcaaGreatDoorRefOps
namespace Go.Proofs.YtibhijjmmagdcaaGreatDoor
set_option linter.unusedVariables false
set_option linter.unusedSimpArgs false
open Go.RowKit Go.Proofs.YtibhijjmmagdcaaGreatDoorW.PrintWords Go.Proofs.YtibhijjmmagdcaaGreatDoorW.PrintLast
theorem dash_fin : ∀ r k : Fin 16, ((strOfNums ((namesF (r.val : Int)).getD k.val [])).toList == [45]) = decide ((namesF (r.val : Int)).getD k.val [] = [45]) := by decide +kernel
theorem nums_fin : ∀ r k : Fin 16, k.val < (namesF (r.val : Int)).length → 3 * k.val + 2 < (numsF (r.val : Int)).length ∧ 0 ≤ (numsF (r.val : Int)).getD (3 * k.val + 2) 0 ∧ (numsF (r.val : Int)).getD (3 * k.val + 2) 0 < 40000 := by decide +kernel
theorem strA_get {l : List (List Int)} {j : Nat} (h : j < l.length) : (strA l)[j]? = some (.string (strOfNums (l.getD j []))) := by
  simp [strA, List.getD, h]
theorem intA_get {l : List Int} {j : Nat} (h : j < l.length) : (intA l)[j]? = some (.int .i64 (l.getD j 0)) := by
  simp [intA, List.getD, h]
def rowA (nm : ByteArray) (a b g : Int) : Array Value := #[.string nm, .int .i64 a, .int .i64 b, .int .u64 g, .int .i64 0]
def RowS (w : World) (g1 g2 : Nat) (L : List (List Int)) (M : List Int) (W : World) : Prop :=
  Below w.heap.size w W ∧ Blk W w.heap.size #[.string ⟨#[]⟩, .int .i64 0, .int .i64 0, .int .u64 0, .int .i64 0] 41 ∧ Blk W g1 (strA L) 9 ∧ Blk W g2 (intA M) 3
theorem RowS.below {w W W1 : World} {g1 g2 : Nat} {L : List (List Int)} {M : List Int} (h : RowS w g1 g2 L M W) (hb : Below W.heap.size W W1) : RowS w g1 g2 L M W1 := ⟨bel_then h.1 hb, h.2.1.below hb, h.2.2.1.below hb, h.2.2.2.below hb⟩
theorem row_there {W : World} {g : Nat} {cs : Array Value} {t : Nat} (h : Blk W g cs t) {n : Nat} (hn : n ≤ cs.size) : W.there g 0 n := fun j hj => by
  have hlt : j < cs.size := by omega
  exact ⟨by rw [Nat.zero_add, h.cell, Array.getElem?_eq_getElem hlt]; rfl, by rw [Nat.zero_add]; exact h.frozen j⟩
set_option maxHeartbeats 4000000 in
set_option maxRecDepth 100000 in
theorem refinfo_any (c : Int) (w : World) (h0 : 0 ≤ c) (h1 : c < 256) :
    Calls Tryz.prog 19 #[.int .u8 c] w fun e w' => e = .returned (opR (refInfoF c)) ∧ Below w.heap.size w w' := by
  have f0 : Blk (w.alloc (.cells #[.string ⟨#[]⟩, .int .i64 0, .int .i64 0, .int .u64 0, .int .i64 0] 41)) w.heap.size #[.string ⟨#[]⟩, .int .i64 0, .int .i64 0, .int .u64 0, .int .i64 0] 41 := Blk.new _ _ _
  have F0 := Lib.hid f0
  clear f0
  have HS : Hid (∀ {W W1 : World}, Below (w.alloc (.cells #[.string ⟨#[]⟩, .int .i64 0, .int .i64 0, .int .u64 0, .int .i64 0] 41)).heap.size (w.alloc (.cells #[.string ⟨#[]⟩, .int .i64 0, .int .i64 0, .int .u64 0, .int .i64 0] 41)) W → Only W W1 w.heap.size → Below w.heap.size w W1) := fun hb hO => Only.below (bel_then (below_alloc (Below.refl _ _) _) hb) hO (Nat.le_refl _)
  obtain ⟨r, hr⟩ : ∃ r, c / 16 = r := ⟨_, rfl⟩
  obtain ⟨k, hk⟩ : ∃ k, c % 16 = k := ⟨_, rfl⟩
  have hk0 : 0 ≤ k := by omega
  have hk1 : k < 16 := by omega
  have hr0 : 0 ≤ r := by omega
  have hr1 : r < 16 := by omega
  have s4 := dec_size (c - 95) 4 (by omega)
  have s3 := dec_size (k + 1) 3 (by omega)
  have t4 := dec_size (k + 1) 4 (by omega)
  have t3 := dec_size k 3 (by omega)
  have HF : Hid (refInfoF c = if r = 6 ∨ r = 7 then some ([80, 85, 83, 72] ++ decL (c - 95), 0, 1, 3, c - 95) else
    if r = 8 then some ([68, 85, 80] ++ decL (k + 1), k + 1, k + 2, 3, 0) else
    if r = 9 then some ([83, 87, 65, 80] ++ decL (k + 1), k + 2, k + 2, 3, 0) else
    if r = 10 ∧ k < 5 then some ([76, 79, 71] ++ decL k, k + 2, 0, 375 * (k + 1), 0) else
    rowF r k) := by rw [Hid, refInfoF, hr, hk]
  by_cases h6 : r = 6
  · have HN : Hid (refInfoF c = some ([80, 85, 83, 72] ++ decL (c - 95), 0, 1, 3, c - 95)) := by rw [Hid, HF.out, if_pos (.inl h6)]
    subst h6
    clear HF
    go_enter Tryz.func19, Tryz.ntmps19
    go_wp2_with (first | (go_at_call 46; refine (decimal_any _ _ (by omega) (by omega)).mono ?_; rintro e w1 ⟨rfl, hb1⟩) | ((with_reducible refine gate_op (.store 41 (.tmp 2) (.tmp 26)) rfl ?_); refine wpl_store_blk rfl 41 (.tmp 2) (.tmp 26) rfl _ rfl _ _ _ rfl (F0.out.below hb1) 5 size51 rfl rfl (by simp [opA, Value.oneCell']) ?_; intro W hO hB))
    refine ret_blk2 Tryz.results19 _ _ _ _ rfl hB Tryz.underlying41 rfl 5 size51 rfl rfl ⟨?_, HS.out hb1 hO⟩
    rw [HN.out, opR, str_add (s := ⟨#[80, 85, 83, 72]⟩) (p := [80, 85, 83, 72]) rfl]
    rfl
  by_cases h7 : r = 7
  · have HN : Hid (refInfoF c = some ([80, 85, 83, 72] ++ decL (c - 95), 0, 1, 3, c - 95)) := by rw [Hid, HF.out, if_pos (.inr h7)]
    subst h7
    clear HF
    go_enter Tryz.func19, Tryz.ntmps19
    go_wp2_with (first | (go_at_call 46; refine (decimal_any _ _ (by omega) (by omega)).mono ?_; rintro e w1 ⟨rfl, hb1⟩) | ((with_reducible refine gate_op (.store 41 (.tmp 2) (.tmp 26)) rfl ?_); refine wpl_store_blk rfl 41 (.tmp 2) (.tmp 26) rfl _ rfl _ _ _ rfl (F0.out.below hb1) 5 size51 rfl rfl (by simp [opA, Value.oneCell']) ?_; intro W hO hB))
    refine ret_blk2 Tryz.results19 _ _ _ _ rfl hB Tryz.underlying41 rfl 5 size51 rfl rfl ⟨?_, HS.out hb1 hO⟩
    rw [HN.out, opR, str_add (s := ⟨#[80, 85, 83, 72]⟩) (p := [80, 85, 83, 72]) rfl]
    rfl
  by_cases h8 : r = 8
  · have HN : Hid (refInfoF c = some ([68, 85, 80] ++ decL (k + 1), k + 1, k + 2, 3, 0)) := by rw [Hid, HF.out, if_neg (by omega), if_pos h8]
    subst h8
    clear HF
    go_enter Tryz.func19, Tryz.ntmps19
    go_wp2_with (first | (go_at_call 46; refine (decimal_any _ _ (by omega) (by omega)).mono ?_; rintro e w1 ⟨rfl, hb1⟩) | ((with_reducible refine gate_op (.store 41 (.tmp 2) (.tmp 37)) rfl ?_); refine wpl_store_blk rfl 41 (.tmp 2) (.tmp 37) rfl _ rfl _ _ _ rfl (F0.out.below hb1) 5 size51 rfl rfl (by simp [opA, Value.oneCell']) ?_; intro W hO hB))
    refine ret_blk2 Tryz.results19 _ _ _ _ rfl hB Tryz.underlying41 rfl 5 size51 rfl rfl ⟨?_, HS.out hb1 hO⟩
    rw [HN.out, opR, str_add (s := ⟨#[68, 85, 80]⟩) (p := [68, 85, 80]) rfl]
    rfl
  by_cases h9 : r = 9
  · have HN : Hid (refInfoF c = some ([83, 87, 65, 80] ++ decL (k + 1), k + 2, k + 2, 3, 0)) := by rw [Hid, HF.out, if_neg (by omega), if_neg (by omega), if_pos h9]
    subst h9
    clear HF
    go_enter Tryz.func19, Tryz.ntmps19
    go_wp2_with (first | (go_at_call 46; refine (decimal_any _ _ (by omega) (by omega)).mono ?_; rintro e w1 ⟨rfl, hb1⟩) | ((with_reducible refine gate_op (.store 41 (.tmp 2) (.tmp 48)) rfl ?_); refine wpl_store_blk rfl 41 (.tmp 2) (.tmp 48) rfl _ rfl _ _ _ rfl (F0.out.below hb1) 5 size51 rfl rfl (by simp [opA, Value.oneCell']) ?_; intro W hO hB))
    refine ret_blk2 Tryz.results19 _ _ _ _ rfl hB Tryz.underlying41 rfl 5 size51 rfl rfl ⟨?_, HS.out hb1 hO⟩
    rw [HN.out, opR, str_add (s := ⟨#[83, 87, 65, 80]⟩) (p := [83, 87, 65, 80]) rfl]
    rfl
  by_cases hl : r = 10 ∧ k < 5
  · have HN : Hid (refInfoF c = some ([76, 79, 71] ++ decL k, k + 2, 0, 375 * (k + 1), 0)) := by rw [Hid, HF.out, if_neg (by omega), if_neg (by omega), if_neg (by omega), if_pos hl]
    obtain ⟨rfl, h5⟩ := hl
    clear HF
    go_enter Tryz.func19, Tryz.ntmps19
    go_wp2_with (first | (go_at_call 46; refine (decimal_any _ _ (by omega) (by omega)).mono ?_; rintro e w1 ⟨rfl, hb1⟩) | ((with_reducible refine gate_op (.store 41 (.tmp 2) (.tmp 62)) rfl ?_); refine wpl_store_blk rfl 41 (.tmp 2) (.tmp 62) rfl _ rfl _ _ _ rfl (F0.out.below hb1) 5 size51 rfl rfl (by simp [opA, Value.oneCell']) ?_; intro W hO hB))
    refine ret_blk2 Tryz.results19 _ _ _ _ rfl hB Tryz.underlying41 rfl 5 size51 rfl rfl ⟨?_, HS.out hb1 hO⟩
    rw [HN.out, opR, str_add (s := ⟨#[76, 79, 71]⟩) (p := [76, 79, 71]) rfl]
    rfl
  obtain ⟨j, rfl⟩ : ∃ j : Nat, k = j := ⟨k.toNat, by omega⟩
  obtain ⟨q, rfl⟩ : ∃ q : Nat, r = q := ⟨r.toNat, by omega⟩
  have HN : Hid (refInfoF c = rowF q j) := by rw [Hid, HF.out, if_neg (by omega), if_neg h8, if_neg h9, if_neg hl]
  have hdash := dash_fin ⟨q, by omega⟩ ⟨j, by omega⟩
  have hnum := nums_fin ⟨q, by omega⟩ ⟨j, by omega⟩
  have HNm := Lib.hid fun W => names_any (q : Int) W hr0 hr1
  have HNu := Lib.hid fun W => numbers_any (q : Int) W hr0 hr1
  simp only at hdash hnum
  rw [rowF, Int.toNat_natCast] at HN
  generalize namesF q = L at *
  generalize numsF q = M at *
  clear HF
  have e6 : ((q : Int) == 6) = false := by simpa using h6
  have e7 : ((q : Int) == 7) = false := by simpa using h7
  have e8 : ((q : Int) == 8) = false := by simpa using h8
  have e9 : ((q : Int) == 9) = false := by simpa using h9
  have e10 : ((q : Int) == 10) = false ∨ ((q : Int) == 10) = true ∧ ¬ (j : Int) < 5 := by
    by_cases h : (q : Int) = 10
    · exact .inr ⟨by simpa using h, fun h5 => hl ⟨h, h5⟩⟩
    · exact .inl (by simpa using h)
  clear h6 h7 h8 h9 hl s4 s3 t4 t3
  have hL : L.length ≤ 16 ∨ True := .inr trivial
  clear hL
  by_cases hle : L.length ≤ j
  · have hv : Hid (refInfoF c = none) := by rw [Hid, HN.out, if_pos (.inl hle)]
    have hle' : (L.length : Int) ≤ (j : Int) := by omega
    clear hdash hnum HN hle
    rcases e10 with e10 | ⟨e10, e5⟩
    all_goals
      go_enter Tryz.func19, Tryz.ntmps19
      go_wp2_with (first | (go_at_call 47; refine (HNm.out _).mono ?_; rintro e w1 ⟨g1, rfl, hB1, hb1⟩) | ((with_reducible refine gate_op (.store 41 (.tmp 2) (.tmp 76)) rfl ?_); refine wpl_store_blk rfl 41 (.tmp 2) (.tmp 76) rfl _ rfl _ _ _ rfl (F0.out.below hb1) 5 size51 rfl rfl (by simp [opA, Value.oneCell']) ?_; intro W hO hB))
      refine ret_blk2 Tryz.results19 _ _ _ _ rfl hB Tryz.underlying41 rfl 5 size51 rfl rfl ⟨by rw [hv.out]; rfl, HS.out hb1 hO⟩
  have hlt : j < L.length := by omega
  have hlt' : ¬ (L.length : Int) ≤ (j : Int) := by omega
  have HG : Hid ((strA L)[j]? = some (.string (strOfNums (L.getD j [])))) := strA_get hlt
  obtain ⟨s, hs⟩ : ∃ s, s = strOfNums (L.getD j []) := ⟨_, rfl⟩
  rw [← hs] at hdash HG
  have HSS := Lib.hid hs
  clear hs
  obtain ⟨hn1, hn2, hn3⟩ := hnum hlt
  clear hnum
  have p1 : (j : Int) < (L.length : Int) := by omega
  by_cases hd : L.getD j [] = [45]
  · have hv : Hid (refInfoF c = none) := by rw [Hid, HN.out, if_pos (.inr hd)]
    rw [decide_eq_true hd] at hdash
    clear HN hd hlt hn1 hn2 hn3
    rcases e10 with e10 | ⟨e10, e5⟩
    all_goals
      go_enter Tryz.func19, Tryz.ntmps19
      go_wp2_with (first | ((go_at_call 47; refine (HNm.out _).mono ?_; rintro e w1 ⟨g1, rfl, hB1, hb1⟩); have cc := (hB1.cell j).trans HG.out) | ((with_reducible refine gate_op (.store 41 (.tmp 2) (.tmp 76)) rfl ?_); refine wpl_store_blk rfl 41 (.tmp 2) (.tmp 76) rfl _ rfl _ _ _ rfl (F0.out.below hb1) 5 size51 rfl rfl (by simp [opA, Value.oneCell']) ?_; intro W hO hB))
      refine ret_blk2 Tryz.results19 _ _ _ _ rfl hB Tryz.underlying41 rfl 5 size51 rfl rfl ⟨by rw [hv.out]; rfl, HS.out hb1 hO⟩
  have hv : Hid (refInfoF c = some (L.getD j [], M.getD (3 * j) 0, M.getD (3 * j + 1) 0, M.getD (3 * j + 2) 0, 0)) := by rw [Hid, HN.out, if_neg (fun h => h.elim (fun a => absurd a (by omega)) hd)]
  rw [decide_eq_false hd] at hdash
  have m0 : Hid ((intA M)[3 * j]? = some (.int .i64 (M.getD (3 * j) 0))) := intA_get (by omega)
  have m1 : Hid ((intA M)[3 * j + 1]? = some (.int .i64 (M.getD (3 * j + 1) 0))) := intA_get (by omega)
  have m2 : Hid ((intA M)[3 * j + 2]? = some (.int .i64 (M.getD (3 * j + 2) 0))) := intA_get (by omega)
  obtain ⟨x, hx⟩ : ∃ x, x = M.getD (3 * j) 0 := ⟨_, rfl⟩
  obtain ⟨y, hy⟩ : ∃ y, y = M.getD (3 * j + 1) 0 := ⟨_, rfl⟩
  obtain ⟨z, hz⟩ : ∃ z, z = M.getD (3 * j + 2) 0 := ⟨_, rfl⟩
  rw [← hx] at m0 hv
  rw [← hy] at m1 hv
  rw [← hz] at m2 hv hn2 hn3
  have b0 : 3 * (j : Int) < (M.length : Int) := by omega
  have b1 : 3 * (j : Int) + 1 < (M.length : Int) := by omega
  have b2 : 3 * (j : Int) + 2 < (M.length : Int) := by omega
  have hj : (j : Int) < 16 := hk1
  have n0 : (0 : Int) ≤ 3 * (j : Int) := by omega
  have n1 : (0 : Int) ≤ 3 * (j : Int) + 1 := by omega
  have n2 : (0 : Int) ≤ 3 * (j : Int) + 2 := by omega
  clear hx hy hz hd hlt hn1 HN
  rcases e10 with e10 | ⟨e10, e5⟩
  · go_enter Tryz.func19, Tryz.ntmps19
    go_wp2_with (first | ((go_at_call 47; refine (HNm.out _).mono ?_; rintro e w1 ⟨g1, rfl, hB1, hb1⟩); have cc := (hB1.cell j).trans HG.out) | (go_at_call 48; refine (HNu.out _).mono ?_; rintro e w2 ⟨g2, rfl, hB2, hb2⟩))
    have hS : RowS w g1 g2 L M w2 := ⟨bel_then (bel_then (below_alloc (Below.refl _ _) _) hb1) hb2, (F0.out.below hb1).below hb2, hB1.below hb2, hB2⟩
    clear cc hB1 hB2 hb1 hb2
    refine start_ (n := 25) (S := RowS w g1 g2 L M) (ds := [23]) #[false, false, false, false, false, false, false, false, false, false, false, false, false, false, false, false, false, false, false, false, false, false, false, false, false] (by kernel_rfl) rfl rfl (hS.below (bel_drew (Below.refl _ _))) (fun hHeld => ?_)
    refine gen_last hHeld ?_
    clear hHeld
    intro wd hHeld
    refine pure_ (i := 0) (N := some 79) (v := ?_) (a' := ?_) #[true, false, false, false, false, false, false, false, false, false, false, false, false, false, false, false, false, false, false, false, false, false, false, false, false] rfl rfl (by kernel_rfl) (fun _ _ _ h => h) (Or.inl ⟨by rfl, ?_⟩) ?_ ?_
    rotate_left
    · intro w2
      (go_simp; (try go_bits); with_reducible rfl)
    rotate_left
    · simp only [Act.put, List.setIfInBounds_toArray, List.set_cons_zero, List.set_cons_succ, i64_w, i32_w]
      rfl
    refine pure_ (i := 1) (N := some 80) (v := ?_) (a' := ?_) #[true, true, false, false, false, false, false, false, false, false, false, false, false, false, false, false, false, false, false, false, false, false, false, false, false] rfl rfl (by kernel_rfl) (fun _ _ _ h => h) (Or.inl ⟨by rfl, ?_⟩) ?_ ?_
    rotate_left
    · intro w2
      (go_simp; (try go_bits); with_reducible rfl)
    rotate_left
    · simp only [Act.put, List.setIfInBounds_toArray, List.set_cons_zero, List.set_cons_succ, i64_w, i32_w]
      rfl
    refine pure_ (i := 2) (N := some 81) (v := ?_) (a' := ?_) #[true, true, true, false, false, false, false, false, false, false, false, false, false, false, false, false, false, false, false, false, false, false, false, false, false] rfl rfl (by kernel_rfl) (fun _ _ _ h => h) (Or.inl ⟨by rfl, ?_⟩) ?_ ?_
    rotate_left
    · intro w2
      (go_simp; (try go_bits); with_reducible rfl)
    rotate_left
    · simp only [Act.put, List.setIfInBounds_toArray, List.set_cons_zero, List.set_cons_succ, i64_w, i32_w]
      rfl
    refine pure_ (i := 4) (N := some 83) (v := ?_) (a' := ?_) #[true, true, true, false, true, false, false, false, false, false, false, false, false, false, false, false, false, false, false, false, false, false, false, false, false] rfl rfl (by kernel_rfl) (fun _ _ _ h => h) (Or.inl ⟨by rfl, ?_⟩) ?_ ?_
    rotate_left
    · intro w2
      (go_simp; (try go_bits); with_reducible rfl)
    rotate_left
    · simp only [Act.put, List.setIfInBounds_toArray, List.set_cons_zero, List.set_cons_succ, i64_w, i32_w]
      rfl
    refine pure_ (i := 5) (N := some 84) (v := ?_) (a' := ?_) #[true, true, true, false, true, true, false, false, false, false, false, false, false, false, false, false, false, false, false, false, false, false, false, false, false] rfl rfl (by kernel_rfl) (fun _ _ _ h => h) (Or.inl ⟨by rfl, ?_⟩) ?_ ?_
    rotate_left
    · intro w2
      (go_simp; (try go_bits); with_reducible rfl)
    rotate_left
    · simp only [Act.put, List.setIfInBounds_toArray, List.set_cons_zero, List.set_cons_succ, i64_w, i32_w]
      rfl
    refine pure_ (i := 6) (N := some 85) (v := ?_) (a' := ?_) #[true, true, true, false, true, true, true, false, false, false, false, false, false, false, false, false, false, false, false, false, false, false, false, false, false] rfl rfl (by kernel_rfl) (fun _ _ _ h => h) (Or.inl ⟨by rfl, ?_⟩) ?_ ?_
    rotate_left
    · intro w2
      (go_simp; (try go_bits); with_reducible rfl)
    rotate_left
    · simp only [Act.put, List.setIfInBounds_toArray, List.set_cons_zero, List.set_cons_succ, i64_w, i32_w]
      rfl
    refine pure_ (i := 7) (N := some 86) (v := ?_) (a' := ?_) #[true, true, true, false, true, true, true, true, false, false, false, false, false, false, false, false, false, false, false, false, false, false, false, false, false] rfl rfl (by kernel_rfl) (fun _ _ _ h => h) (Or.inl ⟨by rfl, ?_⟩) ?_ ?_
    rotate_left
    · intro w2
      (go_simp; (try go_bits); with_reducible rfl)
    rotate_left
    · simp only [Act.put, List.setIfInBounds_toArray, List.set_cons_zero, List.set_cons_succ, i64_w, i32_w]
      rfl
    refine pure_ (i := 9) (N := some 88) (v := ?_) (a' := ?_) #[true, true, true, false, true, true, true, true, false, true, false, false, false, false, false, false, false, false, false, false, false, false, false, false, false] rfl rfl (by kernel_rfl) (fun _ _ _ h => h) (Or.inl ⟨by rfl, ?_⟩) ?_ ?_
    rotate_left
    · intro w2
      (go_simp; (try go_bits); with_reducible rfl)
    rotate_left
    · simp only [Act.put, List.setIfInBounds_toArray, List.set_cons_zero, List.set_cons_succ, i64_w, i32_w]
      rfl
    refine pure_ (i := 10) (N := some 89) (v := ?_) (a' := ?_) #[true, true, true, false, true, true, true, true, false, true, true, false, false, false, false, false, false, false, false, false, false, false, false, false, false] rfl rfl (by kernel_rfl) (fun _ _ _ h => h) (Or.inl ⟨by rfl, ?_⟩) ?_ ?_
    rotate_left
    · intro w2
      (go_simp; (try go_bits); with_reducible rfl)
    rotate_left
    · simp only [Act.put, List.setIfInBounds_toArray, List.set_cons_zero, List.set_cons_succ, i64_w, i32_w]
      rfl
    refine pure_ (i := 11) (N := some 90) (v := ?_) (a' := ?_) #[true, true, true, false, true, true, true, true, false, true, true, true, false, false, false, false, false, false, false, false, false, false, false, false, false] rfl rfl (by kernel_rfl) (fun _ _ _ h => h) (Or.inl ⟨by rfl, ?_⟩) ?_ ?_
    rotate_left
    · intro w2
      (go_simp; (try go_bits); with_reducible rfl)
    rotate_left
    · simp only [Act.put, List.setIfInBounds_toArray, List.set_cons_zero, List.set_cons_succ, i64_w, i32_w]
      rfl
    refine pure_ (i := 12) (N := some 91) (v := ?_) (a' := ?_) #[true, true, true, false, true, true, true, true, false, true, true, true, true, false, false, false, false, false, false, false, false, false, false, false, false] rfl rfl (by kernel_rfl) (fun _ _ _ h => h) (Or.inl ⟨by rfl, ?_⟩) ?_ ?_
    rotate_left
    · intro w2
      (go_simp; (try go_bits); with_reducible rfl)
    rotate_left
    · simp only [Act.put, List.setIfInBounds_toArray, List.set_cons_zero, List.set_cons_succ, i64_w, i32_w]
      rfl
    refine pure_ (i := 13) (N := some 92) (v := ?_) (a' := ?_) #[true, true, true, false, true, true, true, true, false, true, true, true, true, true, false, false, false, false, false, false, false, false, false, false, false] rfl rfl (by kernel_rfl) (fun _ _ _ h => h) (Or.inl ⟨by rfl, ?_⟩) ?_ ?_
    rotate_left
    · intro w2
      (go_simp; (try go_bits); with_reducible rfl)
    rotate_left
    · simp only [Act.put, List.setIfInBounds_toArray, List.set_cons_zero, List.set_cons_succ, i64_w, i32_w]
      rfl
    refine pure_ (i := 15) (N := some 94) (v := ?_) (a' := ?_) #[true, true, true, false, true, true, true, true, false, true, true, true, true, true, false, true, false, false, false, false, false, false, false, false, false] rfl rfl (by kernel_rfl) (fun _ _ _ h => h) (Or.inl ⟨by rfl, ?_⟩) ?_ ?_
    rotate_left
    · intro w2
      (go_simp; (try go_bits); with_reducible rfl)
    rotate_left
    · simp only [Act.put, List.setIfInBounds_toArray, List.set_cons_zero, List.set_cons_succ, i64_w, i32_w]
      rfl
    refine pure_ (i := 16) (N := some 95) (v := ?_) (a' := ?_) #[true, true, true, false, true, true, true, true, false, true, true, true, true, true, false, true, true, false, false, false, false, false, false, false, false] rfl rfl (by kernel_rfl) (fun _ _ _ h => h) (Or.inl ⟨by rfl, ?_⟩) ?_ ?_
    rotate_left
    · intro w2
      (go_simp; (try go_bits); with_reducible rfl)
    rotate_left
    · simp only [Act.put, List.setIfInBounds_toArray, List.set_cons_zero, List.set_cons_succ, i64_w, i32_w]
      rfl
    refine pure_ (i := 17) (N := some 96) (v := ?_) (a' := ?_) #[true, true, true, false, true, true, true, true, false, true, true, true, true, true, false, true, true, true, false, false, false, false, false, false, false] rfl rfl (by kernel_rfl) (fun _ _ _ h => h) (Or.inl ⟨by rfl, ?_⟩) ?_ ?_
    rotate_left
    · intro w2
      (go_simp; (try go_bits); with_reducible rfl)
    rotate_left
    · simp only [Act.put, List.setIfInBounds_toArray, List.set_cons_zero, List.set_cons_succ, i64_w, i32_w]
      rfl
    refine pure_ (i := 18) (N := some 97) (v := ?_) (a' := ?_) #[true, true, true, false, true, true, true, true, false, true, true, true, true, true, false, true, true, true, true, false, false, false, false, false, false] rfl rfl (by kernel_rfl) (fun _ _ _ h => h) (Or.inl ⟨by rfl, ?_⟩) ?_ ?_
    rotate_left
    · intro w2
      (go_simp; (try go_bits); with_reducible rfl)
    rotate_left
    · simp only [Act.put, List.setIfInBounds_toArray, List.set_cons_zero, List.set_cons_succ, i64_w, i32_w]
      rfl
    refine pure_ (i := 19) (N := some 98) (v := ?_) (a' := ?_) #[true, true, true, false, true, true, true, true, false, true, true, true, true, true, false, true, true, true, true, true, false, false, false, false, false] rfl rfl (by kernel_rfl) (fun _ _ _ h => h) (Or.inl ⟨by rfl, ?_⟩) ?_ ?_
    rotate_left
    · intro w2
      (go_simp; (try go_bits); with_reducible rfl)
    rotate_left
    · simp only [Act.put, List.setIfInBounds_toArray, List.set_cons_zero, List.set_cons_succ, i64_w, i32_w]
      rfl
    refine take_ (i := 3) (N := some 82) (v := ?_) (a' := ?_) #[true, true, true, true, true, true, true, true, false, true, true, true, true, true, false, true, true, true, true, true, false, false, false, false, false] rfl rfl (by kernel_rfl) (fun _ _ _ h => h) (Or.inl ⟨by rfl, ?_⟩) hHeld ?_ ?_
    rotate_left
    · intro w2 hS2
      have c1 := (hS2.2.2.1.cell j).trans HG.out
      have c2 := (hS2.2.2.2.cell (3 * j)).trans m0.out
      have c3 := (hS2.2.2.2.cell (3 * j + 1)).trans m1.out
      have c4 := (hS2.2.2.2.cell (3 * j + 2)).trans m2.out
      (go_simp; (try go_bits); with_reducible rfl)
    rotate_left
    · simp only [Act.put, List.setIfInBounds_toArray, List.set_cons_zero, List.set_cons_succ, i64_w, i32_w]
      rfl
    refine take_ (i := 8) (N := some 87) (v := ?_) (a' := ?_) #[true, true, true, true, true, true, true, true, true, true, true, true, true, true, false, true, true, true, true, true, false, false, false, false, false] rfl rfl (by kernel_rfl) (fun _ _ _ h => h) (Or.inl ⟨by rfl, ?_⟩) hHeld ?_ ?_
    rotate_left
    · intro w2 hS2
      have c1 := (hS2.2.2.1.cell j).trans HG.out
      have c2 := (hS2.2.2.2.cell (3 * j)).trans m0.out
      have c3 := (hS2.2.2.2.cell (3 * j + 1)).trans m1.out
      have c4 := (hS2.2.2.2.cell (3 * j + 2)).trans m2.out
      (go_simp; (try go_bits); with_reducible rfl)
    rotate_left
    · simp only [Act.put, List.setIfInBounds_toArray, List.set_cons_zero, List.set_cons_succ, i64_w, i32_w]
      rfl
    refine take_ (i := 14) (N := some 93) (v := ?_) (a' := ?_) #[true, true, true, true, true, true, true, true, true, true, true, true, true, true, true, true, true, true, true, true, false, false, false, false, false] rfl rfl (by kernel_rfl) (fun _ _ _ h => h) (Or.inl ⟨by rfl, ?_⟩) hHeld ?_ ?_
    rotate_left
    · intro w2 hS2
      have c1 := (hS2.2.2.1.cell j).trans HG.out
      have c2 := (hS2.2.2.2.cell (3 * j)).trans m0.out
      have c3 := (hS2.2.2.2.cell (3 * j + 1)).trans m1.out
      have c4 := (hS2.2.2.2.cell (3 * j + 2)).trans m2.out
      (go_simp; (try go_bits); with_reducible rfl)
    rotate_left
    · simp only [Act.put, List.setIfInBounds_toArray, List.set_cons_zero, List.set_cons_succ, i64_w, i32_w]
      rfl
    refine take_ (i := 20) (N := some 99) (v := ?_) (a' := ?_) #[true, true, true, true, true, true, true, true, true, true, true, true, true, true, true, true, true, true, true, true, true, false, false, false, false] rfl rfl (by kernel_rfl) (fun _ _ _ h => h) (Or.inl ⟨by rfl, ?_⟩) hHeld ?_ ?_
    rotate_left
    · intro w2 hS2
      have c1 := (hS2.2.2.1.cell j).trans HG.out
      have c2 := (hS2.2.2.2.cell (3 * j)).trans m0.out
      have c3 := (hS2.2.2.2.cell (3 * j + 1)).trans m1.out
      have c4 := (hS2.2.2.2.cell (3 * j + 2)).trans m2.out
      (go_simp; (try go_bits); with_reducible rfl)
    rotate_left
    · simp only [Act.put, List.setIfInBounds_toArray, List.set_cons_zero, List.set_cons_succ, i64_w, i32_w]
      rfl
    refine pure_ (i := 21) (N := some 100) (v := ?_) (a' := ?_) #[true, true, true, true, true, true, true, true, true, true, true, true, true, true, true, true, true, true, true, true, true, true, false, false, false] rfl rfl (by kernel_rfl) (fun _ _ _ h => h) (Or.inl ⟨by rfl, ?_⟩) ?_ ?_
    rotate_left
    · intro w2
      (go_simp; (try go_bits); with_reducible rfl)
    rotate_left
    · simp only [Act.put, List.setIfInBounds_toArray, List.set_cons_zero, List.set_cons_succ, i64_w, i32_w]
      rfl
    refine pure_ (i := 22) (N := some 101) (v := ?_) (a' := ?_) #[true, true, true, true, true, true, true, true, true, true, true, true, true, true, true, true, true, true, true, true, true, true, true, false, false] rfl rfl (by kernel_rfl) (fun _ _ _ h => h) (Or.inl ⟨by rfl, ?_⟩) ?_ ?_
    rotate_left
    · intro w2
      (go_simp; (try go_bits); with_reducible rfl)
    rotate_left
    · simp only [Act.put, List.setIfInBounds_toArray, List.set_cons_zero, List.set_cons_succ, i64_w, i32_w]
      rfl
    refine last_ (i := 23) (N := none) #[true, true, true, true, true, true, true, true, true, true, true, true, true, true, true, true, true, true, true, true, true, true, true, true, false] rfl rfl (by kernel_rfl) (by decide) (fun K hK => ?_)
    refine ifw rfl ?_
    refine wp_store_mid 41 (.tmp 2) (.tmp 101) rfl w.heap.size 0 _ rfl rfl (row_there hHeld.2.1 (Nat.le_refl 5)) size51 (by simp [Value.oneCell']) ?_
    refine hK.out _ _ ?_
    clear hK K
    refine norm_ (a' := ?_) ?_ ?_
    rotate_left
    · first | rfl | (simp only [Act.put, List.setIfInBounds_toArray, List.set_cons_zero, List.set_cons_succ, i64_w, i32_w]; rfl)
    refine pure_ (i := 24) (N := some 3) (v := ?_) (a' := ?_) #[true, true, true, true, true, true, true, true, true, true, true, true, true, true, true, true, true, true, true, true, true, true, true, true, true] rfl rfl (by kernel_rfl) (fun _ _ _ h => h) (Or.inl ⟨by rfl, ?_⟩) ?_ ?_
    rotate_left
    · intro w2
      (go_simp; (try go_bits); with_reducible rfl)
    rotate_left
    · simp only [Act.put, List.setIfInBounds_toArray, List.set_cons_zero, List.set_cons_succ, i64_w, i32_w]
      rfl
    refine done_ (by kernel_rfl) ?_
    obtain ⟨hO, hB⟩ := setCells_only w.heap.size [.string s, .int .i64 x, .int .i64 y, .int .u64 z, .int .i64 0] wd _ _ 0 hHeld.2.1 rfl
    go_wp2_with fail
    refine ret_blk2 Tryz.results19 _ _ _ _ rfl hB Tryz.underlying41 rfl 5 size51 rfl rfl ⟨?_, Only.below hHeld.1 hO (Nat.le_refl _)⟩
    rw [hv.out, opR]
    simp only [opA, Option.getD_some, Option.isSome_some, ← HSS.out]
    rfl
  · go_enter Tryz.func19, Tryz.ntmps19
    go_wp2_with (first | ((go_at_call 47; refine (HNm.out _).mono ?_; rintro e w1 ⟨g1, rfl, hB1, hb1⟩); have cc := (hB1.cell j).trans HG.out) | (go_at_call 48; refine (HNu.out _).mono ?_; rintro e w2 ⟨g2, rfl, hB2, hb2⟩))
    have hS : RowS w g1 g2 L M w2 := ⟨bel_then (bel_then (below_alloc (Below.refl _ _) _) hb1) hb2, (F0.out.below hb1).below hb2, hB1.below hb2, hB2⟩
    clear cc hB1 hB2 hb1 hb2
    refine start_ (n := 25) (S := RowS w g1 g2 L M) (ds := [23]) #[false, false, false, false, false, false, false, false, false, false, false, false, false, false, false, false, false, false, false, false, false, false, false, false, false] (by kernel_rfl) rfl rfl (hS.below (bel_drew (Below.refl _ _))) (fun hHeld => ?_)
    refine gen_last hHeld ?_
    clear hHeld
    intro wd hHeld
    refine pure_ (i := 0) (N := some 79) (v := ?_) (a' := ?_) #[true, false, false, false, false, false, false, false, false, false, false, false, false, false, false, false, false, false, false, false, false, false, false, false, false] rfl rfl (by kernel_rfl) (fun _ _ _ h => h) (Or.inl ⟨by rfl, ?_⟩) ?_ ?_
    rotate_left
    · intro w2
      (go_simp; (try go_bits); with_reducible rfl)
    rotate_left
    · simp only [Act.put, List.setIfInBounds_toArray, List.set_cons_zero, List.set_cons_succ, i64_w, i32_w]
      rfl
    refine pure_ (i := 1) (N := some 80) (v := ?_) (a' := ?_) #[true, true, false, false, false, false, false, false, false, false, false, false, false, false, false, false, false, false, false, false, false, false, false, false, false] rfl rfl (by kernel_rfl) (fun _ _ _ h => h) (Or.inl ⟨by rfl, ?_⟩) ?_ ?_
    rotate_left
    · intro w2
      (go_simp; (try go_bits); with_reducible rfl)
    rotate_left
    · simp only [Act.put, List.setIfInBounds_toArray, List.set_cons_zero, List.set_cons_succ, i64_w, i32_w]
      rfl
    refine pure_ (i := 2) (N := some 81) (v := ?_) (a' := ?_) #[true, true, true, false, false, false, false, false, false, false, false, false, false, false, false, false, false, false, false, false, false, false, false, false, false] rfl rfl (by kernel_rfl) (fun _ _ _ h => h) (Or.inl ⟨by rfl, ?_⟩) ?_ ?_
    rotate_left
    · intro w2
      (go_simp; (try go_bits); with_reducible rfl)
    rotate_left
    · simp only [Act.put, List.setIfInBounds_toArray, List.set_cons_zero, List.set_cons_succ, i64_w, i32_w]
      rfl
    refine pure_ (i := 4) (N := some 83) (v := ?_) (a' := ?_) #[true, true, true, false, true, false, false, false, false, false, false, false, false, false, false, false, false, false, false, false, false, false, false, false, false] rfl rfl (by kernel_rfl) (fun _ _ _ h => h) (Or.inl ⟨by rfl, ?_⟩) ?_ ?_
    rotate_left
    · intro w2
      (go_simp; (try go_bits); with_reducible rfl)
    rotate_left
    · simp only [Act.put, List.setIfInBounds_toArray, List.set_cons_zero, List.set_cons_succ, i64_w, i32_w]
      rfl
    refine pure_ (i := 5) (N := some 84) (v := ?_) (a' := ?_) #[true, true, true, false, true, true, false, false, false, false, false, false, false, false, false, false, false, false, false, false, false, false, false, false, false] rfl rfl (by kernel_rfl) (fun _ _ _ h => h) (Or.inl ⟨by rfl, ?_⟩) ?_ ?_
    rotate_left
    · intro w2
      (go_simp; (try go_bits); with_reducible rfl)
    rotate_left
    · simp only [Act.put, List.setIfInBounds_toArray, List.set_cons_zero, List.set_cons_succ, i64_w, i32_w]
      rfl
    refine pure_ (i := 6) (N := some 85) (v := ?_) (a' := ?_) #[true, true, true, false, true, true, true, false, false, false, false, false, false, false, false, false, false, false, false, false, false, false, false, false, false] rfl rfl (by kernel_rfl) (fun _ _ _ h => h) (Or.inl ⟨by rfl, ?_⟩) ?_ ?_
    rotate_left
    · intro w2
      (go_simp; (try go_bits); with_reducible rfl)
    rotate_left
    · simp only [Act.put, List.setIfInBounds_toArray, List.set_cons_zero, List.set_cons_succ, i64_w, i32_w]
      rfl
    refine pure_ (i := 7) (N := some 86) (v := ?_) (a' := ?_) #[true, true, true, false, true, true, true, true, false, false, false, false, false, false, false, false, false, false, false, false, false, false, false, false, false] rfl rfl (by kernel_rfl) (fun _ _ _ h => h) (Or.inl ⟨by rfl, ?_⟩) ?_ ?_
    rotate_left
    · intro w2
      (go_simp; (try go_bits); with_reducible rfl)
    rotate_left
    · simp only [Act.put, List.setIfInBounds_toArray, List.set_cons_zero, List.set_cons_succ, i64_w, i32_w]
      rfl
    refine pure_ (i := 9) (N := some 88) (v := ?_) (a' := ?_) #[true, true, true, false, true, true, true, true, false, true, false, false, false, false, false, false, false, false, false, false, false, false, false, false, false] rfl rfl (by kernel_rfl) (fun _ _ _ h => h) (Or.inl ⟨by rfl, ?_⟩) ?_ ?_
    rotate_left
    · intro w2
      (go_simp; (try go_bits); with_reducible rfl)
    rotate_left
    · simp only [Act.put, List.setIfInBounds_toArray, List.set_cons_zero, List.set_cons_succ, i64_w, i32_w]
      rfl
    refine pure_ (i := 10) (N := some 89) (v := ?_) (a' := ?_) #[true, true, true, false, true, true, true, true, false, true, true, false, false, false, false, false, false, false, false, false, false, false, false, false, false] rfl rfl (by kernel_rfl) (fun _ _ _ h => h) (Or.inl ⟨by rfl, ?_⟩) ?_ ?_
    rotate_left
    · intro w2
      (go_simp; (try go_bits); with_reducible rfl)
    rotate_left
    · simp only [Act.put, List.setIfInBounds_toArray, List.set_cons_zero, List.set_cons_succ, i64_w, i32_w]
      rfl
    refine pure_ (i := 11) (N := some 90) (v := ?_) (a' := ?_) #[true, true, true, false, true, true, true, true, false, true, true, true, false, false, false, false, false, false, false, false, false, false, false, false, false] rfl rfl (by kernel_rfl) (fun _ _ _ h => h) (Or.inl ⟨by rfl, ?_⟩) ?_ ?_
    rotate_left
    · intro w2
      (go_simp; (try go_bits); with_reducible rfl)
    rotate_left
    · simp only [Act.put, List.setIfInBounds_toArray, List.set_cons_zero, List.set_cons_succ, i64_w, i32_w]
      rfl
    refine pure_ (i := 12) (N := some 91) (v := ?_) (a' := ?_) #[true, true, true, false, true, true, true, true, false, true, true, true, true, false, false, false, false, false, false, false, false, false, false, false, false] rfl rfl (by kernel_rfl) (fun _ _ _ h => h) (Or.inl ⟨by rfl, ?_⟩) ?_ ?_
    rotate_left
    · intro w2
      (go_simp; (try go_bits); with_reducible rfl)
    rotate_left
    · simp only [Act.put, List.setIfInBounds_toArray, List.set_cons_zero, List.set_cons_succ, i64_w, i32_w]
      rfl
    refine pure_ (i := 13) (N := some 92) (v := ?_) (a' := ?_) #[true, true, true, false, true, true, true, true, false, true, true, true, true, true, false, false, false, false, false, false, false, false, false, false, false] rfl rfl (by kernel_rfl) (fun _ _ _ h => h) (Or.inl ⟨by rfl, ?_⟩) ?_ ?_
    rotate_left
    · intro w2
      (go_simp; (try go_bits); with_reducible rfl)
    rotate_left
    · simp only [Act.put, List.setIfInBounds_toArray, List.set_cons_zero, List.set_cons_succ, i64_w, i32_w]
      rfl
    refine pure_ (i := 15) (N := some 94) (v := ?_) (a' := ?_) #[true, true, true, false, true, true, true, true, false, true, true, true, true, true, false, true, false, false, false, false, false, false, false, false, false] rfl rfl (by kernel_rfl) (fun _ _ _ h => h) (Or.inl ⟨by rfl, ?_⟩) ?_ ?_
    rotate_left
    · intro w2
      (go_simp; (try go_bits); with_reducible rfl)
    rotate_left
    · simp only [Act.put, List.setIfInBounds_toArray, List.set_cons_zero, List.set_cons_succ, i64_w, i32_w]
      rfl
    refine pure_ (i := 16) (N := some 95) (v := ?_) (a' := ?_) #[true, true, true, false, true, true, true, true, false, true, true, true, true, true, false, true, true, false, false, false, false, false, false, false, false] rfl rfl (by kernel_rfl) (fun _ _ _ h => h) (Or.inl ⟨by rfl, ?_⟩) ?_ ?_
    rotate_left
    · intro w2
      (go_simp; (try go_bits); with_reducible rfl)
    rotate_left
    · simp only [Act.put, List.setIfInBounds_toArray, List.set_cons_zero, List.set_cons_succ, i64_w, i32_w]
      rfl
    refine pure_ (i := 17) (N := some 96) (v := ?_) (a' := ?_) #[true, true, true, false, true, true, true, true, false, true, true, true, true, true, false, true, true, true, false, false, false, false, false, false, false] rfl rfl (by kernel_rfl) (fun _ _ _ h => h) (Or.inl ⟨by rfl, ?_⟩) ?_ ?_
    rotate_left
    · intro w2
      (go_simp; (try go_bits); with_reducible rfl)
    rotate_left
    · simp only [Act.put, List.setIfInBounds_toArray, List.set_cons_zero, List.set_cons_succ, i64_w, i32_w]
      rfl
    refine pure_ (i := 18) (N := some 97) (v := ?_) (a' := ?_) #[true, true, true, false, true, true, true, true, false, true, true, true, true, true, false, true, true, true, true, false, false, false, false, false, false] rfl rfl (by kernel_rfl) (fun _ _ _ h => h) (Or.inl ⟨by rfl, ?_⟩) ?_ ?_
    rotate_left
    · intro w2
      (go_simp; (try go_bits); with_reducible rfl)
    rotate_left
    · simp only [Act.put, List.setIfInBounds_toArray, List.set_cons_zero, List.set_cons_succ, i64_w, i32_w]
      rfl
    refine pure_ (i := 19) (N := some 98) (v := ?_) (a' := ?_) #[true, true, true, false, true, true, true, true, false, true, true, true, true, true, false, true, true, true, true, true, false, false, false, false, false] rfl rfl (by kernel_rfl) (fun _ _ _ h => h) (Or.inl ⟨by rfl, ?_⟩) ?_ ?_
    rotate_left
    · intro w2
      (go_simp; (try go_bits); with_reducible rfl)
    rotate_left
    · simp only [Act.put, List.setIfInBounds_toArray, List.set_cons_zero, List.set_cons_succ, i64_w, i32_w]
      rfl
    refine take_ (i := 3) (N := some 82) (v := ?_) (a' := ?_) #[true, true, true, true, true, true, true, true, false, true, true, true, true, true, false, true, true, true, true, true, false, false, false, false, false] rfl rfl (by kernel_rfl) (fun _ _ _ h => h) (Or.inl ⟨by rfl, ?_⟩) hHeld ?_ ?_
    rotate_left
    · intro w2 hS2
      have c1 := (hS2.2.2.1.cell j).trans HG.out
      have c2 := (hS2.2.2.2.cell (3 * j)).trans m0.out
      have c3 := (hS2.2.2.2.cell (3 * j + 1)).trans m1.out
      have c4 := (hS2.2.2.2.cell (3 * j + 2)).trans m2.out
      (go_simp; (try go_bits); with_reducible rfl)
    rotate_left
    · simp only [Act.put, List.setIfInBounds_toArray, List.set_cons_zero, List.set_cons_succ, i64_w, i32_w]
      rfl
    refine take_ (i := 8) (N := some 87) (v := ?_) (a' := ?_) #[true, true, true, true, true, true, true, true, true, true, true, true, true, true, false, true, true, true, true, true, false, false, false, false, false] rfl rfl (by kernel_rfl) (fun _ _ _ h => h) (Or.inl ⟨by rfl, ?_⟩) hHeld ?_ ?_
    rotate_left
    · intro w2 hS2
      have c1 := (hS2.2.2.1.cell j).trans HG.out
      have c2 := (hS2.2.2.2.cell (3 * j)).trans m0.out
      have c3 := (hS2.2.2.2.cell (3 * j + 1)).trans m1.out
      have c4 := (hS2.2.2.2.cell (3 * j + 2)).trans m2.out
      (go_simp; (try go_bits); with_reducible rfl)
    rotate_left
    · simp only [Act.put, List.setIfInBounds_toArray, List.set_cons_zero, List.set_cons_succ, i64_w, i32_w]
      rfl
    refine take_ (i := 14) (N := some 93) (v := ?_) (a' := ?_) #[true, true, true, true, true, true, true, true, true, true, true, true, true, true, true, true, true, true, true, true, false, false, false, false, false] rfl rfl (by kernel_rfl) (fun _ _ _ h => h) (Or.inl ⟨by rfl, ?_⟩) hHeld ?_ ?_
    rotate_left
    · intro w2 hS2
      have c1 := (hS2.2.2.1.cell j).trans HG.out
      have c2 := (hS2.2.2.2.cell (3 * j)).trans m0.out
      have c3 := (hS2.2.2.2.cell (3 * j + 1)).trans m1.out
      have c4 := (hS2.2.2.2.cell (3 * j + 2)).trans m2.out
      (go_simp; (try go_bits); with_reducible rfl)
    rotate_left
    · simp only [Act.put, List.setIfInBounds_toArray, List.set_cons_zero, List.set_cons_succ, i64_w, i32_w]
      rfl
    refine take_ (i := 20) (N := some 99) (v := ?_) (a' := ?_) #[true, true, true, true, true, true, true, true, true, true, true, true, true, true, true, true, true, true, true, true, true, false, false, false, false] rfl rfl (by kernel_rfl) (fun _ _ _ h => h) (Or.inl ⟨by rfl, ?_⟩) hHeld ?_ ?_
    rotate_left
    · intro w2 hS2
      have c1 := (hS2.2.2.1.cell j).trans HG.out
      have c2 := (hS2.2.2.2.cell (3 * j)).trans m0.out
      have c3 := (hS2.2.2.2.cell (3 * j + 1)).trans m1.out
      have c4 := (hS2.2.2.2.cell (3 * j + 2)).trans m2.out
      (go_simp; (try go_bits); with_reducible rfl)
    rotate_left
    · simp only [Act.put, List.setIfInBounds_toArray, List.set_cons_zero, List.set_cons_succ, i64_w, i32_w]
      rfl
    refine pure_ (i := 21) (N := some 100) (v := ?_) (a' := ?_) #[true, true, true, true, true, true, true, true, true, true, true, true, true, true, true, true, true, true, true, true, true, true, false, false, false] rfl rfl (by kernel_rfl) (fun _ _ _ h => h) (Or.inl ⟨by rfl, ?_⟩) ?_ ?_
    rotate_left
    · intro w2
      (go_simp; (try go_bits); with_reducible rfl)
    rotate_left
    · simp only [Act.put, List.setIfInBounds_toArray, List.set_cons_zero, List.set_cons_succ, i64_w, i32_w]
      rfl
    refine pure_ (i := 22) (N := some 101) (v := ?_) (a' := ?_) #[true, true, true, true, true, true, true, true, true, true, true, true, true, true, true, true, true, true, true, true, true, true, true, false, false] rfl rfl (by kernel_rfl) (fun _ _ _ h => h) (Or.inl ⟨by rfl, ?_⟩) ?_ ?_
    rotate_left
    · intro w2
      (go_simp; (try go_bits); with_reducible rfl)
    rotate_left
    · simp only [Act.put, List.setIfInBounds_toArray, List.set_cons_zero, List.set_cons_succ, i64_w, i32_w]
      rfl
    refine last_ (i := 23) (N := none) #[true, true, true, true, true, true, true, true, true, true, true, true, true, true, true, true, true, true, true, true, true, true, true, true, false] rfl rfl (by kernel_rfl) (by decide) (fun K hK => ?_)
    refine ifw rfl ?_
    refine wp_store_mid 41 (.tmp 2) (.tmp 101) rfl w.heap.size 0 _ rfl rfl (row_there hHeld.2.1 (Nat.le_refl 5)) size51 (by simp [Value.oneCell']) ?_
    refine hK.out _ _ ?_
    clear hK K
    refine norm_ (a' := ?_) ?_ ?_
    rotate_left
    · first | rfl | (simp only [Act.put, List.setIfInBounds_toArray, List.set_cons_zero, List.set_cons_succ, i64_w, i32_w]; rfl)
    refine pure_ (i := 24) (N := some 3) (v := ?_) (a' := ?_) #[true, true, true, true, true, true, true, true, true, true, true, true, true, true, true, true, true, true, true, true, true, true, true, true, true] rfl rfl (by kernel_rfl) (fun _ _ _ h => h) (Or.inl ⟨by rfl, ?_⟩) ?_ ?_
    rotate_left
    · intro w2
      (go_simp; (try go_bits); with_reducible rfl)
    rotate_left
    · simp only [Act.put, List.setIfInBounds_toArray, List.set_cons_zero, List.set_cons_succ, i64_w, i32_w]
      rfl
    refine done_ (by kernel_rfl) ?_
    obtain ⟨hO, hB⟩ := setCells_only w.heap.size [.string s, .int .i64 x, .int .i64 y, .int .u64 z, .int .i64 0] wd _ _ 0 hHeld.2.1 rfl
    go_wp2_with fail
    refine ret_blk2 Tryz.results19 _ _ _ _ rfl hB Tryz.underlying41 rfl 5 size51 rfl rfl ⟨?_, Only.below hHeld.1 hO (Nat.le_refl _)⟩
    rw [hv.out, opR]
    simp only [opA, Option.getD_some, Option.isSome_some, ← HSS.out]
    rfl
end Go.Proofs.YtibhijjmmagdcaaGreatDoor
