/- smithylaw04.HexAddresses: the walk. -/
import Derived.Test.YtibhijjmmagdcaaDoorLawReads
namespace Go.Proofs.YtibhijjmmagdcaaDoor
set_option linter.unusedVariables false
set_option linter.unusedSimpArgs false
open Go.RowKit Go.Proofs.YtibhijjmmagdcaaDoorW.PrintWords Go.Proofs.YtibhijjmmagdcaaDoorW.PrintLast
/-- A row of bytes that a conversion made: its open end is behind it. -/
def RowU (W : World) (g : Nat) (xs : List Int) : Prop := ∃ (cells : Array Value) (hi : Nat), W.heap[g]? = some (.cells cells 5 (cells.size, hi)) ∧ xs.length ≤ cells.size ∧ ∀ (j : Nat) (c : Int), xs[j]? = some c → cells[j]? = some (Value.int .u8 c)
theorem RowU.lt {W : World} {g : Nat} {xs : List Int} (h : RowU W g xs) : g < W.heap.size := by
  obtain ⟨cells, hi, h1, _⟩ := h
  rcases Nat.lt_or_ge g W.heap.size with h | h
  · exact h
  · rw [Array.getElem?_eq_none h] at h1; cases h1
theorem RowU.below {w W : World} {g : Nat} {xs : List Int} (h : RowU w g xs) (hb : Below w.heap.size w W) : RowU W g xs := by
  have hl := h.lt
  obtain ⟨cells, hi, h1, h2, h3⟩ := h
  exact ⟨cells, hi, (hb.block g hl).trans h1, h2, h3⟩
theorem RowU.cell {W : World} {g : Nat} {xs : List Int} (h : RowU W g xs) {j : Nat} {c : Int} (hj : xs[j]? = some c) : W.cell? ⟨g, j, none⟩ = some (.int .u8 c) := by
  obtain ⟨cells, hi, h1, h2, h3⟩ := h
  rw [cell_of_row _ _ _ _ _ _ h1]
  exact h3 j c hj
theorem RowU.frozen {W : World} {g : Nat} {xs : List Int} (h : RowU W g xs) {j : Nat} (hj : j < xs.length) : W.frozen? ⟨g, j, none⟩ = false := by
  obtain ⟨cells, hi, h1, h2, h3⟩ := h
  simp only [World.frozen?, h1]
  simp; omega
theorem RowU.set {W : World} {g : Nat} {xs : List Int} (h : RowU W g xs) (i : Nat) (v : Int) : RowU (W.setCell ⟨g, i, none⟩ (.int .u8 v)) g (xs.set i v) := by
  obtain ⟨cells, hi, h1, h2, h3⟩ := h
  refine ⟨cells.setIfInBounds i (.int .u8 v), hi, ?_, by simpa using h2, fun j c hj => ?_⟩
  · simp [World.setCell, Array.getElem?_modify, h1]
  · rw [Array.getElem?_setIfInBounds]
    rw [List.getElem?_set] at hj
    by_cases e : i = j
    · subst e
      rw [if_pos rfl] at hj ⊢
      split at hj
      · rename_i hl
        cases hj
        rw [if_pos (by omega)]
      · cases hj
    · rw [if_neg e] at hj ⊢
      exact h3 j c hj
theorem RowU.reads {W : World} {g : Nat} {xs : List Int} (h : RowU W g xs) (hn : xs.length ≤ 1000000) : (Kd.int .u8).C W (some ⟨g, 0, none⟩) xs.length xs :=
  Kd.C_of_reads (d := (0 : Int)) ⟨rfl, by omega, fun _ => ⟨_, rfl, fun j hj => by rw [add_plain]; exact h.cell (by rw [List.getD_eq_getElem?_getD, List.getElem?_eq_getElem hj]; rfl)⟩⟩
theorem RowU.new (W : World) {xs : List Int} (hx : ∀ c ∈ xs, 0 ≤ c ∧ c < 256) : RowU (Lib.bytesWorld W 5 (strOfNums xs)) W.heap.size xs := by
  refine ⟨_, _, Lib.bytesWorld_at_new W _ _, ?_, fun j c hj => ?_⟩
  · have : (strOfNums xs).data.size = xs.length := strOfNums_size xs
    simp [Lib.bytesCells, this]
  · have hlt : j < xs.length := by
      rcases Nat.lt_or_ge j xs.length with h | h
      · exact h
      · rw [List.getElem?_eq_none h] at hj; cases hj
    have h1 := Lib.bytesWorld_cell W 5 (strOfNums xs) j (by rw [strOfNums_size]; exact hlt)
    rw [cell_of_row _ _ _ _ _ _ (Lib.bytesWorld_at_new W _ _)] at h1
    rw [h1]
    have hc : c ∈ xs := List.mem_of_getElem? hj
    have := hx c hc
    rw [strOfNums_data, List.getD_eq_getElem?_getD, List.getElem?_map, hj]
    simp
    omega
/-- A great letter for a small one. -/
def up (c : Int) : Int := if 97 ≤ c then c - 32 else c
def upTo (k : Nat) (T : List Int) : List Int := T.mapIdx fun i c => if 2 ≤ i ∧ i < k then up c else c
theorem upTo_length (k : Nat) (T : List Int) : (upTo k T).length = T.length := by simp [upTo]
theorem upTo_at {k : Nat} {T : List Int} {c : Int} (h : T[k]? = some c) : (upTo k T)[k]? = some c := by
  rw [upTo, List.getElem?_mapIdx, h]
  simp
theorem upTo_two (T : List Int) : upTo 2 T = T := by
  apply List.ext_getElem?
  intro i
  rw [upTo, List.getElem?_mapIdx]
  cases T[i]? with
  | none => rfl
  | some c => simp; intro a b; omega
theorem upTo_skip {k : Nat} {T : List Int} {c : Int} (h : T[k]? = some c) (hc : c < 97) : upTo (k + 1) T = upTo k T := by
  apply List.ext_getElem?
  intro i
  rw [upTo, upTo, List.getElem?_mapIdx, List.getElem?_mapIdx]
  by_cases e : i = k
  · subst e
    rw [h]
    have : up c = c := by rw [up, if_neg (by omega)]
    simp [this]
  · congr 1
    funext c
    by_cases a : 2 ≤ i ∧ i < k
    · rw [if_pos a, if_pos (by omega)]
    · rw [if_neg a, if_neg (by omega)]
theorem upTo_set {k : Nat} {T : List Int} {c : Int} (h2 : 2 ≤ k) (h : T[k]? = some c) (hc : 97 ≤ c) : (upTo k T).set k (c - 32) = upTo (k + 1) T := by
  apply List.ext_getElem?
  intro i
  rw [List.getElem?_set, upTo_length]
  by_cases e : k = i
  · subst e
    have hk : k < T.length := by
      rcases Nat.lt_or_ge k T.length with h' | h'
      · exact h'
      · rw [List.getElem?_eq_none h'] at h; cases h
    rw [if_pos rfl, if_pos hk, upTo, List.getElem?_mapIdx, h]
    simp [h2, up, hc]
  · rw [if_neg e, upTo, upTo, List.getElem?_mapIdx, List.getElem?_mapIdx]
    congr 1
    funext c
    by_cases a : 2 ≤ i ∧ i < k
    · rw [if_pos a, if_pos (by omega)]
    · rw [if_neg a, if_neg (by omega)]
theorem upTo_all (r : List Int) (n : Nat) (hn : n = r.length + 2) : upTo n (48 :: 120 :: r) = 48 :: 120 :: r.map up := by
  apply List.ext_getElem?
  intro i
  rw [upTo, List.getElem?_mapIdx]
  rcases i with _ | _ | i
  · rfl
  · rfl
  · simp only [List.getElem?_cons_succ, List.getElem?_map]
    cases hr : r[i]? with
    | none => rfl
    | some c =>
      have : i < r.length := by
        rcases Nat.lt_or_ge i r.length with h' | h'
        · exact h'
        · rw [List.getElem?_eq_none h'] at hr; cases hr
      simp
      omega
theorem hv_up {n : Int} (h0 : 0 ≤ n) (h1 : n < 16) : hv (up (dg n)) = n := by
  obtain rfl | rfl | rfl | rfl | rfl | rfl | rfl | rfl | rfl | rfl | rfl | rfl | rfl | rfl | rfl | rfl : n = 0 ∨ n = 1 ∨ n = 2 ∨ n = 3 ∨ n = 4 ∨ n = 5 ∨ n = 6 ∨ n = 7 ∨ n = 8 ∨ n = 9 ∨ n = 10 ∨ n = 11 ∨ n = 12 ∨ n = 13 ∨ n = 14 ∨ n = 15 := by omega
  all_goals decide
theorem pairs_up : ∀ {l : List Int}, (∀ c ∈ l, 0 ≤ c ∧ c < 256) → pairs ((hexOf l).map up) = some l
  | [], _ => rfl
  | c :: l, h => by
    have hc := h c (by simp)
    rw [hexOf_cons, List.map_cons, List.map_cons, pairs, hv_up (by omega) (by omega), hv_up (by omega) (by omega), if_neg (by omega), pairs_up fun x hx => h x (by simp [hx])]
    simp; omega
theorem up_byte {c : Int} (h : 0 ≤ c ∧ c < 256) : 0 ≤ up c ∧ up c < 256 := by unfold up; split <;> omega
theorem addr_again {l T : List Int} {f : Nat → Int} (hT : ∀ c ∈ T, 0 ≤ c ∧ c < 256) (hn : T.length ≤ 1000) (hl : bytesOfText T = some l) (hf : l = (List.range 20).map f) (w : World) :
    Calls Tryd.prog 20 #[.string (strOfNums T)] w fun e w' => e = .returned (.tuple #[.agg (arrF .u8 20 f), .int .i64 0]) ∧ Below w.heap.size w w' := by
  have h := address_hex (strOfNums T) (by rw [strOfNums_size]; omega) w
  have h20 : l.length = 20 := by rw [hf]; simp
  rw [bytesOf_strOfNums hT, hl, addrErr_same h20, addrF_good h20] at h
  have e : arrF .u8 20 (fun i => l.getD i 0) = arrF .u8 20 f := arrF_ext fun i hi => by rw [hf]; simp [List.getD, hi]
  rw [e] at h
  exact h
set_option maxRecDepth 100000 in
theorem hexAddresses_any (a : Nat → Int) (w : World) (ha : U8 a) :
    Calls Tryd.prog 5 #[.agg (arrF .u8 20 a)] w fun e w' => e = .returned (.bool true) ∧ Below w.heap.size w w' := by
  obtain ⟨l, hl⟩ : ∃ l, l = (List.range 20).map a := ⟨_, rfl⟩
  have hlb : ∀ c ∈ l, 0 ≤ c ∧ c < 256 := by rw [hl]; exact map_bytes ha 20
  have hll : l.length = 20 := by rw [hl]; simp
  obtain ⟨T, hT⟩ : ∃ T, T = textL l := ⟨_, rfl⟩
  have hTb : ∀ c ∈ T, 0 ≤ c ∧ c < 256 := by rw [hT]; exact textL_byte hlb
  have hTl : T.length = 42 := by rw [hT, textL, List.length_cons, List.length_cons, hexOf_length, hll]
  have HU : Hid (upTo 42 T = 48 :: 120 :: (hexOf l).map up) := by rw [Hid, hT]; exact upTo_all _ _ (by rw [hexOf_length, hll])
  have HUB : Hid (∀ c ∈ upTo 42 T, 0 ≤ c ∧ c < 256) := by
    rw [HU.out]
    intro c hc
    simp only [List.mem_cons, List.mem_map] at hc
    rcases hc with rfl | rfl | ⟨b, hb, rfl⟩
    · omega
    · omega
    · exact up_byte (hexOf_byte hlb b hb)
  have HA1 : Hid (∀ W, Calls Tryd.prog 20 #[.string (strOfNums T)] W fun e w' => e = .returned (.tuple #[.agg (arrF .u8 20 a), .int .i64 0]) ∧ Below W.heap.size W w') := fun W => addr_again hTb (by omega) (by rw [hT]; exact bytesOf_textL hlb) hl W
  have HA2 : Hid (∀ W, Calls Tryd.prog 20 #[.string (strOfNums (upTo 42 T))] W fun e w' => e = .returned (.tuple #[.agg (arrF .u8 20 a), .int .i64 0]) ∧ Below W.heap.size W w') := fun W => addr_again HUB.out (by rw [upTo_length]; omega) (by rw [HU.out]; exact pairs_up hlb) hl W
  have HT : Hid (∀ {W : World} {g t : Nat}, Blk W g (arrF .u8 20 a) t → Calls Tryd.prog 12 #[.slice (some ⟨g, 0, none⟩) 20 20] W fun e w' => e = .returned (.string (strOfNums T)) ∧ Below W.heap.size W w') := fun h => by rw [hT, hl]; exact text_arr h ha (by omega)
  have HTB := Lib.hid hTb
  have HTL := Lib.hid hTl
  clear hl hlb hll hT hTb hTl HU HUB ha
  have heq := eql40 a a
  rw [eqN_refl] at heq
  have hz40 := zero40
  go_enter Tryd.func5, Tryd.ntmps5
  go_wp2_with fail
  refine (HT.out (Blk.new _ _ _)).mono ?_
  rintro e w1 ⟨rfl, hb1⟩
  obtain ⟨w2, hw2⟩ : ∃ w2, w2 = Lib.bytesWorld w1 5 (strOfNums T) := ⟨_, rfl⟩
  have cv := Lib.run_convert_string_bytes (P := Tryd.prog) w1 9 22 5 (strOfNums T) Tryd.underlying9 Tryd.underlying22 Tryd.underlying5
  rw [strOfNums_size, HTL.out, ← hw2] at cv
  obtain ⟨cap, hcap⟩ : ∃ cap, cap = grownCap w1 42 0 5 := ⟨_, rfl⟩
  rw [← hcap] at cv
  obtain ⟨g, hg⟩ : ∃ g, g = w1.heap.size := ⟨_, rfl⟩
  have R2 : RowU w2 g T := by rw [hg, hw2]; exact RowU.new w1 HTB.out
  have b2 : Below w1.heap.size w1 w2 := hw2 ▸ bytes_below (Below.refl _ _) (Nat.le_refl _) _ _
  have k1 : Blk w1 w.heap.size (arrF .u8 20 a) 40 := (Blk.new _ _ _).below hb1
  have k2 := k1.below b2
  have e2 := bel_then (bel_then (below_alloc (Below.refl w.heap.size w) _) hb1) b2
  have hgt : w.heap.size < g := by rw [hg]; exact k1.lt
  have c2 := conv_bytes (c := cap) (R2.reads (by rw [HTL.out]; decide))
  rw [HTL.out] at c2
  rw [← hg] at cv
  clear hcap hw2 hb1 b2 k1 hg
  go_wp2_with (first | (go_at_call 20; refine (HA1.out _).mono ?_; rintro e w3 ⟨rfl, hb3⟩) | ((with_reducible refine gate_op (.store 40 (.tmp 4) (.tmp 16)) rfl ?_); refine wpl_store_blk rfl 40 (.tmp 4) (.tmp 16) rfl _ rfl _ _ _ rfl (Blk.new _ _ _) 20 size40 (arrF_size _ _ _) (arrF_size _ _ _) (arrF_one _ _ _) ?_; intro w4 hO4 hB4))
  have e34 : Below w3.heap.size w3 w4 := Only.below (below_alloc (Below.refl _ _) _) hO4 (Nat.le_refl _)
  obtain ⟨g4, hg4⟩ : ∃ g4, g4 = w3.heap.size := ⟨_, rfl⟩
  rw [← hg4] at hB4 ⊢
  have e4 := bel_then (bel_then e2 hb3) e34
  have R4 := (R2.below hb3).below e34
  have k4 := (k2.below hb3).below e34
  have hg4n : g ≠ g4 := by
    have h1 := R2.lt
    have h2 := hb3.size
    omega
  clear cv c2 R2 k2 e2 hb3 e34 hO4 hg4
  go_loopw [6] (fun i wr => ∃ k : Nat, 2 ≤ k ∧ k ≤ 42 ∧ i = .int .i64 k ∧ Below w.heap.size w wr ∧ RowU wr g (upTo k T) ∧ Blk wr w.heap.size (arrF .u8 20 a) 40 ∧ Blk wr g4 (arrF .u8 20 a) 40) (fun i _ => 42 - (intOf i).toNat)
  case atStart => exact ⟨2, by omega, by omega, rfl, e4, by rw [upTo_two]; exact R4, k4, hB4⟩
  case round =>
    clear e4 R4 k4 hB4
    obtain ⟨k, hk2, hk, rfl, hB, hR, h1, h4⟩ := hrel
    by_cases hlt : k < 42
    · have p0 : (0 : Int) ≤ (k : Int) := by omega
      have p1 : (k : Int) < 42 := by omega
      have hkT : k < T.length := by rw [HTL.out]; exact hlt
      have hget : T[k]? = some T[k] := List.getElem?_eq_getElem hkT
      have hb0 := HTB.out T[k] (List.getElem_mem hkT)
      obtain ⟨c, hc⟩ : ∃ c, c = T[k] := ⟨_, rfl⟩
      rw [← hc] at hget hb0
      clear hc
      have HG := Lib.hid hget
      have cc := hR.cell (upTo_at hget)
      have cf := hR.frozen (j := k) (by rw [upTo_length]; exact hkT)
      clear hget hkT
      by_cases h97 : 97 ≤ c
      · have HS := Lib.hid (upTo_set hk2 HG.out h97)
        go_wp2_with fail
        go_roundw
        case rel =>
          refine ⟨k + 1, by omega, by omega, by go_num, bel_set hB (by simp; omega) _, ?_, h1.far (by simp; omega) _, h4.far (by simp; omega) _⟩
          rw [← HS.out]
          exact hR.set k _
        case measure => simp [intOf]; omega
      · have HS := Lib.hid (upTo_skip HG.out (by omega))
        go_wp2_with fail
        go_roundw
        case rel => exact ⟨k + 1, by omega, by omega, by go_num, hB, by rw [HS.out]; exact hR, h1, h4⟩
        case measure => simp [intOf]; omega
    · obtain rfl : k = 42 := by omega
      have hcv := conv_bytes (c := cap) (hR.reads (by rw [upTo_length, HTL.out]; decide))
      rw [upTo_length, HTL.out] at hcv
      go_wp2_with (first | (go_at_call 20; refine (HA2.out _).mono ?_; rintro e w5 ⟨rfl, hb5⟩) | ((with_reducible refine gate_op (.store 40 (.tmp 7) (.tmp 39)) rfl ?_); refine wpl_store_blk rfl 40 (.tmp 7) (.tmp 39) rfl _ rfl _ _ _ rfl (Blk.new _ _ _) 20 size40 (arrF_size _ _ _) (arrF_size _ _ _) (arrF_one _ _ _) ?_; intro w6 hO6 hB6))
      have e56 : Below w5.heap.size w5 w6 := Only.below (below_alloc (Below.refl _ _) _) hO6 (Nat.le_refl _)
      refine (fixed04 _).mono ?_
      rintro e w7 ⟨rfl, hb7⟩
      have e7 := bel_then (bel_then (bel_then hB hb5) e56) hb7
      have a7 := ((h1.below hb5).below e56).below hb7
      have b7 := ((h4.below hb5).below e56).below hb7
      have d7 := hB6.below hb7
      clear hB hR h1 h4 hcv hb5 hO6 hB6 e56 hb7
      go_wp2_with (first | ((with_reducible refine gate_op (.load 40 (.tmp 4)) rfl ?_); refine guard_on (by rfl) ?_; refine wpl_load_blk rfl 40 (.tmp 4) rfl _ rfl _ _ _ b7 Tryd.underlying40 rfl 20 size40 (arrF_size _ _ _) ?_) | ((with_reducible refine gate_op (.load 40 (.tmp 1)) rfl ?_); refine guard_on (by rfl) ?_; refine wpl_load_blk rfl 40 (.tmp 1) rfl _ rfl _ _ _ a7 Tryd.underlying40 rfl 20 size40 (arrF_size _ _ _) ?_) | ((with_reducible refine gate_op (.load 40 (.tmp 7)) rfl ?_); refine guard_on (by rfl) ?_; refine wpl_load_blk rfl 40 (.tmp 7) rfl _ rfl _ _ _ d7 Tryd.underlying40 rfl 20 size40 (arrF_size _ _ _) ?_))
      go_ret
      exact ⟨rfl, e7⟩
end Go.Proofs.YtibhijjmmagdcaaDoor
