/- smithyref04.Bytes. -/
import Derived.Test.YtibhijjmmagdcaaDoorRefWord
import Derived.Test.YtibhijjmmagdcaaDoorLawTexts
namespace Go.Proofs.YtibhijjmmagdcaaDoor
set_option linter.unusedVariables false
set_option linter.unusedSimpArgs false
open Go.RowKit Go.Proofs.YtibhijjmmagdcaaDoorW.PrintWords Go.Proofs.YtibhijjmmagdcaaDoorW.PrintLast
theorem own_empty {W : World} {g base : Nat} (h : Blk W g #[] 5) (hb : base ≤ g) : OwnB W base (.slice (some ⟨g, 0, none⟩) 0 0) [] :=
  ⟨rfl, .inr ⟨g, 0, #[], rfl, hb, h, Nat.le_refl _, by decide, rfl, rfl⟩⟩
set_option maxRecDepth 100000 in
theorem refbytes_good (s : ByteArray) (w : World) (hs : s.size ≤ 1000000)
    (h2 : 2 ≤ s.size) (h0 : bt s 0 = 48) (h1 : bt s 1 = 120) (he : s.size % 2 = 0) :
    Calls Tryd.prog 18 #[.string s] w fun e w' => ∃ v, e = .returned (.tuple #[v, .int .i64 (formErr (bytesOfText (bytesOf s)))]) ∧ OwnB w' w.heap.size v ((bytesOfText (bytesOf s)).getD []) ∧ Below w.heap.size w w' := by
  have hz1 : ((s.size : Int) % 2 == 1) = false := by simp; omega
  have x0 := bt_zero s
  have x1 := bt_one s
  have q0 : (bt s 0 != 48) = false := by simp [h0]
  have q1 : (bt s 1 != 120) = false := by simp [h1]
  have q2 : (2 : Int) ≤ s.size := by omega
  have HSPEC : Hid (bytesOfText (bytesOf s) = pairs ((bytesOf s).drop 2)) := by rw [Hid, bytesOfText_rest, rest0x_of h2 h0 h1]; rfl
  clear h0 h1
  go_enter Tryd.func18, Tryd.ntmps18
  go_wp2_with fail
  obtain ⟨w1, hw1⟩ : ∃ w1, w1 = w.alloc (.cells #[] 5) := ⟨_, rfl⟩
  have f1 : Blk w1 w.heap.size #[] 5 := hw1 ▸ Blk.new _ _ _
  have f2 : Below w.heap.size w w1 := hw1 ▸ below_alloc (Below.refl _ _) _
  have f3 : w1.heap.size = w.heap.size + 1 := by rw [hw1]; simp
  rw [← hw1, ← f3]
  have F1 := Lib.hid f1
  have F2 := Lib.hid f2
  have F3 := Lib.hid f3
  clear f1 f2 f3 hw1
  refine wp_any_world (fun W => OwnB W w1.heap.size (.slice (some ⟨w1.heap.size, 0, none⟩) 0 0) [] ∧ Below w1.heap.size w1 W) ⟨own_empty (Blk.new _ _ _) (Nat.le_refl _), by repeat (first | exact Below.refl _ _ | assumption | refine below_alloc ?_ _ | refine bel_drewN ?_ _ | refine bel_drew ?_ | refine bel_set ?_ (by simp) _)⟩ ?_
  intro W hS
  go_loopw [5, 6, 7, 8] (fun v i _ _ wr => ∃ (k : Nat) (d : List Int), 2 + 2 * k ≤ s.size ∧ i = .int .i64 (2 + 2 * (k : Int)) ∧ d.length = k ∧ pairs ((bytesOf s).drop 2) = (pairs ((bytesOf s).drop (2 + 2 * k))).map (d ++ ·) ∧ OwnB wr w1.heap.size v d ∧ Below w1.heap.size w1 wr) (fun _ i _ _ _ => s.size - (intOf i).toNat)
  case atStart => exact ⟨0, [], by omega, rfl, rfl, by simp, hS.1, hS.2⟩
  case round =>
    clear hS
    obtain ⟨k, d, hk, rfl, hd, hp, hO, hB⟩ := hrel
    by_cases hlt : 2 + 2 * k < s.size
    · have e1 := bytesOf_drop s (2 + 2 * k) (by omega)
      rw [bytesOf_drop s (2 + 2 * k + 1) (by omega), show ((2 + 2 * k : Nat) : Int) = 2 + 2 * (k : Int) by omega, show ((2 + 2 * k + 1 : Nat) : Int) = 2 + 2 * (k : Int) + 1 by omega] at e1
      have HP := Lib.hid hp
      have HD := Lib.hid e1
      have HL := Lib.hid hd
      have p0 : (0 : Int) ≤ 2 + 2 * (k : Int) := by omega
      have p1 : 2 + 2 * (k : Int) < (s.size : Int) := by omega
      have p2 : (0 : Int) ≤ 2 + 2 * (k : Int) + 1 := by omega
      have p3 : 2 + 2 * (k : Int) + 1 < (s.size : Int) := by omega
      have x0 := bt_at s (2 + 2 * (k : Int))
      have x1 := bt_at s (2 + 2 * (k : Int) + 1)
      have r0 := bt_range s (2 + 2 * (k : Int))
      have r1 := bt_range s (2 + 2 * (k : Int) + 1)
      have q0 := hv_le (bt s (2 + 2 * (k : Int)))
      have q1 := hv_le (bt s (2 + 2 * (k : Int) + 1))
      clear hp e1 hd
      have HO := Lib.hid hO
      have hW := hB.size
      clear hO
      by_cases ha : hv (bt s (2 + 2 * (k : Int))) < 0
      · go_wp2_with (go_at_call 39; refine (refvalue_any _ _ (by omega) (by omega)).mono ?_; rintro e w2 ⟨rfl, rfl⟩)
        go_ret2
        have hn : bytesOfText (bytesOf s) = none := by rw [HSPEC.out, HP.out, HD.out, pairs, if_pos (.inl ha)]; rfl
        exact ⟨_, by rw [hn]; rfl, by rw [hn]; exact own_empty (F1.out.below hB) (Nat.le_refl _), bel_then F2.out hB⟩
      by_cases hb : hv (bt s (2 + 2 * (k : Int) + 1)) < 0
      · go_wp2_with (go_at_call 39; refine (refvalue_any _ _ (by omega) (by omega)).mono ?_; rintro e w2 ⟨rfl, rfl⟩)
        go_ret2
        have hn : bytesOfText (bytesOf s) = none := by rw [HSPEC.out, HP.out, HD.out, pairs, if_pos (.inr hb)]; rfl
        exact ⟨_, by rw [hn]; rfl, by rw [hn]; exact own_empty (F1.out.below hB) (Nat.le_refl _), bel_then F2.out hB⟩
      have hl : d.length ≤ 1000000 := by have := HL.out; omega
      go_wp2_with (first | (go_at_call 39; refine (refvalue_any _ _ (by omega) (by omega)).mono ?_; rintro e w2 ⟨rfl, rfl⟩) | (at_builtin; refine print_append_num w1.heap.size rfl (.tmp 53) (.tmp 59) 22 5 .u8 1 rfl Tryd.underlying22 info5 (by decide) _ d _ rfl rfl HO.out hB hW (by omega) ?_; intro v2 w2 ho hb2 _ _))
      go_roundw
      case rel =>
        refine ⟨k + 1, _, by omega, by go_num, by simp [HL.out], ?_, ho, hb2⟩
        rw [HP.out, HD.out, pairs_step _ _ _ _ (by omega) (by omega), Int.mul_comm 16]
        rfl
      case measure => simp [intOf]; omega
    · have hk' : 2 + 2 * k = s.size := by omega
      have hn : bytesOfText (bytesOf s) = some d := by rw [HSPEC.out, hp, hk', bytesOf_drop_end]; simp [pairs]
      have HN := Lib.hid hn
      have HO := Lib.hid hO
      clear hn hp hk' hd hO
      go_wp2_with fail
      go_ret2
      exact ⟨_, by rw [HN.out]; rfl, by rw [HN.out]; exact own_less HO.out (by rw [F3.out]; omega), bel_then F2.out hB⟩
set_option maxRecDepth 100000 in
theorem refbytes_bad (s : ByteArray) (w : World) (hs : s.size ≤ 1000000)
    (hbad : s.size < 2 ∨ bt s 0 ≠ 48 ∨ bt s 1 ≠ 120 ∨ s.size % 2 = 1) :
    Calls Tryd.prog 18 #[.string s] w fun e w' => ∃ v, e = .returned (.tuple #[v, .int .i64 (formErr (bytesOfText (bytesOf s)))]) ∧ OwnB w' w.heap.size v ((bytesOfText (bytesOf s)).getD []) ∧ Below w.heap.size w w' := by
  have HN : Hid (bytesOfText (bytesOf s) = none) := by
    rw [Hid, bytesOfText_rest]
    by_cases hok : 2 ≤ s.size ∧ bt s 0 = 48 ∧ bt s 1 = 120
    · rw [rest0x_of hok.1 hok.2.1 hok.2.2]
      refine pairs_odd _ ?_
      rw [List.length_drop, bytesOf_length]
      rcases hbad with h | h | h | h
      · omega
      · exact absurd hok.2.1 h
      · exact absurd hok.2.2 h
      · omega
    · rw [rest0x_none_of]; rfl
      by_cases a : s.size < 2
      · exact .inl a
      · by_cases b : bt s 0 = 48
        · exact .inr (.inr fun c => hok ⟨by omega, b, c⟩)
        · exact .inr (.inl b)
  have x0 := bt_zero s
  have x1 := bt_one s
  have key : ((s.size : Int) < 2) ∨ (¬ (s.size : Int) < 2 ∧ (bt s 0 != 48) = true) ∨ (¬ (s.size : Int) < 2 ∧ (bt s 0 != 48) = false ∧ (bt s 1 != 120) = true) ∨ (¬ (s.size : Int) < 2 ∧ (bt s 0 != 48) = false ∧ (bt s 1 != 120) = false ∧ ((s.size : Int) % 2 == 1) = true) := by
    by_cases a : s.size < 2
    · exact .inl (by omega)
    · by_cases b : bt s 0 = 48
      · by_cases c : bt s 1 = 120
        · have h : s.size % 2 = 1 := by
            rcases hbad with h | h | h | h
            · exact absurd h a
            · exact absurd b h
            · exact absurd c h
            · exact h
          exact .inr (.inr (.inr ⟨by omega, by simp [b], by simp [c], by simp; omega⟩))
        · exact .inr (.inr (.inl ⟨by omega, by simp [b], by simpa using c⟩))
      · exact .inr (.inl ⟨by omega, by simpa using b⟩)
  clear hbad
  rcases key with a | ⟨a, b⟩ | ⟨a, b, c⟩ | ⟨a, b, c, d⟩
  all_goals
    go_enter Tryd.func18, Tryd.ntmps18
    go_wp2_with fail
    go_ret2
    exact ⟨_, by rw [HN.out]; rfl, by rw [HN.out]; exact own_empty (Blk.new _ _ _) (Nat.le_refl _), by repeat (first | exact Below.refl _ _ | assumption | refine below_alloc ?_ _ | refine bel_drewN ?_ _ | refine bel_drew ?_ | refine bel_set ?_ (by simp) _)⟩
theorem bytes_ref (s : ByteArray) (hs : s.size ≤ 1000000) (w : World) :
    Calls Tryd.prog 18 #[.string s] w fun e w' => ∃ v, e = .returned (.tuple #[v, .int .i64 (formErr (bytesOfText (bytesOf s)))]) ∧ OwnB w' w.heap.size v ((bytesOfText (bytesOf s)).getD []) ∧ Below w.heap.size w w' := by
  by_cases a : s.size < 2
  · exact refbytes_bad s w hs (.inl a)
  by_cases b : bt s 0 = 48
  · by_cases c : bt s 1 = 120
    · by_cases d : s.size % 2 = 1
      · exact refbytes_bad s w hs (.inr (.inr (.inr d)))
      · exact refbytes_good s w hs (by omega) b c (by omega)
    · exact refbytes_bad s w hs (.inr (.inr (.inl c)))
  · exact refbytes_bad s w hs (.inr (.inl b))
end Go.Proofs.YtibhijjmmagdcaaDoor
