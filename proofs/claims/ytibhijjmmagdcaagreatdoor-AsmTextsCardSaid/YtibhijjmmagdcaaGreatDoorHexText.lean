/- hex.Text: how bytes are written. -/
import Derived.Test.YtibhijjmmagdcaaGreatDoorHex
namespace Go.Proofs.YtibhijjmmagdcaaGreatDoor
set_option linter.unusedVariables false
set_option linter.unusedSimpArgs false
open Go.RowKit Go.Proofs.YtibhijjmmagdcaaGreatDoorW.PrintWords Go.Proofs.YtibhijjmmagdcaaGreatDoorW.PrintLast
def TextS (w : World) (A : Option Addr) (l : List Int) (v : Value) (x : List Int) (W : World) : Prop := AppB W w.heap.size v x ∧ Below w.heap.size w W ∧ Kd.C (Kd.int .u8) W A l.length l
theorem TextS.below {w W W1 : World} {A : Option Addr} {l : List Int} {v : Value} {x : List Int} (h : TextS w A l v x W) (hb : Below W.heap.size W W1) : TextS w A l v x W1 := ⟨h.1.below hb, bel_then h.2.1 hb, Kd.C_below h.2.2 hb⟩
theorem hexs_lit {n : Int} (h0 : 0 ≤ n) (h1 : n < 16) : ∀ h : n.toNat < (⟨#[48, 49, 50, 51, 52, 53, 54, 55, 56, 57, 97, 98, 99, 100, 101, 102]⟩ : ByteArray).size, (((⟨#[48, 49, 50, 51, 52, 53, 54, 55, 56, 57, 97, 98, 99, 100, 101, 102]⟩ : ByteArray)[n.toNat]'h).toNat : Int) = dg n :=
  fun h => (bt_at HEXS n h).trans (hexs_at h0 h1)
theorem two_cells (w : World) (a b : Int) : ∀ j u, (nums .u8 [a, b])[j]? = some u → (w.alloc (.cells #[.int .u8 a, .int .u8 b] 5)).cell? ⟨w.heap.size, j, none⟩ = some u := by
  intro j u hj
  rw [(Blk.new w _ _).cell]
  simpa [nums] using hj
set_option maxRecDepth 100000 in
theorem text_hex (A : Option Addr) (c : Nat) (l : List Int) (w : World) (hr : Kd.C (Kd.int .u8) w A l.length l) (hc : l.length ≤ c) (hl : ∀ c ∈ l, 0 ≤ c ∧ c < 256) (hsz : l.length ≤ 1000000) :
    Calls Tryz.prog 13 #[.slice A l.length c] w fun e w' => e = .returned (.string (strOfNums (textL l))) ∧ Below w.heap.size w w' := by
  have HL := Lib.hid hl
  have HR := Lib.hid hr
  have HS := Lib.hid hsz
  clear hl hr hsz
  have kc := fun (w : World) (C : Array Value) (n c : Nat) => Lib.run_convert_bytes_const (P := Tryz.prog) w 22 5 C n c Tryz.underlying22 Tryz.underlying5
  go_enter Tryz.func13, Tryz.ntmps13
  go_wp2_with fail
  clear kc
  refine wp_any_world (TextS w A l (.slice (some ⟨w.heap.size, 0, none⟩) 2 2) [48, 120]) ⟨.inr ⟨w.heap.size, rfl, Nat.le_refl _, by simp, fun j u hj => ?_⟩, by repeat (first | exact Below.refl _ _ | assumption | refine below_alloc ?_ _ | refine bel_drewN ?_ _ | refine bel_drew ?_ | refine bel_set ?_ (by simp) _), Kd.C_alloc HR.out _⟩ ?_
  · have hh : (w.alloc (.cells #[.int .u8 48, .int .u8 120] 5 (2, 3))).heap[w.heap.size]? = some (.cells #[.int .u8 48, .int .u8 120] 5 (2, 3)) := heap_alloc_new w _
    rw [cell_of_row _ _ _ _ _ _ hh]
    simpa [nums] using hj
  intro W hS
  go_loopw [3, 10] (fun v i wr => ∃ k : Nat, k ≤ l.length ∧ i = .int .i64 k ∧ TextS w A l v ([48, 120] ++ hexOf (l.take k)) wr) (fun _ i _ => l.length - (intOf i).toNat)
  case atStart => exact ⟨0, by omega, rfl, hS⟩
  case round =>
    clear hS
    obtain ⟨k, hk, rfl, hS⟩ := hrel
    by_cases hlt : k < l.length
    · have p2 : (k : Int) < 1000000 := by have := HS.out; omega
      have p0 : (0 : Int) ≤ (k : Int) := by omega
      have p1 : (k : Int) < (l.length : Int) := by omega
      obtain ⟨ad, hA, hcell⟩ := Kd.at_int hS.2.2 (k : Int) p0 p1
      subst hA
      have hb0 := HL.out l[k] (List.getElem_mem hlt)
      rw [rd_at hlt, Int.toNat_natCast] at hcell
      have HE : Hid (l.take (k + 1) = l.take k ++ [l[k]]) := List.take_succ_eq_append_getElem hlt
      have hlen : Hid (([48, 120] ++ hexOf (l.take k)).length ≤ 2 + 2 * l.length) := by
        unfold Hid
        rw [List.length_append, hexOf_length, List.length_take]
        simp; omega
      obtain ⟨e, he⟩ : ∃ e, l[k] = e := ⟨_, rfl⟩
      rw [he] at hcell hb0 HE
      clear he
      have HQ : Hid (e / 16 = e / 16 ∧ 0 ≤ e / 16 ∧ e / 16 < 16 ∧ 0 ≤ e % 16 ∧ e % 16 < 16) := by unfold Hid; omega
      have x0 := hexs_lit (n := e / 16) (by omega) (by omega)
      have x1 := hexs_lit (n := e % 16) (by omega) (by omega)
      have q0 : 0 ≤ e / 16 := by omega
      have q1 : e / 16 < 16 := by omega
      have q2 : 0 ≤ e % 16 := by omega
      have q3 : e % 16 < 16 := by omega
      go_wp2_with fail
      refine start_ (n := 10) (S := TextS w (some ad) l u3 ([48, 120] ++ hexOf (l.take k))) (ds := [8]) #[false, false, false, false, false, false, false, false, false, false] (by kernel_rfl) rfl rfl (hS.below (bel_drew (Below.refl _ _))) (fun hHeld => ?_)
      refine gen_last hHeld ?_
      clear hHeld
      intro wd hHeld
      refine pure_ (i := 0) (N := some 14) (v := ?_) (a' := ?_) #[true, false, false, false, false, false, false, false, false, false] rfl rfl (by kernel_rfl) (fun _ _ _ h => h) (Or.inl ⟨by rfl, ?_⟩) ?_ ?_
      rotate_left
      · intro w2
        (go_simp; (try go_bits); with_reducible rfl)
      rotate_left
      · simp only [Act.put, List.setIfInBounds_toArray, List.set_cons_zero, List.set_cons_succ, i64_w, i32_w]
        rfl
      refine pure_ (i := 1) (N := some 15) (v := ?_) (a' := ?_) #[true, true, false, false, false, false, false, false, false, false] rfl rfl (by kernel_rfl) (fun _ _ _ h => h) (Or.inl ⟨by rfl, ?_⟩) ?_ ?_
      rotate_left
      · intro w2
        (go_simp; (try go_bits); with_reducible rfl)
      rotate_left
      · simp only [Act.put, List.setIfInBounds_toArray, List.set_cons_zero, List.set_cons_succ, i64_w, i32_w]
        rfl
      refine pure_ (i := 2) (N := some 16) (v := ?_) (a' := ?_) #[true, true, true, false, false, false, false, false, false, false] rfl rfl (by kernel_rfl) (fun _ _ _ h => h) (Or.inl ⟨by rfl, ?_⟩) ?_ ?_
      rotate_left
      · intro w2
        (go_simp; (try go_bits); with_reducible rfl)
      rotate_left
      · simp only [Act.put, List.setIfInBounds_toArray, List.set_cons_zero, List.set_cons_succ, i64_w, i32_w]
        rfl
      refine pure_ (i := 3) (N := some 17) (v := ?_) (a' := ?_) #[true, true, true, true, false, false, false, false, false, false] rfl rfl (by kernel_rfl) (fun _ _ _ h => h) (Or.inl ⟨by rfl, ?_⟩) ?_ ?_
      rotate_left
      · intro w2
        (go_simp; (try go_bits); with_reducible rfl)
      rotate_left
      · simp only [Act.put, List.setIfInBounds_toArray, List.set_cons_zero, List.set_cons_succ, i64_w, i32_w]
        rfl
      refine pure_ (i := 4) (N := some 18) (v := ?_) (a' := ?_) #[true, true, true, true, true, false, false, false, false, false] rfl rfl (by kernel_rfl) (fun _ _ _ h => h) (Or.inl ⟨by rfl, ?_⟩) ?_ ?_
      rotate_left
      · intro w2
        (go_simp; (try go_bits); with_reducible rfl)
      rotate_left
      · simp only [Act.put, List.setIfInBounds_toArray, List.set_cons_zero, List.set_cons_succ, i64_w, i32_w]
        rfl
      refine pure_ (i := 5) (N := some 19) (v := ?_) (a' := ?_) #[true, true, true, true, true, true, false, false, false, false] rfl rfl (by kernel_rfl) (fun _ _ _ h => h) (Or.inl ⟨by rfl, ?_⟩) ?_ ?_
      rotate_left
      · intro w2
        (go_simp; (try go_bits); with_reducible rfl)
      rotate_left
      · simp only [Act.put, List.setIfInBounds_toArray, List.set_cons_zero, List.set_cons_succ, i64_w, i32_w]
        rfl
      refine pure_ (i := 6) (N := some 20) (v := ?_) (a' := ?_) #[true, true, true, true, true, true, true, false, false, false] rfl rfl (by kernel_rfl) (fun _ _ _ h => h) (Or.inl ⟨by rfl, ?_⟩) ?_ ?_
      rotate_left
      · intro w2
        (go_simp; (try go_bits); with_reducible rfl)
      rotate_left
      · simp only [Act.put, List.setIfInBounds_toArray, List.set_cons_zero, List.set_cons_succ, i64_w, i32_w]
        rfl
      refine one_ (i := 7) (N := some 21) #[true, true, true, true, true, true, true, true, false, false] rfl rfl (by kernel_rfl) (by decide) (fun K hK => ?_)
      go_simp
      try go_bits
      skip
      refine hK.out _ _ (hHeld.below (below_alloc (Below.refl _ _) _)) (fun hHeld => ?_)
      clear hK K
      refine norm_ (a' := ?_) ?_ ?_
      rotate_left
      · first | rfl | (simp only [Act.put, List.setIfInBounds_toArray, List.set_cons_zero, List.set_cons_succ, i64_w, i32_w]; rfl)
      refine last_ (i := 8) (N := some 22) #[true, true, true, true, true, true, true, true, true, false] rfl rfl (by kernel_rfl) (by decide) (fun K hK => ?_)
      refine ifw rfl ?_
      refine appb_append (.tmp 14) (.tmp 21) rfl rfl hHeld.1 hHeld.2.1 (ms := [dg (e / 16), dg (e % 16)]) rfl (two_cells _ _ _) (by simp) (by have := hlen.out; have := HS.out; simp only [List.length_cons, List.length_nil]; omega) ?_
      intro v1 w1 hO1 hB1
      refine hK.out _ _ ?_
      clear hK K
      refine norm_ (a' := ?_) ?_ ?_
      rotate_left
      · first | rfl | (simp only [Act.put, List.setIfInBounds_toArray, List.set_cons_zero, List.set_cons_succ, i64_w, i32_w]; rfl)
      refine pure_ (i := 9) (N := some 3) (v := ?_) (a' := ?_) #[true, true, true, true, true, true, true, true, true, true] rfl rfl (by kernel_rfl) (fun _ _ _ h => h) (Or.inl ⟨by rfl, ?_⟩) ?_ ?_
      rotate_left
      · intro w2
        (go_simp; (try go_bits); with_reducible rfl)
      rotate_left
      · simp only [Act.put, List.setIfInBounds_toArray, List.set_cons_zero, List.set_cons_succ, i64_w, i32_w]
        rfl
      refine done_ (by kernel_rfl) ?_
      go_wp2_with fail
      go_roundw
      case rel =>
        refine ⟨k + 1, by omega, by go_num, .inl ?_, hB1, Kd.C_below HR.out hB1⟩
        · rw [HE.out, hexOf_app, ← List.append_assoc]
          exact hO1
      case measure => simp [intOf]; omega
    · obtain rfl : k = l.length := by omega
      have hs := hS.1.string
      rw [List.take_length] at hs
      go_wp2_with fail
      go_ret
      exact ⟨rfl, hS.2.1⟩
end Go.Proofs.YtibhijjmmagdcaaGreatDoor
