/- smithyref11.Owners and Dests, walked. -/
import Derived.Test.YtibhijjmmagdcaaGreatDoorOpsDests
import Derived.Test.YtibhijjmmagdcaaGreatDoorRefInfo
import Derived.Test.YtibhijjmmagdcaaGreatDoorRefBytes
namespace Go.Proofs.YtibhijjmmagdcaaGreatDoor
set_option linter.unusedVariables false
set_option linter.unusedSimpArgs false
open Go.RowKit Go.Proofs.YtibhijjmmagdcaaGreatDoorW.PrintWords Go.Proofs.YtibhijjmmagdcaaGreatDoorW.PrintLast
theorem own_emptyI {W : World} {g base : Nat} (h : Blk W g #[] 3) (hb : base ≤ g) : OwnI W base (.slice (some ⟨g, 0, none⟩) 0 0) [] :=
  ⟨rfl, .inr ⟨g, 0, #[], rfl, hb, h, Nat.le_refl _, by decide, rfl, rfl⟩⟩
theorem info_data {c : Int} (h0 : 0 ≤ c) (h1 : c < 256) : ((infoF c).getD zeroI).2.2.2.2 = (dataF c : Int) := by
  have := data_fin ⟨c.toNat, by omega⟩
  simp only [Int.toNat_of_nonneg h0] at this
  rw [this, dataF]
  split <;> omega
theorem info_for (c : Int) (w : World) (h0 : 0 ≤ c) (h1 : c < 256) :
    Calls Tryz.prog 19 #[.int .u8 c] w fun e w' => ∃ o k, o.2.2.2.2 = (dataF c : Int) ∧ e = .returned (.tuple #[.agg (opA o), .bool k]) ∧ Below w.heap.size w w' := by
  refine (refinfo_any c w h0 h1).mono ?_
  rintro e w' ⟨rfl, hb⟩
  rw [info_same h0 h1]
  exact ⟨_, _, info_data h0 h1, rfl, hb⟩
/-- A cell of bytes that came in, in whatever later world. -/
theorem byte_at {w : World} {A : Option Addr} {l : List Int} (hr : (Kd.int .u8).C w A l.length l) {k : Nat} (hk : k < l.length) :
    ∃ ad, A = some ad ∧ ∀ W, Below w.heap.size w W → W.cell? (ad.add k) = some (.int .u8 l[k]) := by
  obtain ⟨ad, hA, _⟩ := Kd.at_int hr (k : Int) (by omega) (by omega)
  refine ⟨ad, hA, fun W hb => ?_⟩
  obtain ⟨ad', hA', hc⟩ := Kd.at_int (Kd.C_below hr hb) (k : Int) (by omega) (by omega)
  rw [hA] at hA'
  injection hA' with hA'
  subst hA'
  rw [rd_at hk, Int.toNat_natCast] at hc
  exact hc
set_option maxRecDepth 100000 in
theorem owners_any (A : Option Addr) (c : Nat) (l : List Int) (w : World) (hr : (Kd.int .u8).C w A l.length l) (hc : l.length ≤ c) (hl : ∀ c ∈ l, 0 ≤ c ∧ c < 256) (hsz : l.length ≤ 1000000) :
    Calls Tryz.prog 18 #[.slice A l.length c] w fun e w' => ∃ v, e = .returned v ∧ OwnI w' w.heap.size v (ownS 0 0 0 l) ∧ Below w.heap.size w w' := by
  have HL := Lib.hid hl
  have HR := Lib.hid hr
  have HS := Lib.hid hsz
  clear hl hr hsz
  go_enter Tryz.func18, Tryz.ntmps18
  go_wp2_with fail
  refine wp_any_world (fun W => OwnI W w.heap.size (.slice (some ⟨w.heap.size, 0, none⟩) 0 0) [] ∧ Below w.heap.size w W) ⟨own_emptyI (Blk.new _ _ _) (Nat.le_refl _), below_alloc (Below.refl _ _) _⟩ ?_
  intro W hS
  go_loopw [3, 4, 5, 12] (fun v lf p i wr => ∃ (k L : Nat) (q : Int) (d : List Int), k ≤ l.length ∧ d.length = k ∧ L ≤ 32 ∧ i = .int .i64 k ∧ lf = .int .i64 L ∧ p = .int .i64 q ∧ ownS 0 0 0 l = d ++ ownS k q L (l.drop k) ∧ OwnI wr w.heap.size v d ∧ Below w.heap.size w wr) (fun _ _ _ i _ => l.length - (intOf i).toNat)
  case atStart => exact ⟨0, 0, 0, [], by omega, rfl, by omega, rfl, rfl, rfl, rfl, hS.1, hS.2⟩
  case round =>
    clear hS
    obtain ⟨k, L, q, d, hk, hd, hL, rfl, rfl, rfl, hspec, hO, hB⟩ := hrel
    by_cases hlt : k < l.length
    · have p2 : (k : Int) < 1000000 := by have := HS.out; omega
      have p0 : (0 : Int) ≤ (k : Int) := by omega
      have p1 : (k : Int) < (l.length : Int) := by omega
      have HO := Lib.hid hO
      have HD := Lib.hid hd
      have hW := hB.size
      have hl : d.length ≤ 1000000 := by have := HS.out; omega
      clear hO hd
      rw [List.drop_eq_getElem_cons hlt] at hspec
      by_cases h0 : 0 < L
      · obtain ⟨m, rfl⟩ : ∃ m, L = m + 1 := ⟨L - 1, by omega⟩
        rw [ownS] at hspec
        have HSP : Hid (ownS 0 0 0 l = (d ++ [q]) ++ ownS (k + 1) q m (l.drop (k + 1))) := by rw [Hid, hspec, List.append_assoc]; rfl
        clear hspec h0
        go_wp2_with (at_builtin; refine print_append_num w.heap.size rfl (.tmp 19) (.tmp 21) 63 3 .i64 8 rfl Tryz.underlying63 infoI (by decide) _ d _ rfl rfl HO.out hB hW (by omega) ?_; intro v1 w1 ho hb1 _ _)
        go_roundw
        case rel => exact ⟨k + 1, m, q, _, by omega, by simp [HD.out], by omega, by go_num, by go_num, rfl, HSP.out, ho, hb1⟩
        case measure => simp [intOf]; omega
      · obtain rfl : L = 0 := by omega
        rw [ownS] at hspec
        have HSP : Hid (ownS 0 0 0 l = (d ++ [(k : Int)]) ++ ownS (k + 1) k (dataF l[k]) (l.drop (k + 1))) := by rw [Hid, hspec, List.append_assoc]; rfl
        obtain ⟨ad, hA, HCL⟩ := byte_at HR.out hlt
        subst hA
        have hb0 := HL.out l[k] (List.getElem_mem hlt)
        have HC := Lib.hid HCL
        obtain ⟨e, he⟩ : ∃ e, l[k] = e := ⟨_, rfl⟩
        rw [he] at HC hb0 HSP
        have hdl := dataF_le e
        clear hspec h0 HCL he
        go_wp2_with (first | (at_builtin; refine print_append_num w.heap.size rfl (.tmp 24) (.tmp 26) 63 3 .i64 8 rfl Tryz.underlying63 infoI (by decide) _ d _ rfl rfl HO.out hB hW (by omega) ?_; intro v1 w1 ho hb1 _ _; have hcell := HC.out w1 hb1) | (go_at_call 19; refine (info_for _ _ (by omega) (by omega)).mono ?_; rintro e1 w2 ⟨o, kk, hdat, rfl, hb2⟩) | (((with_reducible refine gate_op (.store 41 (.tmp 7) (.tmp 34)) rfl ?_); refine wpl_store_blk rfl 41 (.tmp 7) (.tmp 34) rfl _ rfl _ _ _ rfl (Blk.new _ _ _) 5 size51 rfl rfl (opA_one _) ?_; intro w3 hO3 hB3); have f4 : w3.cell? ⟨w2.heap.size, 4, none⟩ = some (.int .i64 (dataF e)) := by rw [← hdat]; exact hB3.cell 4))
        go_roundw
        case rel =>
          have e23 : Below w2.heap.size w2 w3 := Only.below (below_alloc (Below.refl _ _) _) hO3 (Nat.le_refl _)
          exact ⟨k + 1, dataF e, k, _, by omega, by simp [HD.out], hdl, by go_num, rfl, rfl, HSP.out, (OwnI.below (OwnI.below ho hb2) e23), bel_then (bel_then hb1 hb2) e23⟩
        case measure => simp [intOf]; omega
    · have hd' : ownS 0 0 0 l = d := by rw [hspec, List.drop_eq_nil_of_le (by omega), ownS, List.append_nil]
      have HD := Lib.hid hd'
      clear hspec hd'
      go_wp2_with fail
      go_ret
      exact ⟨_, rfl, by rw [HD.out]; exact hO, hB⟩
theorem ints_at {w : World} {A : Option Addr} {l : List Int} (hr : (Kd.int .i64).C w A l.length l) {k : Nat} (hk : k < l.length) :
    ∃ ad, A = some ad ∧ ∀ W, Below w.heap.size w W → W.cell? (ad.add k) = some (.int .i64 l[k]) := by
  obtain ⟨ad, hA, _⟩ := Kd.at_int hr (k : Int) (by omega) (by omega)
  refine ⟨ad, hA, fun W hb => ?_⟩
  obtain ⟨ad', hA', hc⟩ := Kd.at_int (Kd.C_below hr hb) (k : Int) (by omega) (by omega)
  rw [hA] at hA'
  injection hA' with hA'
  subst hA'
  rw [rd_at hk, Int.toNat_natCast] at hc
  exact hc
theorem owners_reads (A : Option Addr) (c : Nat) (l : List Int) (w : World) (hr : (Kd.int .u8).C w A l.length l) (hc : l.length ≤ c) (hl : ∀ c ∈ l, 0 ≤ c ∧ c < 256) (hsz : l.length ≤ 1000000) :
    Calls Tryz.prog 18 #[.slice A l.length c] w fun e w' => ∃ A c, e = .returned (.slice A l.length c) ∧ (Kd.int .i64).C w' A (ownS 0 0 0 l).length (ownS 0 0 0 l) ∧ Below w.heap.size w w' := by
  refine (owners_any A c l w hr hc hl hsz).mono ?_
  rintro e w' ⟨v, rfl, hO, hb⟩
  obtain ⟨A, c, rfl, _, h⟩ := hO.reads
  refine ⟨A, c, by rw [ownS_len], h, hb⟩
end Go.Proofs.YtibhijjmmagdcaaGreatDoor
