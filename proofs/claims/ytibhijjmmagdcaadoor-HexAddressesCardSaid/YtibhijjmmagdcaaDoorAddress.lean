/- hex.Address. -/
import Derived.Test.YtibhijjmmagdcaaDoorRefBytes
namespace Go.Proofs.YtibhijjmmagdcaaDoor
set_option linter.unusedVariables false
set_option linter.unusedSimpArgs false
open Go.RowKit Go.Proofs.YtibhijjmmagdcaaDoorW.PrintWords Go.Proofs.YtibhijjmmagdcaaDoorW.PrintLast
def addrErr : Option (List Int) → Int
  | none => 2
  | some l => if l.length < 20 then 3 else if 20 < l.length then 4 else 0
def addrF (o : Option (List Int)) (i : Nat) : Int := if addrErr o = 0 then (o.getD []).getD i 0 else 0
theorem size40 : (Tryd.prog.info? 40).map (·.size) = some 20 := by kernel_rfl
theorem zero40 (w : World) : (zeroValue 40).run Tryd.prog w = .ok (.agg (arrF .u8 20 fun _ => 0)) w := by kernel_rfl
theorem array40 (W : World) (g c : Nat) : (Instr.arrayAt 40 (.slice (some ⟨g, 0, none⟩) 20 c)).run Tryd.prog W = .ok (.pointer (some ⟨g, 0, none⟩)) W := by kernel_rfl
theorem OwnB.range {w : World} {base : Nat} {v : Value} {l : List Int} (h : OwnB w base v l) (hn : 0 < l.length) : ∃ g c, v = .slice (some ⟨g, 0, none⟩) l.length c ∧ l.length ≤ c ∧ base ≤ g ∧ w.rangeAt g 0 (nums .u8 l) := by
  obtain ⟨A, c, he, hc, hr⟩ := h.reads
  rcases h.2 with ⟨e, h0⟩ | ⟨g, cap, cur, e, hb, _, _, _⟩
  · omega
  · rw [he] at e
    injection e with e1 e2 e3
    subst e1; subst e3
    refine ⟨g, c, he, hc, hb, fun j u hj => ?_⟩
    obtain ⟨hlt, rfl⟩ := nums_get hj
    obtain ⟨ad, ha, hcell⟩ := Kd.at_int hr (j : Int) (by omega) (by omega)
    injection ha with ha
    subst ha
    rw [Int.toNat_natCast, add_plain, rd_at hlt] at hcell
    rw [Nat.zero_add]
    exact hcell
theorem nums_arr {l : List Int} {n : Nat} (h : l.length = n) : (nums .u8 l).toArray = arrF .u8 n fun i => l.getD i 0 := by
  apply Array.ext_getElem?
  intro j
  rw [arrF_get, List.getElem?_toArray]
  by_cases hj : j < n
  · rw [if_pos hj, nums_at (by omega)]; simp [List.getD, show j < l.length by omega]
  · rw [if_neg hj, List.getElem?_eq_none (by rw [nums_length]; omega)]
theorem addr_bytes (s : ByteArray) (hs : s.size ≤ 1000000) (w : World) :
    Calls Tryd.prog 14 #[.string s] w fun e w' => ∃ A c, e = .returned (.tuple #[.slice A ((bytesOfText (bytesOf s)).getD []).length c, .int .i64 (formErr (bytesOfText (bytesOf s)))]) ∧ OwnB w' w.heap.size (.slice A ((bytesOfText (bytesOf s)).getD []).length c) ((bytesOfText (bytesOf s)).getD []) ∧ Below w.heap.size w w' := by
  refine (bytes_hex s hs w).mono ?_
  rintro e w' ⟨v, rfl, hO, hB⟩
  obtain ⟨A, c, rfl, _, _⟩ := hO.reads
  exact ⟨A, c, rfl, hO, hB⟩
set_option maxRecDepth 100000 in
theorem address_hex (s : ByteArray) (hs : s.size ≤ 1000000) (w : World) :
    Calls Tryd.prog 20 #[.string s] w fun e w' => e = .returned (.tuple #[.agg (arrF .u8 20 (addrF (bytesOfText (bytesOf s)))), .int .i64 (addrErr (bytesOfText (bytesOf s)))]) ∧ Below w.heap.size w w' := by
  have HB := Lib.hid (addr_bytes s hs)
  obtain ⟨o, ho⟩ : ∃ o, o = bytesOfText (bytesOf s) := ⟨_, rfl⟩
  rw [← ho] at HB ⊢
  clear ho
  have hz := zero40
  have hsz := size40
  have har := array40
  have f0 : Blk (w.alloc (.cells (arrF .u8 20 fun _ => 0) 40)) w.heap.size (arrF .u8 20 fun _ => 0) 40 := Blk.new _ _ _
  have F0 := Lib.hid f0
  clear f0
  have hlt := Lib.hid (show w.heap.size < (w.alloc (.cells (arrF .u8 20 fun _ => 0) 40)).heap.size by simp)
  have HOUT : Hid (∀ {W W1 : World}, Below (w.alloc (.cells (arrF .u8 20 fun _ => 0) 40)).heap.size (w.alloc (.cells (arrF .u8 20 fun _ => 0) 40)) W → Only W W1 w.heap.size → Below w.heap.size w W1) := fun hb hO => Only.below (bel_then (below_alloc (Below.refl _ _) _) hb) hO (Nat.le_refl _)
  cases o with
  | none =>
    have H0 : Hid (arrF .u8 20 (addrF none) = arrF .u8 20 fun _ => 0) := arrF_ext fun i _ => by rfl
    rw [H0.out]
    go_enter Tryd.func20, Tryd.ntmps20
    go_wp2_with (first | (go_at_call 14; refine (HB.out _).mono ?_; rintro e w1 ⟨A1, c1, rfl, hO1, hb1⟩) | ((with_reducible refine gate_op (.store 40 (.tmp 2) (.tmp 14)) rfl ?_); refine wpl_store_blk rfl 40 (.tmp 2) (.tmp 14) rfl _ rfl _ _ _ rfl (F0.out.below hb1) 20 size40 (arrF_size _ _ _) (arrF_size _ _ _) (arrF_one _ _ _) ?_; intro W hO hB))
    refine ret_blk2 Tryd.results20 _ _ _ _ rfl hB Tryd.underlying40 rfl 20 size40 (arrF_size _ _ _) rfl ⟨rfl, HOUT.out hb1 hO⟩
  | some l =>
    by_cases h1 : l.length < 20
    · have H0 : Hid (arrF .u8 20 (addrF (some l)) = arrF .u8 20 fun _ => 0) := arrF_ext fun i _ => by rw [addrF, addrErr, if_pos h1]; rfl
      have H1 : Hid (addrErr (some l) = 3) := by rw [Hid, addrErr, if_pos h1]
      have h1' : (l.length : Int) < 20 := by omega
      rw [H0.out, H1.out]
      clear h1
      go_enter Tryd.func20, Tryd.ntmps20
      go_wp2_with (first | (go_at_call 14; refine (HB.out _).mono ?_; rintro e w1 ⟨A1, c1, rfl, hO1, hb1⟩) | ((with_reducible refine gate_op (.store 40 (.tmp 2) (.tmp 20)) rfl ?_); refine wpl_store_blk rfl 40 (.tmp 2) (.tmp 20) rfl _ rfl _ _ _ rfl (F0.out.below hb1) 20 size40 (arrF_size _ _ _) (arrF_size _ _ _) (arrF_one _ _ _) ?_; intro W hO hB))
      refine ret_blk2 Tryd.results20 _ _ _ _ rfl hB Tryd.underlying40 rfl 20 size40 (arrF_size _ _ _) rfl ⟨rfl, HOUT.out hb1 hO⟩
    by_cases h2 : 20 < l.length
    · have H0 : Hid (arrF .u8 20 (addrF (some l)) = arrF .u8 20 fun _ => 0) := arrF_ext fun i _ => by rw [addrF, addrErr, if_neg h1, if_pos h2]; rfl
      have H1 : Hid (addrErr (some l) = 4) := by rw [Hid, addrErr, if_neg h1, if_pos h2]
      have h1' : ¬ (l.length : Int) < 20 := by omega
      have h2' : (20 : Int) < l.length := by omega
      rw [H0.out, H1.out]
      clear h1 h2
      go_enter Tryd.func20, Tryd.ntmps20
      go_wp2_with (first | (go_at_call 14; refine (HB.out _).mono ?_; rintro e w1 ⟨A1, c1, rfl, hO1, hb1⟩) | ((with_reducible refine gate_op (.store 40 (.tmp 2) (.tmp 25)) rfl ?_); refine wpl_store_blk rfl 40 (.tmp 2) (.tmp 25) rfl _ rfl _ _ _ rfl (F0.out.below hb1) 20 size40 (arrF_size _ _ _) (arrF_size _ _ _) (arrF_one _ _ _) ?_; intro W hO hB))
      refine ret_blk2 Tryd.results20 _ _ _ _ rfl hB Tryd.underlying40 rfl 20 size40 (arrF_size _ _ _) rfl ⟨rfl, HOUT.out hb1 hO⟩
    have h20 : l.length = 20 := by omega
    have H0 : Hid (arrF .u8 20 (addrF (some l)) = arrF .u8 20 fun i => l.getD i 0) := arrF_ext fun i _ => by rw [addrF, addrErr, if_neg h1, if_neg h2]; rfl
    have H1 : Hid (addrErr (some l) = 0) := by rw [Hid, addrErr, if_neg h1, if_neg h2]
    have HLoad : Hid (∀ {W : World} {A : Option Addr} {c base : Nat}, OwnB W base (.slice A l.length c) l → ∃ g, A = some ⟨g, 0, none⟩ ∧ W.rangeAt g 0 (nums .u8 l)) := fun {W A c base} h => by
      obtain ⟨g, c', he, _, _, hr⟩ := h.range (by omega)
      injection he with e1
      exact ⟨g, e1, hr⟩
    have HN := Lib.hid (nums_arr h20)
    have HM : Hid ((nums .u8 l).length = 20) := by rw [Hid, nums_length, h20]
    have h20' : (l.length : Int) = 20 := by omega
    rw [H0.out, H1.out]
    clear h1 h2
    go_enter Tryd.func20, Tryd.ntmps20
    go_wp2_with (first | (go_at_call 14; refine (HB.out _).mono ?_; rintro e w1 ⟨A1, c1, rfl, hO1, hb1⟩; obtain ⟨g, rfl, hrg⟩ := HLoad.out hO1) | ((with_reducible refine gate_op (.load 40 (.tmp 27)) rfl ?_); refine wpList_load_mid rfl 40 (.tmp 27) rfl g 0 rfl (nums .u8 l) _ hrg Tryd.underlying40 rfl (by rw [HM.out]; exact size40) ?_; rw [HN.out]) | ((with_reducible refine gate_op (.store 40 (.tmp 2) (.tmp 28)) rfl ?_); refine wpl_store_blk rfl 40 (.tmp 2) (.tmp 28) rfl _ rfl _ _ _ rfl (F0.out.below hb1) 20 size40 (arrF_size _ _ _) (arrF_size _ _ _) (arrF_one _ _ _) ?_; intro W hO hB))
    refine ret_blk2 Tryd.results20 _ _ _ _ rfl hB Tryd.underlying40 rfl 20 size40 (arrF_size _ _ _) rfl ⟨rfl, HOUT.out hb1 hO⟩
end Go.Proofs.YtibhijjmmagdcaaDoor
