/- ops.data and ops.Dests, walked. -/
import Derived.Test.YtibhijjmmagdcaaDoorDestsPlain
import Derived.Test.YtibhijjmmagdcaaDoorOpsInfo2
import Derived.Test.YtibhijjmmagdcaaDoorHexText
namespace Go.Proofs.YtibhijjmmagdcaaDoor
set_option linter.unusedVariables false
set_option linter.unusedSimpArgs false
open Go.RowKit Go.Proofs.YtibhijjmmagdcaaDoorW.PrintWords Go.Proofs.YtibhijjmmagdcaaDoorW.PrintLast
theorem infoI : (Tryd.prog.info? 3).map (fun i => (i.zero, i.size, i.bytes)) = some (some (.int .i64 0), 1, 8) := by kernel_rfl
/-- A row of whole numbers of the call's own. -/
def OwnI (w : World) (base : Nat) (v : Value) (l : List Int) : Prop := w.ownsRow base 3 1 v l.length (nums .i64 l)
theorem OwnI.nil (w : World) (base : Nat) : OwnI w base (.slice none 0 0) [] := own_nil _ _ _ _
theorem OwnI.below {w w1 : World} {base : Nat} {v : Value} {l : List Int} (h : OwnI w base v l) (hb : Below w.heap.size w w1) : OwnI w1 base v l := pw_own_below h hb
theorem OwnI.reads {w : World} {base : Nat} {v : Value} {l : List Int} (h : OwnI w base v l) : ∃ A c, v = .slice A l.length c ∧ l.length ≤ c ∧ (Kd.int .i64).C w A l.length l := by
  obtain ⟨A, c, he, hr⟩ := own_reads h
  have hc : l.length ≤ c := by
    rcases h.2 with ⟨e, h0⟩ | ⟨g, cap, cur, e, _, _, hle, _⟩
    · rw [he] at e; injection e with _ e1 e2; omega
    · rw [he] at e; injection e with _ e1 e2; omega
  exact ⟨A, c, he, hc, Kd.C_of_reads (d := (0 : Int)) hr⟩
theorem data_any (c : Int) (w : World) (h0 : 0 ≤ c) (h1 : c < 256) :
    Calls Tryd.prog 53 #[.int .u8 c] w fun e w' => e = .returned (.int .i64 (dataF c)) ∧ w = w' := by
  by_cases hp : 96 ≤ c ∧ c ≤ 127
  · have HN : Hid ((dataF c : Int) = c - 95) := by rw [Hid, dataF, if_pos hp]; omega
    obtain ⟨a1, a2⟩ := hp
    go_enter Tryd.func53, Tryd.ntmps53
    go_wp2
    go_ret
    exact ⟨by rw [HN.out]; rfl, rfl⟩
  · have HN : Hid (dataF c = 0) := by rw [Hid, dataF, if_neg hp]
    have key : c < 96 ∨ 127 < c := by omega
    rcases key with k | k
    all_goals
      go_enter Tryd.func53, Tryd.ntmps53
      go_wp2
      go_ret
      exact ⟨by rw [HN.out]; rfl, rfl⟩
theorem dataF_le (c : Int) : dataF c ≤ 32 := by unfold dataF; split <;> omega
set_option maxRecDepth 100000 in
theorem dests_any (A : Option Addr) (c : Nat) (l : List Int) (w : World) (hr : (Kd.int .u8).C w A l.length l) (hc : l.length ≤ c) (hl : ∀ c ∈ l, 0 ≤ c ∧ c < 256) (hsz : l.length ≤ 1000000) :
    Calls Tryd.prog 27 #[.slice A l.length c] w fun e w' => ∃ v, e = .returned v ∧ OwnI w' w.heap.size v (destsF l) ∧ Below w.heap.size w w' := by
  have HL := Lib.hid hl
  have HR := Lib.hid hr
  have HS := Lib.hid hsz
  clear hl hr hsz
  go_enter Tryd.func27, Tryd.ntmps27
  go_wp2_with fail
  go_loopw [3, 4] (fun v i wr => ∃ (k : Nat) (d : List Int), k ≤ l.length + 33 ∧ d.length ≤ k ∧ i = .int .i64 k ∧ destsF l = d ++ destsS k 0 (l.drop k) ∧ OwnI wr w.heap.size v d ∧ Below w.heap.size w wr) (fun _ i _ => l.length - (intOf i).toNat)
  case atStart => exact ⟨0, [], by omega, by simp, rfl, rfl, OwnI.nil _ _, Below.refl _ _⟩
  case round =>
    obtain ⟨k, d, hk, hdk, rfl, hspec, hO, hB⟩ := hrel
    by_cases hlt : k < l.length
    · have p2 : (k : Int) < 1000000 := by have := HS.out; omega
      have p0 : (0 : Int) ≤ (k : Int) := by omega
      have p1 : (k : Int) < (l.length : Int) := by omega
      obtain ⟨ad, hA, HCL⟩ : ∃ ad, A = some ad ∧ Hid (∀ W, Below w.heap.size w W → W.cell? (ad.add k) = some (.int .u8 l[k])) := by
        obtain ⟨ad, hA, _⟩ := Kd.at_int HR.out (k : Int) p0 p1
        refine ⟨ad, hA, fun W hb => ?_⟩
        obtain ⟨ad', hA', hc⟩ := Kd.at_int (Kd.C_below HR.out hb) (k : Int) p0 p1
        rw [hA] at hA'
        injection hA' with hA'
        subst hA'
        rw [rd_at hlt, Int.toNat_natCast] at hc
        exact hc
      subst hA
      have hb0 := HL.out l[k] (List.getElem_mem hlt)
      have HST : Hid (destsF l = d ++ ((if l[k] = 91 then [(k : Int)] else []) ++ destsS (k + (1 + dataF l[k])) 0 (l.drop (k + (1 + dataF l[k]))))) := by
        rw [Hid, hspec, List.drop_eq_getElem_cons hlt, destsS_step, List.drop_drop, show k + 1 + dataF l[k] = k + (1 + dataF l[k]) by omega]
      obtain ⟨e, he⟩ : ∃ e, l[k] = e := ⟨_, rfl⟩
      rw [he] at HCL hb0 HST
      clear he hspec
      have hcell := HCL.out wr hB
      have hdl := dataF_le e
      have HO := Lib.hid hO
      have hW := hB.size
      have hl : d.length ≤ 1000000 := by have := HS.out; omega
      by_cases h91 : e = 91
      · have HST2 : Hid (destsF l = (d ++ [(k : Int)]) ++ destsS (k + (1 + dataF e)) 0 (l.drop (k + (1 + dataF e)))) := by rw [Hid, HST.out, if_pos h91, List.append_assoc]
        subst h91
        clear hO
        go_wp2_with (first | (at_builtin; refine print_append_num w.heap.size rfl (.tmp 22) (.tmp 24) 55 3 .i64 8 rfl Tryd.underlying55 infoI (by decide) _ d _ rfl rfl HO.out hB hW (by omega) ?_; intro v1 w1 ho hb1 _ _; have hcell1 := HCL.out w1 hb1) | (go_at_call 53; refine (data_any _ _ (by omega) (by omega)).mono ?_; rintro e1 w2 ⟨rfl, rfl⟩))
        go_roundw
        case rel => exact ⟨k + (1 + dataF 91), _, by omega, by simp; omega, by go_num, HST2.out, ho, hb1⟩
        case measure => simp [intOf]; omega
      · have HST2 : Hid (destsF l = d ++ destsS (k + (1 + dataF e)) 0 (l.drop (k + (1 + dataF e)))) := by rw [Hid, HST.out, if_neg h91, List.nil_append]
        have h91b : (e == 91) = false := by simpa using h91
        go_wp2_with (go_at_call 53; refine (data_any _ _ (by omega) (by omega)).mono ?_; rintro e1 w2 ⟨rfl, rfl⟩)
        go_roundw
        case rel => exact ⟨k + (1 + dataF e), d, by omega, by omega, by go_num, HST2.out, hO, hB⟩
        case measure => simp [intOf]; omega
    · have hd : destsF l = d := by rw [hspec, List.drop_eq_nil_of_le (by omega), destsS, List.append_nil]
      have HD := Lib.hid hd
      clear hspec hd
      go_wp2_with fail
      go_ret
      exact ⟨_, rfl, by rw [HD.out]; exact hO, hB⟩
end Go.Proofs.YtibhijjmmagdcaaDoor
