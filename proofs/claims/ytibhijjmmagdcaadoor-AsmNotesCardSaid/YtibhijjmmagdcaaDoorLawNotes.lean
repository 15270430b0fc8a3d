/- smithylaw27.AsmNotes: the walk. -/
import Derived.Test.YtibhijjmmagdcaaDoorAsmMain
import Derived.Test.YtibhijjmmagdcaaDoorRefLines
namespace Go.Proofs.YtibhijjmmagdcaaDoor
set_option linter.unusedVariables false
set_option linter.unusedSimpArgs false
open Go.RowKit Go.Proofs.YtibhijjmmagdcaaDoorW.PrintWords Go.Proofs.YtibhijjmmagdcaaDoorW.PrintLast
set_option maxRecDepth 100000 in
theorem notes_long (s note : ByteArray) (w : World) (hm : MaxV w) (h : 1000 < s.size ∨ 50 < note.size) :
    Calls Tryd.prog 6 #[.string s, .string note] w fun e w' => e = .returned (.bool true) ∧ Below w.heap.size w w' := by
  have HM := Lib.hid hm
  have key : (1000 : Int) < s.size ∨ (¬ (1000 : Int) < s.size ∧ (50 : Int) < note.size) := by omega
  clear h hm
  rcases key with a | ⟨a, b⟩
  all_goals
    go_enter Tryd.func6, Tryd.ntmps6
    go_wp2_with (go_at_call 21; refine (fixed27 _ HM.out).mono ?_; rintro e w1 ⟨rfl, hb1⟩)
    go_ret
    exact ⟨rfl, hb1⟩
theorem sum_take (l : List Nat) (k : Nat) : (l.take k).sum ≤ l.sum := by
  conv => rhs; rw [← List.take_append_drop k l]
  rw [List.sum_append]
  omega
theorem bytesOf_lit2 (a b : UInt8) (s : ByteArray) : bytesOf (⟨#[a, b]⟩ ++ s) = (a.toNat : Int) :: (b.toNat : Int) :: bytesOf s := by simp [bytesOf, ByteArray.data_append]
theorem app_bytes (s t : ByteArray) : bytesOf (s ++ t) = bytesOf s ++ bytesOf t := by simp [bytesOf, ByteArray.data_append]
theorem noted_bytes (x note : ByteArray) : bytesOf (⟨#[32, 9]⟩ ++ x ++ ⟨#[32, 59]⟩ ++ note) = notedF (bytesOf note) (bytesOf x) := by
  rw [app_bytes, app_bytes, app_bytes]
  simp [notedF, bytesOf]
/-- The text that is made so far. -/
def NoteT (note : ByteArray) (O : List ByteArray) (k : Nat) (T : ByteArray) : Prop := bytesOf T = joinF (((O.map bytesOf).take k).map (notedF (bytesOf note)))
theorem NoteT.next {note : ByteArray} {O : List ByteArray} {k : Nat} {T : ByteArray} (h : NoteT note O k T) (hk : k < O.length) : NoteT note O (k + 1) ((if k = 0 then T else T ++ ⟨#[10]⟩) ++ (⟨#[32, 9]⟩ ++ O[k] ++ ⟨#[32, 59]⟩ ++ note)) := by
  unfold NoteT at h ⊢
  have hk' : k < (O.map bytesOf).length := by simpa using hk
  rw [List.take_add_one, List.getElem?_eq_getElem hk', Option.toList_some, List.map_append, List.map_cons, List.map_nil, joinF_snoc, app_bytes, noted_bytes, ← h, List.getElem_map]
  congr 1
  by_cases h0 : k = 0
  · subst h0
    simp
  · rw [if_neg h0, if_neg (by
      intro e
      have h1 := congrArg List.length e
      have h2 : ((O.map bytesOf).take k).length = k := by rw [List.length_take, List.length_map]; omega
      rw [List.length_map, h2] at h1
      simp at h1
      omega), app_bytes]
    simp [bytesOf]
theorem NoteT.size {note : ByteArray} {O : List ByteArray} {k : Nat} {T s : ByteArray} (h : NoteT note O k T) (hl : linesF (bytesOf s) = O.map bytesOf) (hs : s.size ≤ 1000) (hn : note.size ≤ 50) : T.size ≤ 60000 ∧ ∀ j (hj : j < O.length), O[j].size ≤ 1000 := by
  obtain ⟨h1, h2⟩ := lines_len (bytesOf s)
  rw [hl, bytesOf_length] at h2
  rw [hl, bytesOf_length, List.length_map] at h1
  rw [List.length_map] at h2
  constructor
  · have h3 := noted_len (bytesOf note) ((O.map bytesOf).take k)
    rw [← h, bytesOf_length, bytesOf_length, List.map_take] at h3
    have h4 := sum_take ((O.map bytesOf).map List.length) k
    have h5 : (((O.map bytesOf).take k)).length ≤ 1001 := by rw [List.length_take, List.length_map]; omega
    have h6 : (((O.map bytesOf).take k)).length * (note.size + 5) ≤ 1001 * 55 := Nat.mul_le_mul h5 (by omega)
    omega
  · intro j hj
    have h7 : bytesOf O[j] ∈ linesF (bytesOf s) := by rw [hl]; exact List.mem_map.2 ⟨_, List.getElem_mem hj, rfl⟩
    have := lines_mem_size h7
    rw [bytesOf_length, bytesOf_length] at this
    omega
theorem OwnT.cells {w : World} {base : Nat} {v : Value} {l : List ByteArray} (h : OwnT w base v l) (hl : 0 < l.length) : ∃ g c, v = .slice (some ⟨g, 0, none⟩) l.length c ∧ ∀ j (hj : j < l.length), w.cell? ⟨g, j, none⟩ = some (.string l[j]) := by
  rcases h.2 with ⟨he, hx⟩ | ⟨g, cap, cur, hv, _⟩
  · omega
  · subst hv
    refine ⟨g, cap, rfl, fun j hj => ?_⟩
    have h1 : w.ownsRow base 9 1 (.slice (some ⟨g, 0, none⟩) l.length cap) l.length (encs Value.string l) := h
    rw [h1.cellAt j (by omega)]
    simp [encs, List.getElem?_eq_getElem hj]
set_option maxRecDepth 100000 in
set_option maxHeartbeats 1000000 in
theorem notes_main (s note : ByteArray) (w : World) (hm : MaxV w) (hs : s.size ≤ 1000) (hn : note.size ≤ 50) :
    Calls Tryd.prog 6 #[.string s, .string note] w fun e w' => e = .returned (.bool true) ∧ Below w.heap.size w w' := by
  have HM := Lib.hid hm
  have q1 : ¬ (1000 : Int) < s.size := by omega
  have q2 : ¬ (50 : Int) < note.size := by omega
  have HS := Lib.hid hs
  have HN := Lib.hid hn
  clear hm hs hn
  go_enter Tryd.func6, Tryd.ntmps6
  go_wp2_with fail
  go_loopw [26] (fun i wr => ∃ k : Nat, k ≤ note.size ∧ i = .int .i64 k ∧ (∀ j, j < k → bt note (j : Int) ≠ 10) ∧ wr = w) (fun i _ => note.size - (intOf i).toNat)
  case atStart => exact ⟨0, by omega, rfl, fun j hj => by omega, rfl⟩
  case round =>
    obtain ⟨m, hm, rfl, hno, rfl⟩ := hrel
    by_cases hmlt : m < note.size
    · have r0 : (0 : Int) ≤ (m : Int) := by omega
      have r1 : (m : Int) < (note.size : Int) := by omega
      have r2 : (m : Int) < 1000000 := by have := HN.out; omega
      have bb := bt_nat note m
      have HNO := Lib.hid hno
      clear hno
      by_cases h10 : bt note (m : Int) = 10
      · go_wp2_with (go_at_call 21; refine (fixed27 _ HM.out).mono ?_; rintro e w2 ⟨rfl, hb2⟩)
        go_ret
        exact ⟨rfl, hb2⟩
      · have g10 : (bt note (m : Int) == 10) = false := beq_eq_false_iff_ne.2 h10
        have H10 := Lib.hid h10
        clear h10
        go_wp2_with fail
        go_roundw
        case rel => exact ⟨m + 1, by omega, by go_num, fun j hj => by
          rcases Nat.lt_or_ge j m with h | h
          · exact HNO.out j h
          · obtain rfl : j = m := by omega
            exact H10.out, trivial⟩
        case measure => simp [intOf]; omega
    · obtain rfl : m = note.size := by omega
      obtain ⟨w, rfl⟩ : ∃ w : World, w = wr := ⟨_, rfl⟩
      have hb10 : (10 : Int) ∉ bytesOf note := fun h => by
        obtain ⟨k, hk, he⟩ := List.mem_iff_getElem.1 h
        rw [bytesOf_length] at hk
        rw [bytesOf_get note k hk] at he
        exact hno k hk he
      have HNB := Lib.hid hb10
      have HLI := Lib.hid (lines_any s (by have := HS.out; omega))
      clear hno hb10
      go_wp2_with (go_at_call 22; refine (HLI.out _).mono ?_; rintro e w1 ⟨v, O, rfl, hl, hO, hb1⟩; have hpos : 0 < O.length := (by have h1 := linesF_ne (bytesOf s); rw [hl] at h1; rcases O with _ | ⟨x, O⟩ <;> simp_all); obtain ⟨g, c, rfl, hcl⟩ := hO.cells hpos; have HCL := Lib.hid hcl; have HL := Lib.hid hl; have HB := Lib.hid hb1; have hol : O.length ≤ 1001 := (by have h1 := (lines_len (bytesOf s)).1; rw [hl, bytesOf_length, List.length_map] at h1; have := HS.out; omega); clear hcl hl hb1 hO hpos)
      obtain ⟨wo, rfl⟩ : ∃ wo : World, wo = w1 := ⟨_, rfl⟩
      have HOL := Lib.hid hol
      clear hol
      go_loopw [6, 38] (fun t i wx => ∃ (T : ByteArray) (k : Nat), k ≤ O.length ∧ t = .string T ∧ i = .int .i64 k ∧ NoteT note O k T ∧ wx = wo) (fun _ i _ => O.length - (intOf i).toNat)
      case atStart => exact ⟨⟨#[]⟩, 0, by omega, rfl, rfl, rfl, rfl⟩
      case round =>
        obtain ⟨T, k, hk, rfl, rfl, hT, rfl⟩ := hrel
        by_cases hlt : k < O.length
        · have p0 : (0 : Int) ≤ (k : Int) := by omega
          have p1 : (k : Int) < (O.length : Int) := by omega
          have p2 : (k : Int) < 1000000 := by have := HOL.out; omega
          have cc := HCL.out k hlt
          obtain ⟨hts, hxs⟩ := hT.size HL.out HS.out HN.out
          have hxk := hxs k hlt
          have HT := Lib.hid (hT.next hlt)
          have hns := HN.out
          obtain ⟨x, hx⟩ : ∃ x, O[k] = x := ⟨_, rfl⟩
          rw [hx] at cc hxk HT
          have zA : ¬ 9223372036854775807 < 2 + x.size := by omega
          have zB : ¬ 9223372036854775807 < 2 + x.size + 2 := by omega
          have zC : ¬ 9223372036854775807 < 2 + x.size + 2 + note.size := by omega
          have zD : ¬ 9223372036854775807 < T.size + (2 + x.size + 2 + note.size) := by omega
          have zE : ¬ 9223372036854775807 < T.size + 1 := by omega
          have zF : ¬ 9223372036854775807 < T.size + 1 + (2 + x.size + 2 + note.size) := by omega
          clear hx hxs hT hxk hts hns
          by_cases h0 : k = 0
          · rw [if_pos h0] at HT
            have qd : decide (0 < k) = false := decide_eq_false (by omega)
            clear h0
            go_wp2_with fail
            go_roundw
            case rel => exact ⟨_, k + 1, by omega, rfl, by go_num, HT.out, trivial⟩
            case measure => simp [intOf]; omega
          · rw [if_neg h0] at HT
            have qd : decide (0 < k) = true := decide_eq_true (by omega)
            clear h0
            go_wp2_with fail
            go_roundw
            case rel => exact ⟨_, k + 1, by omega, rfl, by go_num, HT.out, trivial⟩
            case measure => simp [intOf]; omega
        · obtain rfl : k = O.length := by omega
          have hTS := (hT.size HL.out HS.out HN.out).1
          have hcn : codeF (bytesOf T) = codeF (bytesOf s) := by
            have h1 : bytesOf T = joinF ((linesF (bytesOf s)).map (notedF (bytesOf note))) := by
              rw [HL.out]
              have h2 := hT
              unfold NoteT at h2
              rw [List.take_of_length_le (by simp)] at h2
              exact h2
            rw [h1]
            exact code_noted _ _ HNB.out (by rw [bytesOf_length]; have := HS.out; omega) (by rw [← h1, bytesOf_length]; omega)
          have HC1 := Lib.hid fun (W : World) (h : Below w.heap.size w W) => code_str s W (HM.out.below HM.out.lt h)
          have HC2 := Lib.hid fun (W : World) (h : Below w.heap.size w W) => code_str T W (HM.out.below HM.out.lt h)
          rw [hcn] at HC2
          obtain ⟨⟨a, n1, e1⟩, h1⟩ : ∃ r, codeF (bytesOf s) = r := ⟨_, rfl⟩
          rw [h1] at HC1 HC2
          clear h1 hcn hT hTS
          go_wp2_with (first | (go_at_call 23; first | (have _g := E2; refine (HC2.out _ E2.out).mono ?_; rintro e w3 ⟨v3, rfl, hv3, hb3, hl3⟩; have E3 := Lib.hid (bel_then E2.out hb3); have B3 := Lib.hid hb3; have V3 := Lib.hid hv3; clear hb3 hv3 hl3 _g) | (refine (HC1.out _ HB.out).mono ?_; rintro e w2 ⟨v2, rfl, hv2, hb2, hl2⟩; have E2 := Lib.hid (bel_then HB.out hb2); have V2 := Lib.hid hv2; clear hb2 hv2 hl2)) | (go_at_call 21; refine (fixed27 _ (HM.out.below HM.out.lt E3.out)).mono ?_; rintro e w5 ⟨rfl, hb5⟩; have B5 := Lib.hid hb5; have k3 := V3.out _ hb5; have k2 := V2.out _ (bel_then B3.out hb5); clear hb5))
          go_ret
          exact ⟨rfl, bel_then E3.out B5.out⟩
theorem asmNotes_any (s note : ByteArray) (w : World) (hm : MaxV w) : Calls Tryd.prog 6 #[.string s, .string note] w fun e w' => e = .returned (.bool true) ∧ Below w.heap.size w w' := by
  by_cases h : 1000 < s.size ∨ 50 < note.size
  · exact notes_long s note w hm h
  · exact notes_main s note w hm (by omega) (by omega)
end Go.Proofs.YtibhijjmmagdcaaDoor
