/- AsmMain: AsmGood, AsmCode, AsmText1, Fixed27 in one text. -/
import Derived.Test.YtibhijjmmagdcaaGreatDoorAsmLine
import Derived.Test.YtibhijjmmagdcaaGreatDoorFixed11
import Derived.Test.YtibhijjmmagdcaaGreatDoorAsmBase
/- What the maker's state keeps: uses lie in the code, labels' places too; plain facts. -/
namespace Go.Proofs.YtibhijjmmagdcaaGreatDoor
set_option linter.unusedVariables false
set_option linter.unusedSimpArgs false
open Go.RowKit Go.Proofs.YtibhijjmmagdcaaGreatDoorW.PrintWords
structure GoodM (st : MkF) (N : Int) : Prop where
  uses : ∀ u ∈ st.uses, 0 ≤ u.1 ∧ u.1 + 2 ≤ (st.code.length : Int) ∧ (∀ c ∈ u.2.2, 0 ≤ c ∧ c < 256) ∧ u.2.2.length ≤ 32 ∧ 0 ≤ u.2.1 ∧ u.2.1 ≤ N
  labels : ∀ l v, st.labels l = some v → 0 ≤ v ∧ v ≤ (st.code.length : Int)
  bytes : ∀ c ∈ st.code, 0 ≤ c ∧ c < 256
theorem good0 (N : Int) : GoodM mk0 N := ⟨(fun u h => by cases h), (fun l v h => by cases h), (fun c h => by cases h)⟩
theorem GoodM.code {st : MkF} {N : Int} (h : GoodM st N) {c : List Int} (hc : ∀ x ∈ c, 0 ≤ x ∧ x < 256) : GoodM { st with code := st.code ++ c } N := by
  refine ⟨fun u hu => ?_, fun l v hl => ?_, fun x hx => ?_⟩
  · have := h.uses u hu; simp only [List.length_append]; refine ⟨this.1, by omega, this.2.2⟩
  · have := h.labels l v hl; simp only [List.length_append]; omega
  · rcases List.mem_append.1 hx with hx | hx
    · exact h.bytes x hx
    · exact hc x hx
theorem GoodM.more {st : MkF} {N M : Int} (h : GoodM st N) (hM : N ≤ M) : GoodM st M := ⟨fun u hu => by have := h.uses u hu; exact ⟨this.1, this.2.1, this.2.2.1, this.2.2.2.1, this.2.2.2.2.1, by omega⟩, h.labels, h.bytes⟩
theorem bytesN_byte (n : Int) (k : Nat) : ∀ c ∈ bytesN n k, 0 ≤ c ∧ c < 256 := lowL_byte (ofD_range _) k
theorem push_good {st : MkF} {N : Int} (h : GoodM st N) (size : Nat) (a : Int) (hs : size ≤ 32) (ha : 0 ≤ a ∧ a < M256) : GoodM (pushF size a st).2 N := by
  have h32 := sizeN_32 ha.1 ha.2
  obtain ⟨n, hn, hn32⟩ : ∃ n, (if size = 0 then max (sizeN a) 1 else size) = n ∧ n ≤ 32 := ⟨_, rfl, by split <;> omega⟩
  rw [pushF_of hn]
  split
  · exact h
  · rw [List.append_assoc]
    refine h.code fun x hx => ?_
    rcases List.mem_append.1 hx with hx | hx
    · simp at hx; omega
    · exact bytesN_byte a n x hx
theorem with_good {st : MkF} {N : Int} (h : GoodM st N) (n : Int) (hn : 0 ≤ n ∧ n ≤ N) (nm what : List Int) (hw : ∀ c ∈ what, 0 ≤ c ∧ c < 256) : GoodM (withF n nm what st).2 N := by
  unfold withF
  split
  · split <;> exact h
  split
  · split
    · rename_i hnm
      have hlen : what.tail.length ≤ 32 := by
        unfold namedF at hnm
        simp only [Bool.and_eq_true, decide_eq_true_eq] at hnm
        exact hnm.1.1.2
      have hc := h.code (c := [97, 0, 0]) (by intro x hx; simp at hx; omega)
      refine ⟨fun u hu => ?_, hc.labels, hc.bytes⟩
      rcases List.mem_append.1 hu with hu | hu
      · exact hc.uses u hu
      · simp only [List.mem_singleton] at hu
        subst hu
        exact ⟨by simp only; omega, by simp only [List.length_append, List.length_cons, List.length_nil]; omega, fun c hc => hw c (List.mem_of_mem_tail hc), hlen, hn⟩
    · exact h
  split
  · exact h
  split
  · split
    · exact h
    · rename_i hsz
      have hr := numVal_range what
      have := (sizeN_le _ hr.1 1).1 (by omega)
      refine h.code fun x hx => ?_
      simp at hx
      omega
  · rename_i k hk
    have := pushes_range hk
    exact push_good h _ _ (by omega) (numVal_range what)
theorem line_good {st : MkF} {N : Int} (h : GoodM st N) (n : Int) (hn : 0 ≤ n ∧ n ≤ N) (ws : List (List Int)) (hw : ∀ x ∈ ws, ∀ c ∈ x, 0 ≤ c ∧ c < 256) : GoodM (lineF n ws st).2 N := by
  match ws with
  | [] => exact h
  | [w] =>
    by_cases hl : w.getLast? = some 58
    · have e : lineF n [w] st = labelF w.dropLast st := if_pos hl
      rw [e, labelF]
      by_cases h1 : namedF w.dropLast = false
      · rw [if_pos h1]; exact h
      · rw [if_neg h1]
        by_cases h2 : (st.labels w.dropLast).isSome = true
        · rw [if_pos h2]; exact h
        · rw [if_neg h2]
          refine ⟨h.uses, (fun l v hl => ?_), h.bytes⟩
          simp only [putF] at hl
          by_cases h3 : l = w.dropLast
          · rw [if_pos h3] at hl; injection hl with hl; subst hl; show 0 ≤ (st.code.length : Int) ∧ (st.code.length : Int) ≤ (st.code.length : Int); omega
          · rw [if_neg h3] at hl; exact h.labels l v hl
    · have e : lineF n [w] st = plainF w st := if_neg hl
      rw [e]
      by_cases h1 : (pushesF w).isSome = true ∨ w = BYTE1
      · have e2 : plainF w st = (2, st) := if_pos h1
        rw [e2]; exact h
      · have e2 : plainF w st = match opF w with | none => (16, st) | some op => (0, { st with code := st.code ++ [op] }) := if_neg h1
        rw [e2]
        cases ho : opF w with
        | none => exact h
        | some op =>
          have := opF_range ho
          exact h.code fun x hx => by simp at hx; omega
  | [w, v] => exact with_good h n hn w v (hw v (by simp))
  | _ :: _ :: _ :: _ => exact h
theorem words_byte {l : List Int} (h : ∀ c ∈ l, 0 ≤ c ∧ c < 256) : ∀ x ∈ wordsF l, ∀ c ∈ x, 0 ≤ c ∧ c < 256 := fun x hx c hc => by
  rcases (words_mem _ _ x hx).2.2 c hc with h' | h'
  · cases h'
  · exact h c (note_mem h')
theorem lines_byte : ∀ {l : List Int}, (∀ c ∈ l, 0 ≤ c ∧ c < 256) → ∀ x ∈ linesF l, ∀ c ∈ x, 0 ≤ c ∧ c < 256
  | [], _, x, hx => by simp [linesF] at hx; subst hx; intro c hc; cases hc
  | a :: r, h, x, hx => by
    have hr : ∀ c ∈ r, 0 ≤ c ∧ c < 256 := fun c hc => h c (List.mem_cons_of_mem _ hc)
    by_cases ha : a = 10
    · rw [linesF, if_pos ha] at hx
      rcases List.mem_cons.1 hx with rfl | hx
      · intro c hc; cases hc
      · exact lines_byte hr x hx
    · rw [linesF_cons ha] at hx
      have hne := linesF_ne r
      have ih := lines_byte hr
      match hlr : linesF r with
      | [] => exact absurd hlr hne
      | b :: y =>
        rw [hlr] at hx ih
        rcases List.mem_cons.1 hx with rfl | hx
        · intro c hc
          rcases List.mem_cons.1 hc with rfl | hc
          · exact h c List.mem_cons_self
          · exact ih b List.mem_cons_self c hc
        · exact ih x (List.mem_cons_of_mem _ hx)
/-- One line more. -/
theorem run_step (n : Int) (l : List Int) (r : List (List Int)) (st : MkF) (h : (lineF (n + 1) (wordsF l) st).1 = 0) : runF n (l :: r) st = runF (n + 1) r (lineF (n + 1) (wordsF l) st).2 := by rw [runF, if_pos h]
theorem run_stop (n : Int) (l : List Int) (r : List (List Int)) (st : MkF) (h : (lineF (n + 1) (wordsF l) st).1 ≠ 0) : runF n (l :: r) st = (n + 1, (lineF (n + 1) (wordsF l) st).1, st) := by rw [runF, if_neg h]
end Go.Proofs.YtibhijjmmagdcaaGreatDoor

/- asm.Code, walked. -/
namespace Go.Proofs.YtibhijjmmagdcaaGreatDoor
set_option linter.unusedVariables false
set_option linter.unusedSimpArgs false
open Go.RowKit Go.Proofs.YtibhijjmmagdcaaGreatDoorW.PrintWords Go.Proofs.YtibhijjmmagdcaaGreatDoorW.PrintLast
/-- What Code answers. -/
def CodeOut (w : World) (r : List Int × Int × Int) (e : Ending) (w' : World) : Prop :=
  ∃ A c, e = .returned (.tuple #[.slice A r.1.length c, .int .i64 r.2.1, .int .i64 r.2.2]) ∧ (Kd.int .u8).C w' A r.1.length r.1 ∧ r.1.length ≤ c ∧ Below w.heap.size w w'
theorem CodeOut.nil {w w' : World} (ln er : Int) (hb : Below w.heap.size w w') : CodeOut w ([], ln, er) (.returned (.tuple #[.slice none 0 0, .int .i64 ln, .int .i64 er])) w' := ⟨none, 0, rfl, Kd.C_of_reads (d := (0 : Int)) (ReadsInt.nil w' .u8), Nat.le_refl _, hb⟩
def useArr (u : Int × Int × List Int) : Array Value := #[.int .i64 u.1, .int .i64 u.2.1, .string (strOfNums u.2.2)]
theorem sizeUse : (Tryz.prog.info? 60).map (·.size) = some 3 := by kernel_rfl
theorem zeroUse (w : World) : (zeroValue 60).run Tryz.prog w = .ok (.agg #[.int .i64 0, .int .i64 0, .string ⟨#[]⟩]) w := by kernel_rfl
theorem useCells_get : ∀ (l : List (Int × Int × List Int)) (k j : Nat) (hk : k < l.length), j < 3 → (useCells l)[k * 3 + j]? = (useArr l[k])[j]?
  | [], k, j, hk, _ => by simp at hk
  | u :: l, 0, j, _, hj => by
    obtain rfl | rfl | rfl : j = 0 ∨ j = 1 ∨ j = 2 := by omega
    all_goals simp [useCells, useArr]
  | u :: l, k + 1, j, hk, hj => by
    have ih := useCells_get l k j (by simpa using hk) hj
    have e : useCells (u :: l) = .int .i64 u.1 :: .int .i64 u.2.1 :: .string (strOfNums u.2.2) :: useCells l := by simp [useCells]
    rw [e, show (k + 1) * 3 + j = k * 3 + j + 1 + 1 + 1 by omega]
    simpa using ih
/-- The uses' row, in whatever later world. -/
theorem use_at {w : World} {base : Nat} {A : Option Addr} {c n : Nat} {l : List (Int × Int × List Int)} (h : OwnU w base (.slice A n c) l) {k : Nat} (hk : k < l.length) :
    ∃ gu, A = some ⟨gu, 0, none⟩ ∧ gu < w.heap.size ∧ base ≤ gu ∧ ∀ W : World, W.heap[gu]? = w.heap[gu]? → W.rangeAt gu (k * 3) (useArr l[k]).toList := by
  rcases h.2 with ⟨he, hx⟩ | ⟨g, cap, cur, hv, hb, hh, h1, h2, h3, h4⟩
  · omega
  · injection hv with hv _ _
    refine ⟨g, hv, blk_lt hh, hb, fun W hW j v hj => ?_⟩
    have hW' : W.heap[g]? = some (.cells cur 60 (0, 0)) := hW.trans hh
    have hj3 : j < 3 := by
      rcases Nat.lt_or_ge j 3 with h' | h'
      · exact h'
      · rw [List.getElem?_eq_none (by simpa [useArr] using h')] at hj; cases hj
    rw [blk_cell hW', ← Array.getElem?_toList, ← List.getElem?_take_of_lt (j := l.length * 3) (by omega), h4, useCells_get l k j hk hj3]
    simpa using hj
theorem lines_mem_size : ∀ {s : List Int} {l : List Int}, l ∈ linesF s → l.length ≤ s.length
  | [], l, h => by simp [linesF] at h; subst h; simp
  | c :: r, l, h => by
    by_cases hc : c = 10
    · rw [linesF, if_pos hc] at h
      rcases List.mem_cons.1 h with rfl | h
      · simp
      · have := lines_mem_size h; simp; omega
    · rw [linesF_cons hc] at h
      have hne := linesF_ne r
      have ih := fun {l} (h : l ∈ linesF r) => lines_mem_size h
      match hlr : linesF r with
      | [] => exact absurd hlr hne
      | b :: y =>
        rw [hlr] at h ih
        rcases List.mem_cons.1 h with rfl | h
        · have := ih (l := b) List.mem_cons_self; simp at this ⊢; omega
        · have := ih (l := l) (List.mem_cons_of_mem _ h); simp; omega
theorem wpl_index {P : Program} {ops : Array Oper} {rest : List Oper} {o : Oper} {a : Act} {w : World} {Q : Exit → Act → World → Prop} (hgd : o.guard = none) (t : TypeId) (x i : Operand) (ho : o.op = .indexAddr t x i) (g : Nat) (len cap k : Nat) (hx : a.eval x = .slice (some ⟨g, 0, none⟩) len cap) (hi : a.eval i = .int .i64 (k : Int)) (hk : k < len) (elem : TypeId) (hu : P.underlying t = some (.slice elem)) (sz : Nat) (hs : (P.info? elem).map (·.size) = some sz)
    (h : wpList P ops Q rest (a.put o.dst (.pointer (some ⟨g, k * sz, none⟩))) w) : wpList P ops Q (o :: rest) a w := by
  refine wpList_plain hgd fun K hK => ?_
  have hsz : (sizeOf elem).run P w = .ok sz w := by
    cases hq : P.info? elem with
    | none => simp [hq] at hs
    | some i =>
      have : i.size = sz := by simpa [hq] using hs
      simp [sizeOf, typeInfo, Sem.run_bind, hq, this]
  have hr : (Instr.indexAt t (.slice (some ⟨g, 0, none⟩) len cap) (.int .i64 (k : Int))).run P w = .ok (.pointer (some ⟨g, k * sz, none⟩)) w := by
    have h1 : (0 : Int) ≤ (k : Int) ∧ (k : Int) < (len : Int) := by omega
    simp [Instr.indexAt, run_underlying hu, asIntOf, hsz, hk, Addr.add_mid]
  unfold Oper.wp execOp
  simp only [ho, hx, hi, Sem.run_bind, hr, Result.andThen_ok]
  exact hK _ _ h
theorem MkP.row {W : World} {base g ga n c bl bn N : Nat} {vu : Value} {st : MkF} (h : MkP W base g (.slice (some ⟨ga, 0, none⟩) n c) bl vu bn st N) (hn : st.code.length = n) : W.ownsRow base 5 1 (.slice (some ⟨ga, 0, none⟩) n c) n (nums .u8 st.code) := by
  have h1 : W.ownsRow base 5 1 (.slice (some ⟨ga, 0, none⟩) n c) st.code.length (nums .u8 st.code) := h.code
  rw [hn] at h1
  exact h1
theorem nums_set (k : IntKind) (l : List Int) (j : Nat) (x : Int) : (nums k l).set j (.int k x) = nums k (l.set j x) := by unfold nums; rw [List.map_set]
theorem MkP.store {W : World} {base g ga n c bl bn N : Nat} {vu : Value} {st : MkF} (h : MkP W base g (.slice (some ⟨ga, 0, none⟩) n c) bl vu bn st N) (hn : st.code.length = n) (j : Nat) (x : Int) :
    MkP (W.setCell ⟨ga, j, none⟩ (.int .u8 x)) base g (.slice (some ⟨ga, 0, none⟩) n c) bl vu bn { st with code := st.code.set j x } N := by
  have hs := (h.row hn).stored j (.int .u8 x)
  have hg := hs.2
  rw [nums_set] at hs
  refine ⟨h.blkCode hg, h.hg, ?_, h.labels.move (hg.block bl h.labels.lt (h.labels.own_ne h.code)), own_grown h.uses h.code (by decide) hg, h.names.move (hg.block bn h.names.lt (h.names.own_ne h.code)), h.hl, h.hn, h.ne, ?_, h.lu⟩
  · show OwnB _ base _ _
    unfold OwnB
    rw [List.length_set, hn]
    exact hs.1
  · show (st.code.set j x).length ≤ _
    rw [List.length_set]
    exact h.lc
theorem MkP.storeBelow {W w : World} {base g ga n c bl bn N : Nat} {vu : Value} {st : MkF} (h : MkP W base g (.slice (some ⟨ga, 0, none⟩) n c) bl vu bn st N) (hb : Below base w W) (j : Nat) (v : Value) : Below base w (W.setCell ⟨ga, j, none⟩ v) :=
  hb.setCell (p := ⟨ga, j, none⟩) (own_base h.code ga rfl) v
theorem own_C {W : World} {base n c : Nat} {A : Option Addr} {l : List Int} (h : OwnB W base (.slice A n c) l) (hn : l.length = n) : (Kd.int .u8).C W A l.length l ∧ l.length ≤ c := by
  have h1 : W.ownsRow base 5 1 (.slice A n c) l.length (nums .u8 l) := h
  rw [hn] at h1
  rcases h1.2 with ⟨he, hx⟩ | ⟨g, cap, cur, hv, _, _, h2, h3, _⟩
  · injection he with e1 e2 e3
    subst e1; subst e3
    have : l = [] := List.eq_nil_of_length_eq_zero (by omega)
    subst this
    exact ⟨Kd.C_of_reads (d := (0 : Int)) (ReadsInt.nil W .u8), Nat.le_refl _⟩
  · injection hv with e1 e2 e3
    subst e1; subst e3
    refine ⟨Kd.C_of_reads (d := (0 : Int)) ⟨rfl, by unfold maxLen at h3; omega, fun _ => ⟨_, rfl, fun j hj => ?_⟩⟩, by omega⟩
    rw [add_plain, h1.cellAt j (by omega)]
    simp [nums, List.getD_eq_getElem?_getD, List.getElem?_eq_getElem hj]
def CodeS (w : World) (g : Nat) (strs : Array Value) (st : MkF) (k : Nat) (W : World) : Prop := (∃ vc bl vu bn, MkP W w.heap.size g vc bl vu bn st k) ∧ Below w.heap.size w W ∧ Blk W (g + 1) strs 9
theorem strs_at (ls : List (List Int)) {k : Nat} (h : k < ls.length) : (ls.map fun l => Value.string (strOfNums l)).toArray[k]? = some (.string (strOfNums ls[k])) := by simp [List.getElem?_eq_getElem h]
set_option maxRecDepth 100000 in
theorem code_long (s : ByteArray) (w : World) (h : 65536 < s.size) : Calls Tryz.prog 7 #[.string s] w (CodeOut w (codeF (bytesOf s))) := by
  have e0 : codeF (bytesOf s) = ([], 0, 4) := if_pos (by rw [bytesOf_length]; exact h)
  have q : (65536 : Int) < (s.size : Int) := by omega
  rw [e0]
  clear e0 h
  go_enter Tryz.func7, Tryz.ntmps7
  go_wp2_with fail
  go_ret3
  exact CodeOut.nil _ _ (Below.refl _ _)
set_option maxHeartbeats 2000000 in
set_option maxRecDepth 100000 in
theorem code_main (s : ByteArray) (hs : s.size ≤ 65536) (w : World) (hm : MaxV w) : Calls Tryz.prog 7 #[.string s] w (CodeOut w (codeF (bytesOf s))) := by
  have q : ¬ (65536 : Int) < (s.size : Int) := by omega
  have e0 : codeF (bytesOf s) = if (runF 0 (linesF (bytesOf s)) mk0).2.1 ≠ 0 then ([], (runF 0 (linesF (bytesOf s)) mk0).1, (runF 0 (linesF (bytesOf s)) mk0).2.1) else linkF (runF 0 (linesF (bytesOf s)) mk0).2.2 := if_neg (by rw [bytesOf_length]; omega)
  have HE := Lib.hid e0
  have hlb := lines_byte (bytesOf_byte s)
  have hls : ∀ l ∈ linesF (bytesOf s), l.length ≤ 65536 := fun l hl => by have := lines_mem_size hl; rw [bytesOf_length] at this; omega
  have hln := (lines_len (bytesOf s)).1
  rw [bytesOf_length] at hln
  have HSP := Lib.hid (fun (W : World) (h : MaxV W) => split_any s W (by omega) h)
  obtain ⟨ls, hle⟩ : ∃ ls, linesF (bytesOf s) = ls := ⟨_, rfl⟩
  rw [hle] at HE hlb hls hln HSP
  have HLB := Lib.hid hlb
  have HLS := Lib.hid hls
  have HLN : Hid (ls.length ≤ 65537) := by unfold Hid; omega
  have HM := Lib.hid hm
  have hmm := @run_makeMap Tryz.prog
  clear e0 hlb hls hln hle hm
  go_enter Tryz.func7, Tryz.ntmps7
  go_wp2_with (first | (go_at_call 15; refine (opNames_any _).mono ?_; rintro e w1 ⟨bn, rfl, hN, hbn, hb1⟩; have e1 := bel_then (below_alloc (Below.refl w.heap.size w) _) hb1) | (go_at_call 16; refine (HSP.out _ ((HM.out.below HM.out.lt e1).below (Nat.lt_of_lt_of_le HM.out.lt e1.size) (below_alloc (Below.refl _ _) _))).mono ?_; rintro e w2 ⟨rfl, rfl⟩))
  have hst0 : CodeS w w1.heap.size (ls.map fun l => Value.string (strOfNums l)).toArray mk0 0 ((w1.alloc (.cells #[.slice none 0 0, .map (some w.heap.size), .slice none 0 0, .map (some bn)] 55)).alloc (.cells (ls.map fun l => Value.string (strOfNums l)).toArray 9)) := by
    have hl : LM w1 w.heap.size 0 (fun _ => none) := (SM.made (Lit.int .i64) 0 3 w).below hb1
    refine ⟨⟨_, _, _, _, MkP.below (W := w1.alloc (.cells #[.slice none 0 0, .map (some w.heap.size), .slice none 0 0, .map (some bn)] 55)) ⟨Blk.new _ _ _, e1.size, OwnB.nil _ _, hl.below (below_alloc (Below.refl _ _) _), own_nil _ _ _ _, hN.below (below_alloc (Below.refl _ _) _), Nat.le_refl _, by simp at hbn; omega, by simp at hbn; omega, by simp [mk0], by simp [mk0]⟩ (below_alloc (Below.refl _ _) _)⟩, below_alloc (below_alloc e1 _) _, Blk.new' _ _ _ (by simp)⟩
  have E1 := Lib.hid e1
  refine wp_any_world _ hst0 ?_
  intro W hS
  clear hst0 hN hbn hb1 e1 hmm HSP
  go_loopw [26] (fun i wr => ∃ (k : Nat) (st : MkF), k ≤ ls.length ∧ i = .int .i64 k ∧ runF 0 ls mk0 = runF k (ls.drop k) st ∧ GoodM st (ls.length : Int) ∧ CodeS w w1.heap.size (ls.map fun l => Value.string (strOfNums l)).toArray st k wr) (fun i _ => ls.length - (intOf i).toNat)
  case atStart => exact ⟨0, mk0, by omega, rfl, rfl, good0 _, hS⟩
  case round =>
    clear hS
    obtain ⟨k, st, hk, rfl, hrun, hgood, ⟨vc, bl, vu, bn', hP⟩, hB, hstr⟩ := hrel
    by_cases hlt : k < ls.length
    · have p0 : (0 : Int) ≤ (k : Int) := by omega
      have p1 : (k : Int) < (ls.length : Int) := by omega
      have p2 : (k : Int) < 1000000 := by have := HLN.out; omega
      have cc := hstr.cell k
      rw [strs_at ls hlt] at cc
      have hlk := HLB.out ls[k] (List.getElem_mem hlt)
      have hlz := HLS.out ls[k] (List.getElem_mem hlt)
      have hgd := line_good (hgood) ((k : Int) + 1) ⟨by omega, by omega⟩ (wordsF ls[k]) (words_byte hlk)
      have hli := line_any ((k : Int) + 1) (strOfNums ls[k]) (by rw [strOfNums_size]; omega) wr w.heap.size w1.heap.size bl bn' k vc vu st hP hB.size (by have := HLN.out; omega) (HM.out.below HM.out.lt hB)
      rw [bytesOf_strOfNums hlk] at hli
      have HLI := Lib.hid hli
      have HGD := Lib.hid hgd
      have HST := Lib.hid hstr
      have HB := Lib.hid hB
      rw [List.drop_eq_getElem_cons hlt] at hrun
      obtain ⟨l, hl⟩ : ∃ l, ls[k] = l := ⟨_, rfl⟩
      rw [hl] at hrun cc HLI HGD
      clear hl hlk hlz hgd hli hgood hP hstr
      by_cases he : (lineF ((k : Int) + 1) (wordsF l) st).1 = 0
      · rw [run_step _ _ _ _ he] at hrun
        have HR := Lib.hid hrun
        have HLZ : Hid (∀ e w', MkOut wr w.heap.size w1.heap.size (lineF ((k : Int) + 1) (wordsF l) st) (k + 1) e w' → e = .returned (.int .i64 0) ∧ MkR wr w.heap.size w1.heap.size (lineF ((k : Int) + 1) (wordsF l) st).2 (k + 1) w') := fun e w' h => ⟨h.1.trans (by rw [he]), h.2⟩
        obtain ⟨st2, hst2⟩ : ∃ st2, (lineF ((k : Int) + 1) (wordsF l) st).2 = st2 := ⟨_, rfl⟩
        rw [hst2] at HR HGD HLZ
        clear hrun he hst2
        go_wp2_with (go_at_call 17; refine HLI.out.mono ?_; intro e w3 hout; obtain ⟨rfl, ⟨vc3, bl3, vu3, bn3, hP3⟩, hB3, hK3, hs3⟩ := HLZ.out e w3 hout; clear hout)
        go_roundw
        case rel => exact ⟨k + 1, st2, by omega, by go_num, HR.out, HGD.out, ⟨_, _, _, _, hP3⟩, HB.out.trans hB3, hK3 _ _ _ (by decide) (by decide) (by decide) HST.out⟩
        case measure => simp [intOf]; omega
      · rw [run_stop _ _ _ _ he] at hrun
        rw [hrun] at HE
        have HE2 : Hid (codeF (bytesOf s) = ([], (k : Int) + 1, (lineF ((k : Int) + 1) (wordsF l) st).1)) := by rw [Hid, HE.out]; exact if_pos he
        rw [HE2.out]
        have HLZ : Hid (∀ e w', MkOut wr w.heap.size w1.heap.size (lineF ((k : Int) + 1) (wordsF l) st) (k + 1) e w' → e = .returned (.int .i64 (lineF ((k : Int) + 1) (wordsF l) st).1) ∧ Below w.heap.size wr w') := fun e w' h => ⟨h.1, h.2.2.1⟩
        obtain ⟨er, her⟩ : ∃ er, (lineF ((k : Int) + 1) (wordsF l) st).1 = er := ⟨_, rfl⟩
        rw [her] at he HLZ
        rw [her]
        have hb : (er != 0) = true := by simpa using he
        clear hrun he her HE
        go_wp2_with (go_at_call 17; refine HLI.out.mono ?_; intro e w3 hout; obtain ⟨rfl, hB3⟩ := HLZ.out e w3 hout; clear hout)
        go_ret3
        exact CodeOut.nil _ _ (HB.out.trans hB3)
    · obtain rfl : k = ls.length := by omega
      rw [List.drop_length, show runF (ls.length : Int) [] st = (0, 0, st) from rfl] at hrun
      have hco : codeF (bytesOf s) = linkF st := by rw [HE.out, hrun]; exact if_neg (fun h => h rfl)
      have HCO := Lib.hid hco
      rw [hco]
      obtain ⟨A, c, rfl⟩ := mk_slice hP
      obtain ⟨Au, cu, rfl⟩ := own_slice hP.uses
      have hul : st.uses.length ≤ 65537 := by have := hP.lu; have := HLN.out; omega
      have HUL := Lib.hid hul
      have HP := Lib.hid hP
      have HB := Lib.hid hB
      have HG := Lib.hid hgood
      have c2 := hP.cell2
      have hz := zeroUse
      clear hP hB hgood hrun hco HE hul
      go_wp2_with fail
      clear c2
      obtain ⟨wo, rfl⟩ : ∃ wo : World, wo = wr := ⟨_, rfl⟩
      go_loopw [47] (fun i wx => ∃ k : Nat, k ≤ st.uses.length ∧ i = .int .i64 k ∧ st.uses.find? (fun u => (st.labels u.2.2).isNone) = (st.uses.drop k).find? (fun u => (st.labels u.2.2).isNone) ∧ Below wo.heap.size wo wx) (fun i _ => st.uses.length - (intOf i).toNat)
      case atStart => exact ⟨0, by omega, rfl, rfl, Below.refl _ _⟩
      case round =>
        obtain ⟨k, hk, rfl, hfd, hBx⟩ := hrel
        by_cases hlt : k < st.uses.length
        · have p0 : (0 : Int) ≤ (k : Int) := by omega
          have p1 : (k : Int) < (st.uses.length : Int) := by omega
          have p2 : (k : Int) < 1000000 := by have := HUL.out; omega
          obtain ⟨gu, hAu, hgl, hgb, hrg⟩ := use_at HP.out.uses hlt
          subst hAu
          have HRG := Lib.hid (hrg wr (hBx.block gu hgl))
          have HGU := Lib.hid (HG.out.uses st.uses[k] (List.getElem_mem hlt))
          rw [List.drop_eq_getElem_cons hlt, List.find?_cons] at hfd
          obtain ⟨u, hu⟩ : ∃ u, st.uses[k] = u := ⟨_, rfl⟩
          rw [hu] at HRG HGU hfd
          clear hu hrg
          have hPx := HP.out.below hBx
          have HPX := Lib.hid hPx
          clear hPx
          have HFD := Lib.hid hfd
          clear hfd
          obtain ⟨u1, u2, u3⟩ := u
          have hnb : bytesOf (strOfNums u3) = u3 := bytesOf_strOfNums HGU.out.2.2.1
          have hnl : (strOfNums u3).size ≤ maxLen := strOfNums_len (by have h2 : u3.length ≤ 32 := HGU.out.2.2.2.1; omega)
          have HLA : Hid (∀ W, LM W bl ls.length st.labels → (Instr.lookup 50 (.map (some bl)) (.string (strOfNums u3)) true).run Tryz.prog W = .ok (.tuple #[.int .i64 ((st.labels u3).getD 0), .bool (st.labels u3).isSome]) W) := fun W h => by
            have := LM.ask h (strOfNums u3) hnl
            rw [hnb] at this
            exact this
          clear hnb hnl
          have d0 : wr.cell? ⟨gu, k * 3, none⟩ = some (.int .i64 u1) := HRG.out 0 _ rfl
          have d1 : wr.cell? ⟨gu, k * 3 + 1, none⟩ = some (.int .i64 u2) := HRG.out 1 _ rfl
          have d2 : wr.cell? ⟨gu, k * 3 + 2, none⟩ = some (.string (strOfNums u3)) := HRG.out 2 _ rfl
          have HBX := Lib.hid hBx
          clear hBx
          go_wp2_with fail
          clear d0 d1 d2
          refine wp_any_world (fun W1 => Below wr.heap.size wr W1 ∧ Blk W1 wr.heap.size (useArr (u1, u2, u3)) 60) ⟨below_alloc (Below.refl _ _) _, Blk.new _ _ _⟩ ?_
          intro W1 hW1
          have HB1 : Hid (Below wo.heap.size wo W1) := bel_then HBX.out hW1.1
          have hP1 := HPX.out.below hW1.1
          have c1 := hP1.cell1
          have c2 := hW1.2.cell 2
          have c3 := hW1.2.cell 1
          have lk := HLA.out W1.drew (hP1.labels.move rfl)
          rw [show (useArr (u1, u2, u3))[2]? = some (.string (strOfNums u3)) from rfl] at c2
          rw [show (useArr (u1, u2, u3))[1]? = some (.int .i64 u2) from rfl] at c3
          clear hP1 hW1
          obtain ⟨lv, hlv⟩ : ∃ lv, st.labels u3 = lv := ⟨_, rfl⟩
          rw [hlv] at lk
          have hfd2 := HFD.out
          simp only [hlv] at hfd2
          rcases lv with _ | v
          · have hlf : linkF st = ([], u2, 12) := by unfold linkF; rw [hfd2]; rfl
            have HLF := Lib.hid hlf
            simp only [Option.getD_none, Option.isSome_none] at lk
            clear hlv hfd2 hlf
            go_region
            go_wp2_with fail
            go_region
            go_wp2_with fail
            go_ret3
            first | rw [HLF.out] | rw [HCO.out, HLF.out]
            exact CodeOut.nil _ _ (by have hb := bel_then HB.out HB1.out; repeat (first | exact hb | refine bel_drewN ?_ _ | refine bel_drew ?_))
          · have HF2 := Lib.hid (hfd2.trans rfl)
            simp only [Option.getD_some, Option.isSome_some] at lk
            clear hlv hfd2
            go_region
            go_wp2_with fail
            go_roundw
            case rel => exact ⟨k + 1, by omega, by go_num, HF2.out, bel_drew HB1.out⟩
            case measure => simp [intOf]; omega
        · obtain rfl : k = st.uses.length := by omega
          rw [List.drop_length] at hfd
          have hlf : codeF (bytesOf s) = patchF st.labels st.uses st.code := by rw [HCO.out]; unfold linkF; rw [hfd]; rfl
          have HLF := Lib.hid hlf
          have HP2 := Lib.hid (HP.out.below hBx)
          have HB2 := Lib.hid (bel_then HB.out hBx)
          have c2 := HP2.out.cell2
          have HCL : Hid (st.code.length ≤ 2621480) := by have := HP2.out.lc; have := HLN.out; unfold Hid; omega
          clear hfd hlf hBx HB HP
          go_wp2_with fail
          clear c2
          obtain ⟨wq, rfl⟩ : ∃ wq : World, wq = wr := ⟨_, rfl⟩
          go_loopw [71] (fun i wx => ∃ (k : Nat) (cd : List Int), k ≤ st.uses.length ∧ i = .int .i64 k ∧ patchF st.labels st.uses st.code = patchF st.labels (st.uses.drop k) cd ∧ cd.length = st.code.length ∧ MkP wx w.heap.size w1.heap.size (.slice A st.code.length c) bl (.slice Au st.uses.length cu) bn' { st with code := cd } ls.length ∧ Below w.heap.size w wx) (fun i _ => st.uses.length - (intOf i).toNat)
          case atStart => exact ⟨0, st.code, by omega, rfl, rfl, rfl, HP2.out, HB2.out⟩
          case round =>
            clear HP2 HB2
            obtain ⟨k, cd, hk, rfl, hpt, hcd, hPx, hBx⟩ := hrel
            by_cases hlt : k < st.uses.length
            · have p0 : (0 : Int) ≤ (k : Int) := by omega
              have p1 : (k : Int) < (st.uses.length : Int) := by omega
              have p2 : (k : Int) < 1000000 := by have := HUL.out; omega
              obtain ⟨gu, hAu, hgl, hgb, hrg⟩ := use_at hPx.uses hlt
              subst hAu
              have HRG := Lib.hid (hrg wr rfl)
              have HGU := Lib.hid (HG.out.uses st.uses[k] (List.getElem_mem hlt))
              rw [List.drop_eq_getElem_cons hlt] at hpt
              obtain ⟨u, hu⟩ : ∃ u, st.uses[k] = u := ⟨_, rfl⟩
              rw [hu] at HRG HGU hpt
              clear hu hrg
              obtain ⟨u1, u2, u3⟩ := u
              have hu1 := HGU.out.1
              have hu1l := HGU.out.2.1
              simp only at hu1 hu1l
              obtain ⟨at1, rfl⟩ := Int.eq_ofNat_of_zero_le hu1
              have hnb : bytesOf (strOfNums u3) = u3 := bytesOf_strOfNums HGU.out.2.2.1
              have hnl : (strOfNums u3).size ≤ maxLen := strOfNums_len (by have h2 : u3.length ≤ 32 := HGU.out.2.2.2.1; omega)
              have HLA : Hid (∀ W, LM W bl ls.length st.labels → (Instr.lookup 50 (.map (some bl)) (.string (strOfNums u3)) false).run Tryz.prog W = .ok (.int .i64 ((st.labels u3).getD 0)) W) := fun W h => by
                have := LM.get h (strOfNums u3) hnl
                rw [hnb] at this
                exact this
              obtain ⟨ga, rfl⟩ : ∃ ga, A = some ⟨ga, 0, none⟩ := by
                rcases hPx.code.2 with ⟨he, hx⟩ | ⟨g, cap, cur, hv, _⟩
                · injection he with _ he _
                  omega
                · injection hv with hv _ _
                  exact ⟨g, hv⟩
              obtain ⟨lv, hlv⟩ : ∃ lv, (st.labels u3).getD 0 = lv := ⟨_, rfl⟩
              have hlv0 : 0 ≤ lv := by
                rw [← hlv]
                rcases hl : st.labels u3 with _ | v
                · exact Int.le_refl _
                · exact (HG.out.labels u3 v hl).1
              have hlvm : lv ≤ 10000000 := by
                rw [← hlv]
                rcases hl : st.labels u3 with _ | v
                · decide
                · have h1 := (HG.out.labels u3 v hl).2; have h2 := HCL.out; simp only [Option.getD_some]; omega
              have hpt2 : patchF st.labels st.uses st.code = if 65535 < lv then ([], u2, 5) else patchF st.labels (st.uses.drop (k + 1)) ((cd.set at1 (lv / 256)).set (at1 + 1) (lv % 256)) := by
                rw [hpt, patchF, hlv]
                rfl
              rw [hlv] at HLA
              have d0 : wr.cell? ⟨gu, k * 3, none⟩ = some (.int .i64 (at1 : Int)) := HRG.out 0 _ rfl
              have d1 : wr.cell? ⟨gu, k * 3 + 1, none⟩ = some (.int .i64 u2) := HRG.out 1 _ rfl
              have d2 : wr.cell? ⟨gu, k * 3 + 2, none⟩ = some (.string (strOfNums u3)) := HRG.out 2 _ rfl
              have HPX := Lib.hid hPx
              have HBX := Lib.hid hBx
              have HP2 := Lib.hid hpt2
              have hu1l2 : (at1 : Int) + 1 < (st.code.length : Int) := by omega
              have hu1l1 : (at1 : Int) < (st.code.length : Int) := by omega
              have hu1m : (at1 : Int) < 10000000 := by have := HCL.out; omega
              have HU1 := Lib.hid hu1l2
              have HU0 := Lib.hid hu1l1
              have HCD := Lib.hid hcd
              clear hBx hPx hpt hpt2 hlv hnb hnl hu1l hu1 hu1l2 hu1l1 hcd
              go_wp2_with fail
              clear d0 d1 d2
              refine wp_any_world (fun W1 => Below wr.heap.size wr W1 ∧ Blk W1 wr.heap.size (useArr ((at1 : Int), u2, u3)) 60) ⟨below_alloc (Below.refl _ _) _, Blk.new _ _ _⟩ ?_
              intro W1 hW1
              have HB1 : Hid (Below w.heap.size w W1) := bel_then HBX.out hW1.1
              have HPY := Lib.hid (HPX.out.below hW1.1)
              have HBL := Lib.hid hW1.2
              have c1 := HPY.out.cell1
              have c2 := hW1.2.cell 2
              have c3 := hW1.2.cell 1
              have c4 := hW1.2.cell 0
              have c5 := HPY.out.cell0
              have lk := HLA.out W1.drew (HPY.out.labels.move rfl)
              rw [show (useArr ((at1 : Int), u2, u3))[2]? = some (.string (strOfNums u3)) from rfl] at c2
              rw [show (useArr ((at1 : Int), u2, u3))[1]? = some (.int .i64 u2) from rfl] at c3
              rw [show (useArr ((at1 : Int), u2, u3))[0]? = some (.int .i64 (at1 : Int)) from rfl] at c4
              clear hW1 HPX HBX
              by_cases hbig : 65535 < lv
              · have HR : Hid (codeF (bytesOf s) = ([], u2, 5)) := by unfold Hid; rw [HLF.out, HP2.out, if_pos hbig]
                go_region
                go_wp2_with fail
                go_region
                go_wp2_with fail
                go_ret3
                rw [HR.out]
                exact CodeOut.nil _ _ (by have hb := HB1.out; repeat (first | exact hb | refine bel_drewN ?_ _ | refine bel_drew ?_))
              · have HR : Hid (patchF st.labels st.uses st.code = patchF st.labels (st.uses.drop (k + 1)) ((cd.set at1 (lv / 256)).set (at1 + 1) (lv % 256))) := by unfold Hid; rw [HP2.out, if_neg hbig]
                go_region
                go_wp2_with fail
                have hRow : W1.ownsRow w.heap.size 5 1 (.slice (some ⟨ga, 0, none⟩) st.code.length c) st.code.length (cd.map (Value.int .u8)) := by
                  have h : W1.ownsRow w.heap.size 5 1 (.slice (some ⟨ga, 0, none⟩) st.code.length c) cd.length (cd.map (Value.int .u8)) := HPY.out.code
                  rw [HCD.out] at h
                  exact h
                have hne1 : ¬ ga = w1.heap.size := fun e => blk_own_ne HPY.out.code HPY.out.blk (by decide) (by rw [e]; rfl)
                have hne2 : ¬ ga = wr.heap.size := fun e => blk_own_ne HPY.out.code HBL.out (by decide) (by rw [e]; rfl)
                have f0 := hRow.frozenAt at1
                have f1 := hRow.frozenAt (at1 + 1)
                have k0 := hRow.cellAt at1 (by have := HU0.out; omega)
                have k1 := hRow.cellAt (at1 + 1) (by have := HU1.out; omega)
                have q0 := HU0.out
                have q1 := HU1.out
                have qn : ((at1 : Int) + 1).toNat = at1 + 1 := by omega
                obtain ⟨x0, hx0⟩ : ∃ x0, (cd.map (Value.int .u8))[at1]? = some x0 := ⟨_, List.getElem?_eq_getElem (by have := HU0.out; have := HCD.out; simp; omega)⟩
                obtain ⟨x1, hx1⟩ : ∃ x1, (cd.map (Value.int .u8))[at1 + 1]? = some x1 := ⟨_, List.getElem?_eq_getElem (by have := HU1.out; have := HCD.out; simp; omega)⟩
                rw [hx0] at k0
                rw [hx1] at k1
                clear hx0 hx1 hRow
                go_region
                go_wp2_with fail
                have m1 := HPY.out.store HCD.out at1 (lv / 256)
                have m2 := m1.store (by show (cd.set at1 _).length = _; rw [List.length_set]; exact HCD.out) (at1 + 1) (lv % 256)
                have b2 := m1.storeBelow (HPY.out.storeBelow HB1.out at1 (.int .u8 (lv / 256))) (at1 + 1) (.int .u8 (lv % 256))
                go_roundw
                case rel => exact ⟨k + 1, _, by omega, by go_num, HR.out, by rw [List.length_set, List.length_set]; exact HCD.out, MkP.below m2 (bel_drew (bel_drew (Below.refl _ _))), bel_drew (bel_drew b2)⟩
                case measure => simp [intOf]; omega
            · obtain rfl : k = st.uses.length := by omega
              rw [List.drop_length, patchF] at hpt
              have c0 := hPx.cell0
              have HR : Hid (codeF (bytesOf s) = (cd, 0, 0)) := by unfold Hid; rw [HLF.out, hpt]
              have HPX := Lib.hid hPx
              have HBX := Lib.hid hBx
              have HCD := Lib.hid hcd
              clear hPx hBx hpt hcd
              go_wp2_with fail
              go_ret3
              rw [HR.out]
              exact ⟨A, c, by rw [HCD.out]; rfl, (own_C HPX.out.code HCD.out).1, (own_C HPX.out.code HCD.out).2, HBX.out⟩
end Go.Proofs.YtibhijjmmagdcaaGreatDoor

/- asm.Text of the chapter's example. -/
namespace Go.Proofs.YtibhijjmmagdcaaGreatDoor
set_option linter.unusedVariables false
set_option linter.unusedSimpArgs false
open Go.RowKit Go.Proofs.YtibhijjmmagdcaaGreatDoorW.PrintWords Go.Proofs.YtibhijjmmagdcaaGreatDoorW.PrintLast
def TEXTA : List Int := [80, 85, 83, 72, 49, 32, 48, 120, 48, 49, 10]
def T1S (w : World) (g : Nat) (W : World) : Prop := Below w.heap.size w W ∧ Bld w.heap.size w.heap.size [] W ∧ Blk W g P1 41
theorem T1S.below {w W W1 : World} {g : Nat} (h : T1S w g W) (hb : Below W.heap.size W W1) : T1S w g W1 := ⟨bel_then h.1 hb, h.2.1.below hb, h.2.2.below hb⟩
set_option maxRecDepth 100000 in
theorem asmtext_one (w : World) (b c : Nat) (hr : (Kd.int .u8).C w (some ⟨b, 0, none⟩) 2 [96, 1]) (hc : 2 ≤ c) :
    Calls Tryz.prog 6 #[.slice (some ⟨b, 0, none⟩) 2 c] w fun e w' => e = .returned (.string (strOfNums TEXTA)) ∧ Below w.heap.size w w' := by
  have HC : Hid (∀ W, Below w.heap.size w W → W.cell? ⟨b, 0, none⟩ = some (.int .u8 96)) := fun W hb => by
    obtain ⟨ad', hA', hc⟩ := Kd.at_int (Kd.C_below hr hb) 0 (by decide) (by decide)
    injection hA' with hA'
    subst hA'
    exact hc
  have HT : Hid (∀ W, Below w.heap.size w W → Calls Tryz.prog 13 #[.slice (some ⟨b, 1, none⟩) 1 (c - 1)] W fun e w' => e = .returned (.string ⟨#[48, 120, 48, 49]⟩) ∧ Below W.heap.size W w') := fun W hb => by
    obtain ⟨ad', hA', hc1⟩ := Kd.at_int (Kd.C_below hr hb) 1 (by decide) (by decide)
    injection hA' with hA'
    subst hA'
    have hk : (Kd.int .u8).C W (some ⟨b, 1, none⟩) 1 [1] := Kd.C_of_reads (d := (0 : Int)) ⟨rfl, by decide, fun _ => ⟨_, rfl, fun j hj => by
      obtain rfl : j = 0 := by omega
      exact hc1⟩⟩
    exact text_hex (some ⟨b, 1, none⟩) (c - 1) [1] W hk (by simp; omega) (by decide) (by decide)
  have q2 : (2 : Int) ≤ (c : Int) := by omega
  have q1 : ¬ c = 1 := by omega
  clear hr
  go_enter Tryz.func6, Tryz.ntmps6
  go_wp2_with fail
  obtain ⟨w0, hw0⟩ : ∃ w0, w0 = w.alloc (.cells #[.pointer none, .slice none 0 0] 39) := ⟨_, rfl⟩
  have b0 : Bld w.heap.size w.heap.size [] w0 := hw0 ▸ Bld.new w
  have e0 : Below w.heap.size w w0 := hw0 ▸ below_alloc (Below.refl _ _) _
  rw [← hw0]
  clear hw0
  go_loopw [4] (fun i wr => Below w.heap.size w wr ∧ ((i = .int .i64 0 ∧ Bld w.heap.size w.heap.size [] wr) ∨ (i = .int .i64 2 ∧ Bld w.heap.size w.heap.size TEXTA wr))) (fun i _ => 2 - (intOf i).toNat)
  case atStart => exact ⟨e0, .inl ⟨rfl, b0⟩⟩
  case round =>
    clear e0 b0
    obtain ⟨hB, ⟨rfl, hb⟩ | ⟨rfl, hb⟩⟩ := hrel
    · have c0 := HC.out wr hB
      go_wp2_with fail
      refine (info96 wr).mono ?_
      rintro e w1 ⟨rfl, hb1⟩
      go_wp2_with (first | (((with_reducible refine gate_op (.store 41 (.tmp 5) (.tmp 19)) rfl ?_); refine wpl_store_blk rfl 41 (.tmp 5) (.tmp 19) rfl _ rfl _ _ _ rfl (Blk.new _ _ _) 5 size51 rfl rfl P1_one ?_; intro w2 hO hB2); have f0 : w2.cell? ⟨w1.heap.size, 0, none⟩ = some (.string ⟨#[80, 85, 83, 72, 49]⟩) := hB2.cell 0; have f4 : w2.cell? ⟨w1.heap.size, 4, none⟩ = some (.int .i64 1) := hB2.cell 4))
      have e12 : Below w1.heap.size w1 w2 := Only.below (below_alloc (Below.refl _ _) _) hO (Nat.le_refl _)
      obtain ⟨g, hg⟩ : ∃ g, g = w1.heap.size := ⟨_, rfl⟩
      rw [← hg] at hB2 f0 f4 ⊢
      have hgb : g ≠ w.heap.size := by have := hb.lt; have := hb1.size; omega
      have hS : T1S w g w2 := ⟨bel_then (bel_then hB hb1) e12, (hb.below hb1).below e12, hB2⟩
      clear f0 hO hg e12 hb1 hB hb c0 hB2
      refine start_ (n := 16) (S := T1S w g) (ds := [15]) #[false, false, false, false, false, false, false, false, false, false, false, false, false, false, false, false] (by kernel_rfl) rfl rfl (hS.below (bel_drew (Below.refl _ _))) (fun hHeld => ?_)
      refine gen_last hHeld ?_
      clear hHeld
      intro wd hHeld
      refine pure_ (i := 0) (N := some 70) (v := ?_) (a' := ?_) #[true, false, false, false, false, false, false, false, false, false, false, false, false, false, false, false] rfl rfl (by kernel_rfl) (fun _ _ _ h => h) (Or.inl ⟨by rfl, ?_⟩) ?_ ?_
      rotate_left
      · intro w2
        (go_simp; (try go_bits); with_reducible rfl)
      rotate_left
      · simp only [Act.put, List.setIfInBounds_toArray, List.set_cons_zero, List.set_cons_succ, i64_w, i32_w]
        rfl
      refine pure_ (i := 3) (N := some 73) (v := ?_) (a' := ?_) #[true, false, false, true, false, false, false, false, false, false, false, false, false, false, false, false] rfl rfl (by kernel_rfl) (fun _ _ _ h => h) (Or.inl ⟨by rfl, ?_⟩) ?_ ?_
      rotate_left
      · intro w2
        (go_simp; (try go_bits); with_reducible rfl)
      rotate_left
      · simp only [Act.put, List.setIfInBounds_toArray, List.set_cons_zero, List.set_cons_succ, i64_w, i32_w]
        rfl
      refine pure_ (i := 4) (N := some 74) (v := ?_) (a' := ?_) #[true, false, false, true, true, false, false, false, false, false, false, false, false, false, false, false] rfl rfl (by kernel_rfl) (fun _ _ _ h => h) (Or.inl ⟨by rfl, ?_⟩) ?_ ?_
      rotate_left
      · intro w2
        (go_simp; (try go_bits); with_reducible rfl)
      rotate_left
      · simp only [Act.put, List.setIfInBounds_toArray, List.set_cons_zero, List.set_cons_succ, i64_w, i32_w]
        rfl
      refine pure_ (i := 5) (N := some 75) (v := ?_) (a' := ?_) #[true, false, false, true, true, true, false, false, false, false, false, false, false, false, false, false] rfl rfl (by kernel_rfl) (fun _ _ _ h => h) (Or.inl ⟨by rfl, ?_⟩) ?_ ?_
      rotate_left
      · intro w2
        (go_simp; (try go_bits); with_reducible rfl)
      rotate_left
      · simp only [Act.put, List.setIfInBounds_toArray, List.set_cons_zero, List.set_cons_succ, i64_w, i32_w]
        rfl
      refine pure_ (i := 6) (N := some 76) (v := ?_) (a' := ?_) #[true, false, false, true, true, true, true, false, false, false, false, false, false, false, false, false] rfl rfl (by kernel_rfl) (fun _ _ _ h => h) (Or.inl ⟨by rfl, ?_⟩) ?_ ?_
      rotate_left
      · intro w2
        (go_simp; (try go_bits); with_reducible rfl)
      rotate_left
      · simp only [Act.put, List.setIfInBounds_toArray, List.set_cons_zero, List.set_cons_succ, i64_w, i32_w]
        rfl
      refine pure_ (i := 7) (N := some 77) (v := ?_) (a' := ?_) #[true, false, false, true, true, true, true, true, false, false, false, false, false, false, false, false] rfl rfl (by kernel_rfl) (fun _ _ _ h => h) (Or.inl ⟨by rfl, ?_⟩) ?_ ?_
      rotate_left
      · intro w2
        (go_simp; (try go_bits); with_reducible rfl)
      rotate_left
      · simp only [Act.put, List.setIfInBounds_toArray, List.set_cons_zero, List.set_cons_succ, i64_w, i32_w]
        rfl
      refine pure_ (i := 8) (N := some 78) (v := ?_) (a' := ?_) #[true, false, false, true, true, true, true, true, true, false, false, false, false, false, false, false] rfl rfl (by kernel_rfl) (fun _ _ _ h => h) (Or.inl ⟨by rfl, ?_⟩) ?_ ?_
      rotate_left
      · intro w2
        (go_simp; (try go_bits); with_reducible rfl)
      rotate_left
      · simp only [Act.put, List.setIfInBounds_toArray, List.set_cons_zero, List.set_cons_succ, i64_w, i32_w]
        rfl
      refine take_ (i := 1) (N := some 71) (v := ?_) (a' := ?_) #[true, true, false, true, true, true, true, true, true, false, false, false, false, false, false, false] rfl rfl (by kernel_rfl) (fun _ _ _ h => h) (Or.inl ⟨by rfl, ?_⟩) hHeld ?_ ?_
      rotate_left
      · intro w2 hS2
        have f0 : w2.cell? ⟨g, 0, none⟩ = some (.string ⟨#[80, 85, 83, 72, 49]⟩) := hS2.2.2.cell 0
        have f4 : w2.cell? ⟨g, 4, none⟩ = some (.int .i64 1) := hS2.2.2.cell 4
        (go_simp; (try go_bits); with_reducible rfl)
      rotate_left
      · simp only [Act.put, List.setIfInBounds_toArray, List.set_cons_zero, List.set_cons_succ, i64_w, i32_w]
        rfl
      refine pure_ (i := 2) (N := some 72) (v := ?_) (a' := ?_) #[true, true, true, true, true, true, true, true, true, false, false, false, false, false, false, false] rfl rfl (by kernel_rfl) (fun _ _ _ h => h) (Or.inl ⟨by rfl, ?_⟩) ?_ ?_
      rotate_left
      · intro w2
        (go_simp; (try go_bits); with_reducible rfl)
      rotate_left
      · simp only [Act.put, List.setIfInBounds_toArray, List.set_cons_zero, List.set_cons_succ, i64_w, i32_w]
        rfl
      refine take_ (i := 9) (N := some 79) (v := ?_) (a' := ?_) #[true, true, true, true, true, true, true, true, true, true, false, false, false, false, false, false] rfl rfl (by kernel_rfl) (fun _ _ _ h => h) (Or.inl ⟨by rfl, ?_⟩) hHeld ?_ ?_
      rotate_left
      · intro w2 hS2
        have f0 : w2.cell? ⟨g, 0, none⟩ = some (.string ⟨#[80, 85, 83, 72, 49]⟩) := hS2.2.2.cell 0
        have f4 : w2.cell? ⟨g, 4, none⟩ = some (.int .i64 1) := hS2.2.2.cell 4
        (go_simp; (try go_bits); with_reducible rfl)
      rotate_left
      · simp only [Act.put, List.setIfInBounds_toArray, List.set_cons_zero, List.set_cons_succ, i64_w, i32_w]
        rfl
      refine pure_ (i := 10) (N := some 80) (v := ?_) (a' := ?_) #[true, true, true, true, true, true, true, true, true, true, true, false, false, false, false, false] rfl rfl (by kernel_rfl) (fun _ _ _ h => h) (Or.inl ⟨by rfl, ?_⟩) ?_ ?_
      rotate_left
      · intro w2
        (go_simp; (try go_bits); with_reducible rfl)
      rotate_left
      · simp only [Act.put, List.setIfInBounds_toArray, List.set_cons_zero, List.set_cons_succ, i64_w, i32_w]
        rfl
      refine pure_ (i := 11) (N := some 81) (v := ?_) (a' := ?_) #[true, true, true, true, true, true, true, true, true, true, true, true, false, false, false, false] rfl rfl (by kernel_rfl) (fun _ _ _ h => h) (Or.inl ⟨by rfl, ?_⟩) ?_ ?_
      rotate_left
      · intro w2
        (go_simp; (try go_bits); with_reducible rfl)
      rotate_left
      · simp only [Act.put, List.setIfInBounds_toArray, List.set_cons_zero, List.set_cons_succ, i64_w, i32_w]
        rfl
      refine one_ (i := 12) (N := some 82) #[true, true, true, true, true, true, true, true, true, true, true, true, true, false, false, false] rfl rfl (by kernel_rfl) (by decide) (fun K hK => ?_)
      go_simp
      try go_bits
      refine (HT.out _ hHeld.1).mono ?_
      rintro e w4 ⟨rfl, hb4⟩
      refine hK.out _ _ (hHeld.below hb4) (fun hHeld => ?_)
      clear hK K
      refine norm_ (a' := ?_) ?_ ?_
      rotate_left
      · first | rfl | (simp only [Act.put, List.setIfInBounds_toArray, List.set_cons_zero, List.set_cons_succ, i64_w, i32_w]; rfl)
      refine pure_ (i := 13) (N := some 83) (v := ?_) (a' := ?_) #[true, true, true, true, true, true, true, true, true, true, true, true, true, true, false, false] rfl rfl (by kernel_rfl) (fun _ _ _ h => h) (Or.inl ⟨by rfl, ?_⟩) ?_ ?_
      rotate_left
      · intro w2
        (go_simp; (try go_bits); with_reducible rfl)
      rotate_left
      · simp only [Act.put, List.setIfInBounds_toArray, List.set_cons_zero, List.set_cons_succ, i64_w, i32_w]
        rfl
      refine pure_ (i := 14) (N := some 84) (v := ?_) (a' := ?_) #[true, true, true, true, true, true, true, true, true, true, true, true, true, true, true, false] rfl rfl (by kernel_rfl) (fun _ _ _ h => h) (Or.inl ⟨by rfl, ?_⟩) ?_ ?_
      rotate_left
      · intro w2
        (go_simp; (try go_bits); with_reducible rfl)
      rotate_left
      · simp only [Act.put, List.setIfInBounds_toArray, List.set_cons_zero, List.set_cons_succ, i64_w, i32_w]
        rfl
      refine last_ (i := 15) (N := some 85) #[true, true, true, true, true, true, true, true, true, true, true, true, true, true, true, true] rfl rfl (by kernel_rfl) (by decide) (fun K hK => ?_)
      go_simp
      refine (bld_write _ hHeld.2.1 (by decide) (by decide) hHeld.1.size).mono ?_
      rintro e w5 ⟨rfl, k5, hb5, kp5⟩
      refine hK.out _ _ ?_
      clear hK K
      refine norm_ (a' := ?_) ?_ ?_
      rotate_left
      · first | rfl | (simp only [Act.put, List.setIfInBounds_toArray, List.set_cons_zero, List.set_cons_succ, i64_w, i32_w]; rfl)
      refine done_ (by kernel_rfl) ?_
      have k5 : Bld w.heap.size w.heap.size TEXTA w5 := k5
      have e5 : Below w.heap.size w w5 := hHeld.1.trans hb5
      have B5 := kp5 g _ _ (by decide) hgb hHeld.2.2
      have f5 : w5.cell? ⟨g, 4, none⟩ = some (.int .i64 1) := B5.cell 4
      clear kp5 B5 hHeld hb5 hgb hS HT HC f4 q1 q2
      go_wp2_with fail
      go_roundw
      case rel => exact ⟨e5, .inr ⟨rfl, k5⟩⟩
      case measure => simp [intOf]
    · go_wp2_with (go_at_call 14; refine (bld_string hb (by decide) hB.size).mono ?_; rintro e w1 ⟨rfl, hb1⟩)
      go_ret
      exact ⟨rfl, hB.trans hb1⟩
theorem fix_asmtext (w : World) : Calls Tryz.prog 6 #[.slice (some ⟨w.heap.size, 0, none⟩) 2 2] (w.alloc (.cells #[.int .u8 96, .int .u8 1] 5)) fun e w' => e = .returned (.string ⟨#[80, 85, 83, 72, 49, 32, 48, 120, 48, 49, 10]⟩) ∧ Below w.heap.size w w' :=
  (asmtext_one _ w.heap.size 2 (new_reads w [96, 1] _ (0, 0) (by decide)) (by decide)).mono fun e w' ⟨he, hb⟩ => ⟨he, bel_then (below_alloc (Below.refl _ _) _) hb⟩
end Go.Proofs.YtibhijjmmagdcaaGreatDoor

/- smithylaw27.fixed: the chapter's examples. -/
namespace Go.Proofs.YtibhijjmmagdcaaGreatDoor
set_option linter.unusedVariables false
set_option linter.unusedSimpArgs false
open Go.RowKit Go.Proofs.YtibhijjmmagdcaaGreatDoorW.PrintWords Go.Proofs.YtibhijjmmagdcaaGreatDoorW.PrintLast
theorem code_any (s : ByteArray) (w : World) (hm : MaxV w) : Calls Tryz.prog 7 #[.string s] w (CodeOut w (codeF (bytesOf s))) := by
  by_cases h : 65536 < s.size
  · exact code_long s w h
  · exact code_main s (by omega) w hm
/-- What Code answers, as a law uses it: what its row reads as. -/
theorem code_str (s : ByteArray) (w : World) (hm : MaxV w) : Calls Tryz.prog 7 #[.string s] w fun e w' => ∃ v, e = .returned (.tuple #[v, .int .i64 (codeF (bytesOf s)).2.1, .int .i64 (codeF (bytesOf s)).2.2]) ∧ (∀ W, Below w'.heap.size w' W → (convert 22 9 v).run Tryz.prog W = .ok (.string (strOfNums (codeF (bytesOf s)).1)) W) ∧ Below w.heap.size w w' ∧ (codeF (bytesOf s)).1.length ≤ 9223372036854775807 :=
  (code_any s w hm).mono fun e w' ⟨A, c, he, hc, _, hb⟩ => ⟨_, he, fun W hW => conv_bytes (Kd.C_below hc hW), hb, hc.2.1⟩
def FX : ByteArray := ⟨#[97, 58, 10, 80, 85, 83, 72, 32, 64, 97, 10, 74, 85, 77, 80]⟩
set_option maxRecDepth 100000 in
theorem codeFX : codeF (bytesOf FX) = ([97, 0, 0, 86], 0, 0) := by kernel_rfl
theorem code_fx (w : World) (hm : MaxV w) : Calls Tryz.prog 7 #[.string ⟨#[97, 58, 10, 80, 85, 83, 72, 32, 64, 97, 10, 74, 85, 77, 80]⟩] w fun e w' => ∃ v, e = .returned (.tuple #[v, .int .i64 0, .int .i64 0]) ∧ (convert 22 9 v).run Tryz.prog w' = .ok (.string ⟨#[97, 0, 0, 86]⟩) w' ∧ Below w.heap.size w w' := by
  have h := code_str FX w hm
  rw [codeFX] at h
  exact h.mono fun e w' ⟨v, he, hc, hb, _⟩ => ⟨v, he, hc w' (Below.refl _ _), hb⟩
set_option maxRecDepth 100000 in
theorem fixed27 (w : World) (hm : MaxV w) : Calls Tryz.prog 5 #[] w fun e w' => e = .returned (.bool true) ∧ Below w.heap.size w w' := by
  have HM := Lib.hid hm
  clear hm
  go_enter Tryz.func5, Tryz.ntmps5
  go_wp2_with (first | (go_at_call 7; refine (code_fx _ HM.out).mono ?_; rintro e w1 ⟨v, rfl, hv, hb1⟩) | (go_at_call 6; refine (fix_asmtext _).mono ?_; rintro e w2 ⟨rfl, hb2⟩))
  go_ret
  exact ⟨rfl, bel_then hb1 hb2⟩
end Go.Proofs.YtibhijjmmagdcaaGreatDoor
