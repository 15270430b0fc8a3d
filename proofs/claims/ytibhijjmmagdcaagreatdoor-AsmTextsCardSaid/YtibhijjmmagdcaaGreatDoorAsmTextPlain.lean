/- The text of a code, as plain functions; and its code is the code: plain laws, no program in sight. -/
import Derived.Test.YtibhijjmmagdcaaGreatDoorAsmMain
namespace Go.Proofs.YtibhijjmmagdcaaGreatDoor
set_option linter.unusedVariables false
set_option linter.unusedSimpArgs false
open Go.RowKit Go.Proofs.YtibhijjmmagdcaaGreatDoorW.PrintWords
def byteLine (c : Int) : List Int := BYTE1 ++ 32 :: textL [c]
/-- The lines of a code's text. -/
def asmL : Nat → List Int → List (List Int)
  | 0, _ => []
  | _ + 1, [] => []
  | f + 1, c :: r => match infoF c with
    | none => byteLine c :: asmL f r
    | some o => if (r.length : Int) < o.2.2.2.2 then (c :: r).map byteLine else
      if 0 < o.2.2.2.2 then (o.1 ++ 32 :: textL (r.take o.2.2.2.2.toNat)) :: asmL f (r.drop o.2.2.2.2.toNat) else o.1 :: asmL f r
def textA (l : List Int) : List Int := ((asmL l.length l).map (· ++ [10])).flatten
/-- What is told of each instruction, as the round trip needs it. -/
def tellsB (n : Int) : Bool := match infoF n with
  | none => true
  | some o => opF o.1 == some n && decide (o.1 ≠ []) && o.1.all (fun c => decide (60 ≤ c ∧ c ≤ 63) || decide (65 ≤ c ∧ c ≤ 90) || decide (48 ≤ c ∧ c ≤ 57)) && decide (o.1 ≠ PUSH) && decide (o.1 ≠ BYTE1) && decide (o.1.length ≤ 14) &&
    (if 96 ≤ n ∧ n ≤ 127 then decide (o.2.2.2.2 = n - 95) else decide (o.2.2.2.2 = 0))
theorem tells_all : ∀ n : Fin 256, tellsB (n.val : Int) = true := by decide +kernel
theorem byte1_none : opF BYTE1 = none := by decide +kernel
theorem dval_inj {f g : Nat → Int} (hf : U8 f) (hg : U8 g) : ∀ n, dval f n = dval g n → ∀ i, i < n → f i = g i
  | 0, _, i, hi => by omega
  | n + 1, h, i, hi => by
    have h1 := dval_range hf n
    have h2 := dval_range hg n
    rw [dval, dval] at h
    have hp := pow256_pos n
    have hn : f n = g n := by
      have h3 : (dval f n + f n * 256 ^ n) / 256 ^ n = f n := by rw [Int.add_mul_ediv_right _ _ (Int.ne_of_gt hp), Int.ediv_eq_zero_of_lt h1.1 h1.2, Int.zero_add]
      have h4 : (dval g n + g n * 256 ^ n) / 256 ^ n = g n := by rw [Int.add_mul_ediv_right _ _ (Int.ne_of_gt hp), Int.ediv_eq_zero_of_lt h2.1 h2.2, Int.zero_add]
      rw [← h3, ← h4, h]
    rcases Nat.lt_or_ge i n with hi' | hi'
    · refine dval_inj hf hg n ?_ i hi'
      rw [hn] at h
      omega
    · have : i = n := by omega
      rw [this]; exact hn
/-- A row as digits, the lowest first. -/
def digD (d : List Int) (i : Nat) : Int := if i < d.length then d.getD (d.length - 1 - i) 0 else 0
theorem digD_range {d : List Int} (h : ∀ c ∈ d, 0 ≤ c ∧ c < 256) : U8 (digD d) := fun i => by
  unfold digD
  split
  · rename_i hi
    rw [List.getD_eq_getElem?_getD, List.getElem?_eq_getElem (by omega)]
    exact h _ (List.getElem_mem _)
  · omega
theorem lowL_digD (d : List Int) : lowL (digD d) d.length = d := by
  apply List.ext_getElem?
  intro j
  rcases Nat.lt_or_ge j d.length with hj | hj
  · rw [lowL_get _ _ _ hj, digD, if_pos (by omega), show d.length - 1 - (d.length - 1 - j) = j by omega, List.getD_eq_getElem?_getD, List.getElem?_eq_getElem hj]
    rfl
  · rw [List.getElem?_eq_none (by rw [lowL_length]; exact hj), List.getElem?_eq_none hj]
theorem dval_high {f : Nat → Int} {n : Nat} (h : ∀ i, n ≤ i → f i = 0) : ∀ m, dval f (n + m) = dval f n
  | 0 => rfl
  | m + 1 => by rw [show n + (m + 1) = n + m + 1 by omega, dval, dval_high h m, h _ (by omega)]; simp
theorem hex_val {d : List Int} (h : ∀ c ∈ d, 0 ≤ c ∧ c < 256) : hnum (hexOf d) = dval (digD d) d.length := by
  have := hnum_hex (digD d) (digD_range h) d.length
  rw [lowL_digD] at this
  exact this
theorem hex_lt {d : List Int} (h : ∀ c ∈ d, 0 ≤ c ∧ c < 256) : 0 ≤ hnum (hexOf d) ∧ hnum (hexOf d) < 256 ^ d.length := by rw [hex_val h]; exact dval_range (digD_range h) _
theorem bytesN_hex {d : List Int} (h : ∀ c ∈ d, 0 ≤ c ∧ c < 256) (hl : d.length ≤ 32) : bytesN (hnum (hexOf d)) d.length = d := by
  have hr := hex_lt h
  have h1 : (256 : Int) ^ d.length ≤ 256 ^ 32 := int_pow_le (q := 256) (by omega) hl
  have h2 : (256 : Int) ^ 32 = M256 := by decide
  have h3 : dval (ofD (limbF (hnum (hexOf d)))) 32 = dval (digD d) 32 := by
    rw [ofD_val (limbF_U64 _), limbF_val hr.1 (by omega), hex_val h]
    obtain ⟨m, hm⟩ : ∃ m, 32 = d.length + m := ⟨32 - d.length, by omega⟩
    rw [hm]
    exact (dval_high (fun i hi => by rw [digD, if_neg (by omega)]) m).symm
  have h4 := dval_inj (ofD_range _) (digD_range h) 32 h3
  have h5 : ∀ n, n ≤ 32 → lowL (ofD (limbF (hnum (hexOf d)))) n = lowL (digD d) n := by
    intro n
    induction n with
    | zero => intro _; rfl
    | succ n ih => intro hn; rw [lowL, lowL, ih (by omega), h4 n (by omega)]
  rw [bytesN, h5 _ hl, lowL_digD]
theorem size_hex {d : List Int} (h : ∀ c ∈ d, 0 ≤ c ∧ c < 256) : sizeN (hnum (hexOf d)) ≤ d.length := by
  have hr := hex_lt h
  refine (sizeN_le _ hr.1 _).2 ?_
  have h1 : (256 : Int) ^ d.length = ((2 ^ (8 * d.length) : Nat) : Int) := by rw [Nat.pow_mul, Int.natCast_pow]; rfl
  omega
theorem textL_num {d : List Int} (h : ∀ c ∈ d, 0 ≤ c ∧ c < 256) (h0 : 0 < d.length) (hl : d.length ≤ 32) : numErr (textL d) = 0 ∧ numVal (textL d) = hnum (hexOf d) := by
  have hr : rest0x (textL d) = some (hexOf d) := rfl
  have hne : hexOf d ≠ [] := fun e => by have := congrArg List.length e; rw [hexOf_length] at this; simp at this; omega
  have hany : (hexOf d).any (fun c => decide (hv c < 0)) = false := by
    rw [List.any_eq_false]
    intro c hc
    have := hexOf_digit h c hc
    simpa using this
  have he : numErr (textL d) = 0 := by
    unfold numErr
    rw [hr]
    show (if hexOf d = [] ∨ (hexOf d).any (fun c => decide (hv c < 0)) = true then (2 : Int) else if 64 < (hexOf d).length then 5 else 0) = 0
    rw [if_neg (by rw [hany]; rintro (e | e); exact hne e; cases e), if_neg (by rw [hexOf_length]; omega)]
  refine ⟨he, ?_⟩
  unfold numVal
  rw [he, hr, if_neg (fun h => h rfl)]
/-- No blank, no line's end, no note, no sign of a label. -/
def wordC (l : List Int) : Prop := ∀ c ∈ l, c ≠ 32 ∧ c ≠ 9 ∧ c ≠ 59 ∧ c ≠ 10 ∧ c ≠ 58 ∧ c ≠ 64
theorem wordC.app {a b : List Int} (ha : wordC a) (hb : wordC b) : wordC (a ++ b) := fun c hc => by
  rcases List.mem_append.1 hc with hc | hc
  · exact ha c hc
  · exact hb c hc
theorem dg_word {n : Int} (h0 : 0 ≤ n) (h1 : n < 16) : dg n ≠ 32 ∧ dg n ≠ 9 ∧ dg n ≠ 59 ∧ dg n ≠ 10 ∧ dg n ≠ 58 ∧ dg n ≠ 64 := by
  unfold dg
  split <;> omega
theorem textL_word {d : List Int} (h : ∀ c ∈ d, 0 ≤ c ∧ c < 256) : wordC (textL d) := by
  intro c hc
  simp only [textL, List.mem_cons] at hc
  rcases hc with rfl | rfl | hc
  · omega
  · omega
  · simp only [hexOf, List.mem_flatMap] at hc
    obtain ⟨x, hx, hc⟩ := hc
    have := h x hx
    simp only [List.mem_cons, List.not_mem_nil, or_false] at hc
    rcases hc with rfl | rfl
    · exact dg_word (by omega) (by omega)
    · exact dg_word (by omega) (by omega)
theorem noteF_word : ∀ {l : List Int}, (∀ c ∈ l, c ≠ 59) → noteF l = l
  | [], _ => rfl
  | c :: r, h => by
    unfold noteF
    rw [List.takeWhile_cons, if_pos (by simpa using h c (by simp))]
    exact congrArg _ (noteF_word (l := r) fun x hx => h x (by simp [hx]))
theorem wordsG_word : ∀ (l now r : List Int), wordC l → wordsG now (l ++ r) = wordsG (now ++ l) r
  | [], now, r, _ => by simp
  | c :: l, now, r, h => by
    have hc := h c (by simp)
    rw [List.cons_append, wordsG, if_neg (by omega), wordsG_word l _ r fun x hx => h x (by simp [hx])]
    simp
theorem words_one {l : List Int} (h : wordC l) (h0 : l ≠ []) : wordsF l = [l] := by
  rw [wordsF, noteF_word fun c hc => (h c hc).2.2.1]
  have := wordsG_word l [] [] h
  rw [List.append_nil] at this
  rw [this, List.nil_append, wordsG, if_neg h0]
theorem words_two {l m : List Int} (h : wordC l) (h0 : l ≠ []) (hm : wordC m) (m0 : m ≠ []) : wordsF (l ++ 32 :: m) = [l, m] := by
  rw [wordsF, noteF_word fun c hc => by
    rcases List.mem_append.1 hc with hc | hc
    · exact (h c hc).2.2.1
    · rcases List.mem_cons.1 hc with rfl | hc
      · omega
      · exact (hm c hc).2.2.1]
  rw [wordsG_word l [] _ h, List.nil_append, wordsG, if_pos (.inl rfl), if_neg h0]
  have := wordsG_word m [] [] hm
  rw [List.append_nil] at this
  rw [this, List.nil_append, wordsG, if_neg m0]
theorem tells {c : Int} (h0 : 0 ≤ c) (h1 : c < 256) {o : OpI} (ho : infoF c = some o) : opF o.1 = some c ∧ o.1 ≠ [] ∧ wordC o.1 ∧ o.1 ≠ PUSH ∧ o.1 ≠ BYTE1 ∧ o.1.length ≤ 14 ∧ (if 96 ≤ c ∧ c ≤ 127 then o.2.2.2.2 = c - 95 else o.2.2.2.2 = 0) := by
  have h := tells_all ⟨c.toNat, by omega⟩
  simp only [Int.toNat_of_nonneg h0, tellsB, ho, Bool.and_eq_true, beq_iff_eq, decide_eq_true_eq, List.all_eq_true, Bool.or_eq_true] at h
  obtain ⟨⟨⟨⟨⟨⟨a, b⟩, w⟩, d⟩, e⟩, f⟩, g⟩ := h
  refine ⟨a, b, fun x hx => ?_, d, e, f, ?_⟩
  · have := w x hx
    omega
  · by_cases hc : 96 ≤ c ∧ c ≤ 127
    · rw [if_pos hc] at g ⊢; simpa using g
    · rw [if_neg hc] at g ⊢; simpa using g
theorem line_name {c : Int} (h0 : 0 ≤ c) (h1 : c < 256) {o : OpI} (ho : infoF c = some o) (hd : ¬ 0 < o.2.2.2.2) (n : Int) (st : MkF) : lineF n (wordsF o.1) st = (0, { st with code := st.code ++ [c] }) := by
  obtain ⟨a, b, w, d, e, _, g⟩ := tells h0 h1 ho
  have hc : ¬ (96 ≤ c ∧ c ≤ 127) := fun h => by rw [if_pos h] at g; omega
  rw [words_one w b]
  show (if o.1.getLast? = some 58 then labelF o.1.dropLast st else plainF o.1 st) = _
  rw [if_neg fun h => (w 58 (List.mem_of_getLast? h)).2.2.2.2.1 rfl, plainF, if_neg, a]
  rintro (h | h)
  · unfold pushesF at h
    rw [if_neg d, a] at h
    simp only at h
    rw [if_neg hc] at h
    cases h
  · exact e h
theorem line_push {c : Int} (h0 : 0 ≤ c) (h1 : c < 256) {o : OpI} (ho : infoF c = some o) (hd : 0 < o.2.2.2.2) {d : List Int} (hl : (d.length : Int) = o.2.2.2.2) (hb : ∀ x ∈ d, 0 ≤ x ∧ x < 256) (n : Int) (st : MkF) :
    lineF n (wordsF (o.1 ++ 32 :: textL d)) st = (0, { st with code := st.code ++ c :: d }) := by
  obtain ⟨a, b, w, p, e, _, g⟩ := tells h0 h1 ho
  have hc : 96 ≤ c ∧ c ≤ 127 := by
    by_cases h : 96 ≤ c ∧ c ≤ 127
    · exact h
    · rw [if_neg h] at g; omega
  rw [if_pos hc] at g
  have hp : pushesF o.1 = some (c - 95) := by unfold pushesF; rw [if_neg p, a]; simp only; rw [if_pos hc]
  obtain ⟨n1, n2⟩ := textL_num hb (by omega) (by omega)
  rw [words_two w b (textL_word hb) (by simp [textL])]
  show withF n o.1 (textL d) st = _
  unfold withF
  rw [if_neg (by rw [hp]; simp), if_neg (fun h => p h.1), if_neg (fun h => h n1), hp, n2]
  show pushF (c - 95).toNat (hnum (hexOf d)) st = _
  have hk : (c - 95).toNat = d.length := by omega
  have hs := size_hex hb
  unfold pushF
  rw [hk]
  simp only
  rw [if_neg (show ¬ d.length = 0 by omega), if_neg (by omega), bytesN_hex hb (by omega), show 95 + (d.length : Int) = c by omega]
theorem byte1_word : wordC BYTE1 := by unfold wordC BYTE1; decide
theorem line_byte {c : Int} (h0 : 0 ≤ c) (h1 : c < 256) (n : Int) (st : MkF) : lineF n (wordsF (byteLine c)) st = (0, { st with code := st.code ++ [c] }) := by
  have hb : ∀ x ∈ [c], 0 ≤ x ∧ x < 256 := fun x hx => by simp at hx; omega
  obtain ⟨n1, n2⟩ := textL_num hb (by simp) (by simp)
  have hp : pushesF BYTE1 = none := by unfold pushesF; rw [if_neg (by decide), byte1_none]
  have hv' : hnum (hexOf [c]) = c := by
    rw [hex_val hb]
    simp [dval, digD]
  have hs := size_hex hb
  rw [byteLine, words_two byte1_word (by decide) (textL_word hb) (by simp [textL])]
  show withF n BYTE1 (textL [c]) st = _
  unfold withF
  rw [if_neg (fun h => h.2 rfl), if_neg (fun h => absurd h.1 (by decide)), if_neg (fun h => h n1), hp, n2]
  simp only
  rw [if_neg (by simpa using hs), hv']
theorem run_bytes : ∀ (l : List Int), (∀ c ∈ l, 0 ≤ c ∧ c < 256) → ∀ (n : Int) (st : MkF) (r : List (List Int)), ∃ m, runF n (l.map byteLine ++ r) st = runF m r { st with code := st.code ++ l }
  | [], _, n, st, r => ⟨n, by simp⟩
  | c :: l, h, n, st, r => by
    obtain ⟨m, hm⟩ := run_bytes l (fun x hx => h x (by simp [hx])) (n + 1) { st with code := st.code ++ [c] } r
    have hc := h c (by simp)
    refine ⟨m, ?_⟩
    rw [List.map_cons, List.cons_append, runF, line_byte hc.1 hc.2, if_pos rfl]
    simp only
    rw [hm]
    simp
theorem run_asm : ∀ (f : Nat) (l : List Int), l.length ≤ f → (∀ c ∈ l, 0 ≤ c ∧ c < 256) → ∀ (n : Int) (st : MkF) (r : List (List Int)), ∃ m, runF n (asmL f l ++ r) st = runF m r { st with code := st.code ++ l }
  | 0, l, hl, _, n, st, r => by
    have : l = [] := List.eq_nil_of_length_eq_zero (by omega)
    subst this
    exact ⟨n, by simp [asmL]⟩
  | f + 1, [], _, _, n, st, r => ⟨n, by simp [asmL]⟩
  | f + 1, c :: t, hl, h, n, st, r => by
    have hc := h c (by simp)
    have ht : ∀ x ∈ t, 0 ≤ x ∧ x < 256 := fun x hx => h x (by simp [hx])
    simp only [List.length_cons] at hl
    rcases ho : infoF c with _ | o
    · obtain ⟨m, hm⟩ := run_asm f t (by omega) ht (n + 1) { st with code := st.code ++ [c] } r
      refine ⟨m, ?_⟩
      rw [asmL, ho]
      simp only [List.cons_append]
      rw [runF, line_byte hc.1 hc.2, if_pos rfl]
      simp only
      rw [hm]
      simp
    · rw [asmL, ho]
      simp only
      by_cases hs : (t.length : Int) < o.2.2.2.2
      · rw [if_pos hs]
        exact run_bytes (c :: t) h n st r
      · rw [if_neg hs]
        by_cases hd : 0 < o.2.2.2.2
        · rw [if_pos hd]
          obtain ⟨d, hdl⟩ : ∃ d, o.2.2.2.2.toNat = d := ⟨_, rfl⟩
          rw [hdl]
          obtain ⟨m, hm⟩ := run_asm f (t.drop d) (by rw [List.length_drop]; omega) (fun x hx => ht x (List.mem_of_mem_drop hx)) (n + 1) { st with code := st.code ++ c :: t.take d } r
          refine ⟨m, ?_⟩
          rw [List.cons_append, runF, line_push hc.1 hc.2 ho hd (by rw [List.length_take]; omega) (fun x hx => ht x (List.mem_of_mem_take hx)), if_pos rfl]
          simp only
          rw [hm]
          simp
        · rw [if_neg hd]
          obtain ⟨m, hm⟩ := run_asm f t (by omega) ht (n + 1) { st with code := st.code ++ [c] } r
          refine ⟨m, ?_⟩
          rw [List.cons_append, runF, line_name hc.1 hc.2 ho hd, if_pos rfl]
          simp only
          rw [hm]
          simp
theorem byteLine_ok {c : Int} (h : 0 ≤ c ∧ c < 256) : (10 : Int) ∉ byteLine c ∧ (byteLine c).length = 10 := by
  have hb : ∀ x ∈ [c], 0 ≤ x ∧ x < 256 := fun x hx => by simp at hx; omega
  refine ⟨fun hm => ?_, by simp [byteLine, BYTE1, textL, hexOf]⟩
  rcases List.mem_append.1 hm with hm | hm
  · exact absurd hm (by decide)
  · rcases List.mem_cons.1 hm with hm | hm
    · omega
    · exact (textL_word hb 10 hm).2.2.2.1 rfl
theorem asmL_ok : ∀ (f : Nat) (l : List Int), l.length ≤ f → (∀ c ∈ l, 0 ≤ c ∧ c < 256) → (∀ x ∈ asmL f l, (10 : Int) ∉ x) ∧ ((asmL f l).map (· ++ [10])).flatten.length ≤ 20 * l.length
  | 0, l, hl, _ => by
    have : l = [] := List.eq_nil_of_length_eq_zero (by omega)
    subst this
    exact ⟨fun x hx => by simp [asmL] at hx, by simp [asmL]⟩
  | f + 1, [], _, _ => ⟨fun x hx => by simp [asmL] at hx, by simp [asmL]⟩
  | f + 1, c :: t, hl, h => by
    have hc := h c (by simp)
    have ht : ∀ x ∈ t, 0 ≤ x ∧ x < 256 := fun x hx => h x (by simp [hx])
    simp only [List.length_cons] at hl
    rcases ho : infoF c with _ | o
    · obtain ⟨h1, h2⟩ := asmL_ok f t (by omega) ht
      rw [asmL, ho]
      refine ⟨fun x hx => ?_, ?_⟩
      · rcases List.mem_cons.1 hx with rfl | hx
        · exact (byteLine_ok hc).1
        · exact h1 x hx
      · simp only [List.map_cons, List.flatten_cons, List.length_append, (byteLine_ok hc).2, List.length_cons, List.length_nil]
        omega
    · obtain ⟨_, _, w, _, _, hl14, g⟩ := tells hc.1 hc.2 ho
      rw [asmL, ho]
      simp only
      by_cases hs : (t.length : Int) < o.2.2.2.2
      · rw [if_pos hs]
        refine ⟨fun x hx => ?_, ?_⟩
        · obtain ⟨y, hy, rfl⟩ := List.mem_map.1 hx
          exact (byteLine_ok (h y hy)).1
        · have key : ∀ l : List Int, (∀ c ∈ l, 0 ≤ c ∧ c < 256) → ((l.map byteLine).map (· ++ [10])).flatten.length ≤ 20 * l.length := by
            intro l
            induction l with
            | nil => intro _; simp
            | cons c l ih =>
              intro h
              have := ih fun x hx => h x (by simp [hx])
              simp only [List.map_cons, List.flatten_cons, List.length_append, (byteLine_ok (h c (by simp))).2, List.length_cons, List.length_nil]
              omega
          exact key (c :: t) h
      · rw [if_neg hs]
        by_cases hd : 0 < o.2.2.2.2
        · rw [if_pos hd]
          obtain ⟨d, hdl⟩ : ∃ d, o.2.2.2.2.toNat = d := ⟨_, rfl⟩
          rw [hdl]
          obtain ⟨h1, h2⟩ := asmL_ok f (t.drop d) (by rw [List.length_drop]; omega) (fun x hx => ht x (List.mem_of_mem_drop hx))
          refine ⟨fun x hx => ?_, ?_⟩
          · rcases List.mem_cons.1 hx with rfl | hx
            · intro hm
              rcases List.mem_append.1 hm with hm | hm
              · exact (w 10 hm).2.2.2.1 rfl
              · rcases List.mem_cons.1 hm with hm | hm
                · omega
                · exact (textL_word (fun x hx => ht x (List.mem_of_mem_take hx)) 10 hm).2.2.2.1 rfl
            · exact h1 x hx
          · simp only [List.map_cons, List.flatten_cons, List.length_append, List.length_cons, List.length_nil, textL, hexOf_length, List.length_take, List.length_drop] at h2 ⊢
            omega
        · rw [if_neg hd]
          obtain ⟨h1, h2⟩ := asmL_ok f t (by omega) ht
          refine ⟨fun x hx => ?_, ?_⟩
          · rcases List.mem_cons.1 hx with rfl | hx
            · exact fun hm => (w 10 hm).2.2.2.1 rfl
            · exact h1 x hx
          · simp only [List.map_cons, List.flatten_cons, List.length_append, List.length_cons, List.length_nil]
            omega
theorem lines_flat : ∀ (ls : List (List Int)), (∀ x ∈ ls, (10 : Int) ∉ x) → linesF ((ls.map (· ++ [10])).flatten) = ls ++ [[]]
  | [], _ => by simp [linesF]
  | l :: r, h => by
    rw [List.map_cons, List.flatten_cons, List.append_assoc, List.singleton_append, linesF_app, linesF_one (h l (by simp)), lines_flat r fun x hx => h x (by simp [hx])]
    rfl
/-- The code of a code's text is the code. -/
theorem code_textA {l : List Int} (h : ∀ c ∈ l, 0 ≤ c ∧ c < 256) (hl : l.length ≤ 3000) : codeF (textA l) = (l, 0, 0) := by
  obtain ⟨h1, h2⟩ := asmL_ok l.length l (Nat.le_refl _) h
  obtain ⟨m, hm⟩ := run_asm l.length l (Nat.le_refl _) h 0 mk0 [[]]
  have hr : runF 0 (linesF (textA l)) mk0 = (0, 0, { mk0 with code := l }) := by
    rw [textA, lines_flat _ h1, hm, runF]
    have e : lineF (m + 1) (wordsF []) { mk0 with code := mk0.code ++ l } = (0, { mk0 with code := mk0.code ++ l }) := rfl
    rw [e, if_pos rfl]
    rfl
  unfold codeF
  rw [hr, if_neg (by unfold textA; omega), if_neg (fun h => h rfl)]
  rfl
theorem asmL_fuel : ∀ (f g : Nat) (l : List Int), l.length ≤ f → l.length ≤ g → asmL f l = asmL g l
  | 0, g, l, h, _ => by
    have : l = [] := List.eq_nil_of_length_eq_zero (by omega)
    subst this
    cases g <;> simp [asmL]
  | f + 1, 0, l, _, h => by
    have : l = [] := List.eq_nil_of_length_eq_zero (by omega)
    subst this
    simp [asmL]
  | f + 1, g + 1, [], _, _ => by simp [asmL]
  | f + 1, g + 1, c :: t, h, h' => by
    simp only [List.length_cons] at h h'
    rcases ho : infoF c with _ | o
    · rw [asmL, asmL, ho]
      simp only
      rw [asmL_fuel f g t (by omega) (by omega)]
    · rw [asmL, asmL, ho]
      simp only
      rw [asmL_fuel f g t (by omega) (by omega), asmL_fuel f g (t.drop o.2.2.2.2.toNat) (by rw [List.length_drop]; omega) (by rw [List.length_drop]; omega)]
/-- The text from the byte k on. -/
def restT (l : List Int) (k : Nat) : List Int := ((asmL l.length (l.drop k)).map (· ++ [10])).flatten
theorem restT_zero (l : List Int) : restT l 0 = textA l := rfl
theorem restT_end {l : List Int} {k : Nat} (h : l.length ≤ k) : restT l k = [] := by
  unfold restT
  rw [List.drop_eq_nil_of_le h]
  cases l.length <;> simp [asmL]
theorem restT_none {l : List Int} {k : Nat} (hk : k < l.length) (h : infoF l[k] = none) : restT l k = byteLine l[k] ++ 10 :: restT l (k + 1) := by
  obtain ⟨f, hf⟩ : ∃ f, l.length = f + 1 := ⟨l.length - 1, by omega⟩
  have e := asmL_fuel f l.length (l.drop (k + 1)) (by rw [List.length_drop]; omega) (by rw [List.length_drop]; omega)
  unfold restT
  rw [← e, hf, List.drop_eq_getElem_cons hk, asmL, h]
  simp
theorem restT_short {l : List Int} {k : Nat} (hk : k < l.length) {o : OpI} (h : infoF l[k] = some o) (hs : (l.length : Int) - 1 - k < o.2.2.2.2) : restT l k = (((l.drop k).map byteLine).map (· ++ [10])).flatten := by
  obtain ⟨f, hf⟩ : ∃ f, l.length = f + 1 := ⟨l.length - 1, by omega⟩
  unfold restT
  rw [hf, List.drop_eq_getElem_cons hk, asmL, h]
  simp only
  rw [if_pos (by rw [List.length_drop]; omega)]
theorem restT_push {l : List Int} {k : Nat} (hk : k < l.length) {o : OpI} (h : infoF l[k] = some o) (hs : ¬ (l.length : Int) - 1 - k < o.2.2.2.2) {d : Nat} (hd : o.2.2.2.2 = d) (hd0 : 0 < d) : restT l k = o.1 ++ 32 :: (textL ((l.drop (k + 1)).take d) ++ 10 :: restT l (k + 1 + d)) := by
  obtain ⟨f, hf⟩ : ∃ f, l.length = f + 1 := ⟨l.length - 1, by omega⟩
  have e := asmL_fuel f l.length (l.drop (k + 1 + d)) (by rw [List.length_drop]; omega) (by rw [List.length_drop]; omega)
  unfold restT
  rw [← e, hf, List.drop_eq_getElem_cons hk, asmL, h]
  simp only
  rw [if_neg (by rw [List.length_drop]; omega), if_pos (by omega), hd, Int.toNat_natCast, List.drop_drop]
  simp
theorem restT_name {l : List Int} {k : Nat} (hk : k < l.length) {o : OpI} (h : infoF l[k] = some o) (hs : ¬ (l.length : Int) - 1 - k < o.2.2.2.2) (hd : ¬ 0 < o.2.2.2.2) : restT l k = o.1 ++ 10 :: restT l (k + 1) := by
  obtain ⟨f, hf⟩ : ∃ f, l.length = f + 1 := ⟨l.length - 1, by omega⟩
  have e := asmL_fuel f l.length (l.drop (k + 1)) (by rw [List.length_drop]; omega) (by rw [List.length_drop]; omega)
  unfold restT
  rw [← e, hf, List.drop_eq_getElem_cons hk, asmL, h]
  simp only
  rw [if_neg (by rw [List.length_drop]; omega), if_neg hd]
  simp
end Go.Proofs.YtibhijjmmagdcaaGreatDoor
