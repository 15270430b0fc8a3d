/- How a quantity is written, and what it says: plain; no program in sight. -/
import Derived.Test.YtibhijjmmagdcaaGreatDoorTextPlain
import Derived.Test.YtibhijjmmagdcaaGreatDoorWordPlain
import Derived.Laws.StructEq
namespace Go.Proofs.YtibhijjmmagdcaaGreatDoor
set_option linter.unusedVariables false
set_option linter.unusedSimpArgs false
open Go.RowKit Go.Proofs.YtibhijjmmagdcaaGreatDoorW.PrintWords
/-- Leading zeros away; one sign is left. -/
def strip1 : List Int → List Int
  | [] => []
  | [a] => [a]
  | a :: b :: r => if a = 48 then strip1 (b :: r) else a :: b :: r
def byteL (f : Nat → Int) : List Int := (List.range 32).map (byteF f)
def quantL (f : Nat → Int) : List Int := 48 :: 120 :: strip1 (hexOf (byteL f))
def lowL (d : Nat → Int) : Nat → List Int
  | 0 => []
  | n + 1 => d n :: lowL d n
theorem lowL_length (d : Nat → Int) : ∀ n, (lowL d n).length = n
  | 0 => rfl
  | n + 1 => by simp [lowL, lowL_length d n]
theorem byteL_low (f : Nat → Int) : byteL f = lowL (ofD f) 32 := by rfl
theorem lowL_byte {d : Nat → Int} (h : U8 d) : ∀ n, ∀ c ∈ lowL d n, 0 ≤ c ∧ c < 256
  | 0, c, hc => by simp [lowL] at hc
  | n + 1, c, hc => by
    rcases List.mem_cons.1 hc with rfl | hc
    · exact h n
    · exact lowL_byte h n c hc
theorem byteL_byte (f : Nat → Int) : ∀ c ∈ byteL f, 0 ≤ c ∧ c < 256 := by rw [byteL_low]; exact lowL_byte (ofD_range f) 32
theorem strip1_drop : ∀ {l : List Int}, (∃ c ∈ l, c ≠ 48) → strip1 l = l.dropWhile (fun c => decide (c = 48))
  | [], ⟨c, hc, _⟩ => by cases hc
  | [a], ⟨c, hc, hne⟩ => by
    have : c = a := by simpa using hc
    subst this
    simp [strip1, List.dropWhile, hne]
  | a :: b :: r, ⟨c, hc, hne⟩ => by
    rw [strip1, List.dropWhile_cons]
    by_cases ha : a = 48
    · have h2 : ∃ c ∈ b :: r, c ≠ 48 := by
        rcases List.mem_cons.1 hc with rfl | hc
        · exact absurd ha hne
        · exact ⟨c, hc, hne⟩
      rw [if_pos ha, if_pos (by simpa using ha), strip1_drop h2]
    · rw [if_neg ha, if_neg (by simpa using ha)]
theorem strip1_len : ∀ l : List Int, (strip1 l).length ≤ l.length
  | [] => Nat.le_refl _
  | [_] => Nat.le_refl _
  | a :: b :: r => by
    have := strip1_len (b :: r)
    rw [strip1]; split <;> simp at this ⊢; omega
theorem strip1_ne : ∀ {l : List Int}, l ≠ [] → strip1 l ≠ []
  | [], h => absurd rfl h
  | [_], _ => by simp [strip1]
  | a :: b :: r, _ => by
    have := strip1_ne (l := b :: r) (by simp)
    rw [strip1]; split
    · exact this
    · simp
theorem strip1_head : ∀ l : List Int, (strip1 l).head? = some 48 → (strip1 l).length ≤ 1
  | [], _ => by simp [strip1]
  | [_], _ => by simp [strip1]
  | a :: b :: r, h => by
    have := strip1_head (b :: r)
    rw [strip1] at h ⊢
    split at h
    · rename_i e; rw [if_pos e]; exact this h
    · rename_i e; simp at h; exact absurd h e
theorem strip1_mem : ∀ {l : List Int} {c : Int}, c ∈ strip1 l → c ∈ l
  | [], _, h => h
  | [_], _, h => h
  | a :: b :: r, c, h => by
    rw [strip1] at h
    split at h
    · exact List.mem_cons_of_mem _ (strip1_mem h)
    · exact h
theorem hnum_from (l : List Int) : ∀ a, l.foldl (fun a c => 16 * a + hv c) a = a * 16 ^ l.length + hnum l := by
  induction l with
  | nil => intro a; simp [hnum]
  | cons c l ih =>
    intro a
    rw [hnum, List.foldl_cons, List.foldl_cons, ih, ih (16 * 0 + hv c), List.length_cons, Int.pow_succ, Int.add_mul, Int.add_mul]
    have e1 : 16 * a * 16 ^ l.length = a * (16 ^ l.length * 16) := by rw [Int.mul_comm 16 a, Int.mul_assoc, Int.mul_comm 16]
    omega
theorem hnum_cons (c : Int) (l : List Int) : hnum (c :: l) = hv c * 16 ^ l.length + hnum l := by
  rw [hnum, List.foldl_cons, hnum_from]; simp
theorem strip1_hnum : ∀ l : List Int, hnum (strip1 l) = hnum l
  | [] => rfl
  | [_] => rfl
  | a :: b :: r => by
    rw [strip1]; split
    · rename_i e
      rw [strip1_hnum (b :: r), hnum_cons a, e, show hv 48 = 0 by decide]
      omega
    · rfl
theorem hnum_hex (d : Nat → Int) (hd : U8 d) : ∀ n, hnum (hexOf (lowL d n)) = dval d n
  | 0 => rfl
  | n + 1 => by
    have h := hd n
    rw [lowL, hexOf_cons, hnum_cons, hnum_cons, hnum_hex d hd n, dval, hv_dg (by omega) (by omega), hv_dg (by omega) (by omega), List.length_cons, hexOf_length, lowL_length]
    have e1 : (256 : Int) ^ n = 16 ^ (2 * n) := by rw [show (256 : Int) = 16 ^ 2 by rfl, ← Int.pow_mul]
    rw [e1, Int.pow_succ]
    generalize (16 : Int) ^ (2 * n) = X
    have : d n = 16 * (d n / 16) + d n % 16 := by omega
    generalize d n / 16 = p at *
    generalize d n % 16 = q at *
    rw [this, Int.add_mul, show p * (X * 16) = 16 * p * X by rw [Int.mul_comm X 16, ← Int.mul_assoc, Int.mul_comm p 16]]
    omega
theorem hexOf_digit {l : List Int} (h : ∀ c ∈ l, 0 ≤ c ∧ c < 256) : ∀ c ∈ hexOf l, 0 ≤ hv c := by
  intro c hc
  simp only [hexOf, List.mem_flatMap] at hc
  obtain ⟨b, hb, hc⟩ := hc
  have := h b hb
  simp at hc
  rcases hc with rfl | rfl
  · rw [hv_dg (by omega) (by omega)]; omega
  · rw [hv_dg (by omega) (by omega)]; omega
theorem byteL_length (f : Nat → Int) : (byteL f).length = 32 := by simp [byteL]
theorem quant_dig (f : Nat → Int) : digErr (strip1 (hexOf (byteL f))) = 0 := by
  have hne : hexOf (byteL f) ≠ [] := by intro e; have := hexOf_length (byteL f); rw [e, byteL_length] at this; simp at this
  have hl := strip1_len (hexOf (byteL f))
  rw [hexOf_length, byteL_length] at hl
  rw [digErr, if_neg, if_neg (by omega)]
  rintro (h | h | h)
  · exact strip1_ne hne h
  · have := strip1_head _ h.1; omega
  · rw [List.any_eq_true] at h
    obtain ⟨c, hc, hv⟩ := h
    have := hexOf_digit (byteL_byte f) c (strip1_mem hc)
    simp at hv; omega
theorem quant_err (f : Nat → Int) : wordErr (quantL f) = 0 := quant_dig f
theorem quant_num {f : Nat → Int} (hf : U64 f) : wordNum (quantL f) = wval f := by
  show digNum (strip1 (hexOf (byteL f))) = wval f
  rw [digNum, if_pos (quant_dig f), strip1_hnum, byteL_low, hnum_hex _ (ofD_range f), ofD_val hf]
theorem quant_byte (f : Nat → Int) : ∀ c ∈ quantL f, 0 ≤ c ∧ c < 256 := by
  intro c hc
  simp only [quantL, List.mem_cons] at hc
  rcases hc with rfl | rfl | hc
  · omega
  · omega
  · exact hexOf_byte (byteL_byte f) c (strip1_mem hc)
theorem quant_len (f : Nat → Int) : (quantL f).length ≤ 66 := by
  have hl := strip1_len (hexOf (byteL f))
  rw [hexOf_length, byteL_length] at hl
  simp [quantL]; omega
theorem pairs_hex : ∀ {l : List Int}, (∀ c ∈ l, 0 ≤ c ∧ c < 256) → pairs (hexOf l) = some l
  | [], _ => rfl
  | c :: l, h => by
    have hc := h c (by simp)
    rw [hexOf_cons, pairs, hv_dg (by omega) (by omega), hv_dg (by omega) (by omega), if_neg (by omega), pairs_hex fun x hx => h x (by simp [hx])]
    simp; omega
theorem bytesOf_textL {l : List Int} (h : ∀ c ∈ l, 0 ≤ c ∧ c < 256) : bytesOfText (textL l) = some l := pairs_hex h
/-- Every word but 0 has a sign that is not 0. -/
theorem hex_nonzero {f : Nat → Int} (hf : U64 f) (h : wval f ≠ 0) : ∃ c ∈ hexOf (byteL f), c ≠ 48 := by
  refine Classical.byContradiction fun hn => ?_
  have hz : ∀ c ∈ hexOf (byteL f), c = 48 := fun c hc => Classical.byContradiction fun e => hn ⟨c, hc, e⟩
  have h0 : hnum (hexOf (byteL f)) = 0 := by
    generalize hexOf (byteL f) = l at hz
    induction l with
    | nil => rfl
    | cons a l ih =>
      rw [hnum_cons, hz a (by simp), ih fun c hc => hz c (by simp [hc]), show hv 48 = 0 by decide]
      simp
  rw [byteL_low, hnum_hex _ (ofD_range f), ofD_val hf] at h0
  exact h h0
theorem byteL_zero {f : Nat → Int} (h : ∀ i, i < 4 → f i = 0) : byteL f = byteL fun _ => 0 := by
  apply List.map_congr_left
  intro p _
  rw [byteF, byteF, h _ (by omega)]
theorem quant_zero {f : Nat → Int} (h : ∀ i, i < 4 → f i = 0) : quantL f = [48, 120, 48] := by
  rw [quantL, byteL_zero h]
  decide
theorem wval_zero {f : Nat → Int} (hf : U64 f) (h : wval f = 0) : ∀ i, i < 4 → f i = 0 := by
  have h0 := hf 0; have h1 := hf 1; have h2 := hf 2; have h3 := hf 3
  unfold wval at h
  intro i hi
  obtain rfl | rfl | rfl | rfl : i = 0 ∨ i = 1 ∨ i = 2 ∨ i = 3 := by omega
  all_goals omega
/-- Two rows of n numbers: the same? -/
def eqN (n : Nat) (f g : Nat → Int) : Bool := (List.range n).all fun i => f i == g i
theorem eqN_iff {n : Nat} {f g : Nat → Int} : eqN n f g = true ↔ ∀ i, i < n → f i = g i := by simp [eqN]
theorem run_equalIn_arrF {P : Program} (w : World) (d : Nat) (t e : TypeId) (n : Nat) (k : IntKind) (ht : P.underlying t = some (.array n e)) (he : P.underlying e = some (.int k)) (hsz : ∀ w, (sizeOf e).run P w = .ok 1 w) (f g : Nat → Int) :
    (Op.equalIn (d + 2) t (.agg (arrF k n f)) (.agg (arrF k n g))).run P w = .ok (eqN n f g) w := by
  rw [eqN, List.range_eq_range', Op.equalIn]
  simp only [Sem.run_bind, run_underlying ht, Result.andThen_ok, hsz, Std.Legacy.Range.forIn_eq_forIn_range', Std.Legacy.Range.size, Nat.sub_zero, Nat.add_sub_cancel, Nat.div_one]
  have hl : ∀ i ∈ List.range' 0 n 1, i < n := fun i hi => by simpa using (List.mem_range'_1.1 hi).2
  generalize List.range' 0 n 1 = l at hl ⊢
  induction l with
  | nil => simp
  | cons i l ih =>
    have hi : i < n := hl i (by simp)
    have px : ∀ f : Nat → Int, (part e (arrF k n f) (i * 1)).run P w = .ok (.int k (f i)) w := fun f => by
      have := arrF_get k n f i
      rw [if_pos hi] at this
      simp [part, isAgg, run_underlying he, this]
    have pe : (Op.equalIn (d + 1) e (.int k (f i)) (.int k (g i))).run P w = .ok (f i == g i) w := run_equalIn_int w d e k k _ _ he
    simp only [List.forIn_cons, Sem.run_bind, px, pe, Result.andThen_ok, List.all_cons]
    cases hb : (f i == g i)
    · simp
    · simp only [Bool.not_true, Bool.false_eq_true, if_false, Sem.run_pure, Result.andThen_ok, Bool.true_and]
      exact ih fun j hj => hl j (by simp [hj])
theorem run_eql_arrF {P : Program} (w : World) (t e : TypeId) (n : Nat) (k : IntKind) (ht : P.underlying t = some (.array n e)) (he : P.underlying e = some (.int k)) (hsz : ∀ w, (sizeOf e).run P w = .ok 1 w) (f g : Nat → Int) :
    (binOp .eql t (.agg (arrF k n f)) (.agg (arrF k n g))).run P w = .ok (.bool (eqN n f g)) w := by
  rw [run_eql_struct, run_equalIn_arrF w 9998 t e n k ht he hsz f g]
  rfl
theorem run_neq_arrF {P : Program} (w : World) (t e : TypeId) (n : Nat) (k : IntKind) (ht : P.underlying t = some (.array n e)) (he : P.underlying e = some (.int k)) (hsz : ∀ w, (sizeOf e).run P w = .ok 1 w) (f g : Nat → Int) :
    (binOp .neq t (.agg (arrF k n f)) (.agg (arrF k n g))).run P w = .ok (.bool (!eqN n f g)) w := by
  rw [run_neq_struct, run_equalIn_arrF w 9998 t e n k ht he hsz f g]
  rfl
end Go.Proofs.YtibhijjmmagdcaaGreatDoor
