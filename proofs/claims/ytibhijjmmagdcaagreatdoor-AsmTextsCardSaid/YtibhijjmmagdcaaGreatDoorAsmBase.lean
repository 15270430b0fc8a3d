/- AsmBase: StrMap, AsmPlain, AsmNotesPlain, AsmNames, AsmNamed, AsmLibPlain, AsmLib in one text. -/
import Derived.Test.YtibhijjmmagdcaaGreatDoorTextPlain
import Derived.Maps.OwnOps
import Derived.Maps.OwnSet
import Derived.Maps.Views
import Derived.Test.YtibhijjmmagdcaaGreatDoorDestsPlain
import Derived.Test.YtibhijjmmagdcaaGreatDoorWordPlain
import Derived.Test.YtibhijjmmagdcaaGreatDoorQuantPlain
import Derived.Test.YtibhijjmmagdcaaGreatDoorRefDests
import Derived.Test.YtibhijjmmagdcaaGreatDoorHexWord
import Derived.Lib.FieldsP
import Derived.Lib.SpaceUEq
import Derived.Lib.SplitLaws
import Derived.Lib.CountLaws
import Derived.Lib.SlTrimSet
import Derived.Test.YtibhijjmmagdcaaGreatDoorShelf
import Derived.Shelf.Strings.SlTrimAscii
/- Maps from texts to plain values, as functions: made, asked, written. -/
namespace Go.Proofs.YtibhijjmmagdcaaGreatDoor
set_option linter.unusedVariables false
set_option linter.unusedSimpArgs false
open Go.RowKit Go.Proofs.YtibhijjmmagdcaaGreatDoorW.PrintWords Go.Proofs.YtibhijjmmagdcaaGreatDoorW.PrintLast
/-- A map, text to value, with v at k. -/
def putF {α : Type} (m : List Int → Option α) (k : List Int) (v : α) : List Int → Option α := fun x => if x = k then some v else m x
theorem putF_same {α : Type} (m : List Int → Option α) (k : List Int) (v : α) : putF m k v k = some v := if_pos rfl
theorem putF_other {α : Type} (m : List Int → Option α) {k x : List Int} (v : α) (h : x ≠ k) : putF m k v x = m x := if_neg h
theorem bytesOf_inj {s t : ByteArray} (h : bytesOf s = bytesOf t) : s = t := by rw [← strOfNums_bytesOf s, ← strOfNums_bytesOf t, h]
theorem data_inj {s t : ByteArray} (h : s.data.toList = t.data.toList) : s = t := bytesOf_inj (by unfold bytesOf; rw [h])
/-- Block b is a map of at most n texts that reads as m. -/
def SM {α : Type} (rd : α → Lit) (z : α) (e : TypeId) (W : World) (b n : Nat) (m : List Int → Option α) : Prop :=
  ∃ D : DataW Unit, W.ownsMap Tryz.prog 9 (plainElem Tryz.prog e) b n D ∧ ∀ s : ByteArray, Maps.has D (.string s.data.toList) = (m (bytesOf s)).isSome ∧ D.atKey (.string s.data.toList) (.lit (rd z)) = .lit (rd ((m (bytesOf s)).getD z))
theorem key_str (s : ByteArray) (hs : s.size ≤ maxLen) : keyOf Tryz.prog 9 (.string s) = some (.string s.data.toList) := by
  simp [keyOf, mapKey, Tryz.underlying9, hs]
section
variable {α : Type} {rd : α → Lit} {z : α} {e : TypeId} {W W1 : World} {b n : Nat} {m : List Int → Option α}
theorem SM.move (h : SM rd z e W b n m) (hk : W1.heap[b]? = W.heap[b]?) : SM rd z e W1 b n m := by
  obtain ⟨D, ⟨es, clock, hb, F, hs, hD⟩, hm⟩ := h
  exact ⟨D, ⟨es, clock, hk.trans hb, F, hs, hD⟩, hm⟩
theorem SM.lt (h : SM rd z e W b n m) : b < W.heap.size := by
  obtain ⟨D, ⟨es, clock, hb, _⟩, _⟩ := h
  exact blk_lt hb
theorem SM.mono (h : SM rd z e W b n m) {n' : Nat} (hn : n ≤ n') : SM rd z e W b n' m := by
  obtain ⟨D, ho, hm⟩ := h
  exact ⟨D, ho.mono hn, hm⟩
theorem SM.below (h : SM rd z e W b n m) (hb : Below W.heap.size W W1) : SM rd z e W1 b n m := h.move (hb.block b h.lt)
/-- It is no plain block. -/
theorem SM.ne {g : Nat} {cs : Array Value} {t : TypeId} (h : SM rd z e W b n m) (hg : W.heap[g]? = some (.cells cs t (0, 0))) : b ≠ g := by
  rintro rfl
  obtain ⟨D, ⟨es, clock, hb, _⟩, _⟩ := h
  rw [hg] at hb
  cases hb
theorem SM.made (rd : α → Lit) (z : α) (e : TypeId) (W : World) : SM rd z e (W.alloc (.map #[] 0)) W.heap.size 0 fun _ => none :=
  ⟨.map [], World.ownsMap_made _ _ _ _, fun s => ⟨rfl, rfl⟩⟩
/-- 'v, ok := m[s]'. -/
theorem SM.look_ok {t : TypeId} {enc : α → Value} (h : SM rd z e W b n m) (ht : Tryz.prog.underlying t = some (.map 9 e)) (hz : (zeroValue e).run Tryz.prog W = .ok (enc z) W) (hzd : plainElem (H := Unit) Tryz.prog e (enc z) = some (.lit (rd z), []))
    (hinv : ∀ v x ps, plainElem (H := Unit) Tryz.prog e v = some (.lit (rd x), ps) → v = enc x) (s : ByteArray) (hs : s.size ≤ maxLen) :
    (Instr.lookup t (.map (some b)) (.string s) true).run Tryz.prog W = .ok (.tuple #[enc ((m (bytesOf s)).getD z), .bool (m (bytesOf s)).isSome]) W := by
  obtain ⟨D, ho, hm⟩ := h
  obtain ⟨v, ps, hrun, hv⟩ := ho.look_ok (Maps.string_keyed Tryz.underlying9) ht hz hzd (key_str s hs)
  rw [(hm s).2] at hv
  rw [hrun, (hm s).1, hinv _ _ _ hv]
/-- 'm[s]'. -/
theorem SM.look {t : TypeId} {enc : α → Value} (h : SM rd z e W b n m) (ht : Tryz.prog.underlying t = some (.map 9 e)) (hz : (zeroValue e).run Tryz.prog W = .ok (enc z) W) (hzd : plainElem (H := Unit) Tryz.prog e (enc z) = some (.lit (rd z), []))
    (hinv : ∀ v x ps, plainElem (H := Unit) Tryz.prog e v = some (.lit (rd x), ps) → v = enc x) (s : ByteArray) (hs : s.size ≤ maxLen) :
    (Instr.lookup t (.map (some b)) (.string s) false).run Tryz.prog W = .ok (enc ((m (bytesOf s)).getD z)) W := by
  obtain ⟨D, ⟨es, clock, hb, F, _, rfl⟩, hm⟩ := h
  rcases Maps.fit_look false (Maps.string_keyed Tryz.underlying9) ht hz hb F (key_str s hs) with ⟨hrun, _, hat⟩ | ⟨e0, y, _, _, hrun, hRv, hat, _⟩
  · have h2 := (hm s).2
    rw [hat] at h2
    rw [hrun]
    have := hinv (enc z) ((m (bytesOf s)).getD z) [] (by rw [hzd, h2])
    simp [this]
  · have h2 := (hm s).2
    rw [hat] at h2
    rw [hrun]
    have := hinv e0.val ((m (bytesOf s)).getD z) y.2 (by rw [hRv, ← h2])
    simp [this]
/-- 'm[s] = v'. -/
theorem SM.put {t : TypeId} {enc : α → Value} (h : SM rd z e W b n m) (ht : Tryz.prog.underlying t = some (.map 9 e)) (s : ByteArray) (hs : s.size ≤ maxLen) (hn : n < maxLen) (v : α) (hv : plainElem (H := Unit) Tryz.prog e (enc v) = some (.lit (rd v), [])) :
    ∃ W1, (Instr.mapUpdate t (.map (some b)) (.string s) (enc v)).run Tryz.prog W = .ok () W1 ∧ SM rd z e W1 b (n + 1) (putF m (bytesOf s) v) ∧ W.grownBy W1 (some b) := by
  obtain ⟨D, ho, hm⟩ := h
  obtain ⟨W1, hrun, ho1, hg⟩ := ho.update (Maps.string_keyed Tryz.underlying9) ht hn (key_str s hs) hv
  have hD : Maps.IsMap D := by
    obtain ⟨es, clock, _, _, _, rfl⟩ := ho
    exact ⟨_, rfl⟩
  refine ⟨W1, hrun, ⟨_, ho1, fun x => ?_⟩, hg⟩
  by_cases hx : x = s
  · subst hx
    rw [putF_same, Maps.has_put_same hD (show WideAt.IsKeyLit (.string x.data.toList) from trivial), Maps.atKey_put_same hD (show WideAt.IsKeyLit (.string x.data.toList) from trivial)]
    exact ⟨rfl, rfl⟩
  · have h1 : bytesOf x ≠ bytesOf s := fun e => hx (bytesOf_inj e)
    have h2 : Lit.string x.data.toList ≠ Lit.string s.data.toList := fun e => hx (data_inj (by injection e))
    rw [putF_other _ _ h1, Maps.has_put_other h2, Maps.atKey_put_other h2]
    exact hm x
/-- The write, as an operation. -/
theorem SM.wp_put {t : TypeId} {enc : α → Value} {o : Oper} {a : Act} {Kc : Act → World → Prop} {Q : Exit → Act → World → Prop} (h : SM rd z e W b n m) (x y v : Operand) (ho : o.op = .mapUpdate t x y v) (ht : Tryz.prog.underlying t = some (.map 9 e)) (s : ByteArray) (hx : a.eval x = .map (some b)) (hy : a.eval y = .string s)
    (u : α) (hv : a.eval v = enc u) (hs : s.size ≤ maxLen) (hn : n < maxLen) (hu : plainElem (H := Unit) Tryz.prog e (enc u) = some (.lit (rd u), []))
    (hK : ∀ W1, SM rd z e W1 b (n + 1) (putF m (bytesOf s) u) → W.grownBy W1 (some b) → Kc (a.put o.dst undef) W1) : o.wp Tryz.prog a W Kc Q := by
  obtain ⟨W1, hrun, h1, h2⟩ := h.put (enc := enc) ht s hs hn u hu
  have hr : (execOp a.eval o).run Tryz.prog W = .ok .skip W1 := by
    unfold execOp
    simp only [ho, hx, hy, hv, Sem.run_bind, hrun, Result.andThen_ok, Sem.run_pure]
  unfold Oper.wp
  rw [hr]
  exact hK W1 h1 h2
theorem SM.wpl_put {t : TypeId} {enc : α → Value} {ops : Array Oper} {rest : List Oper} {o : Oper} {a : Act} {Q : Exit → Act → World → Prop} (h : SM rd z e W b n m) (hg : o.guard = none) (x y v : Operand) (ho : o.op = .mapUpdate t x y v) (ht : Tryz.prog.underlying t = some (.map 9 e)) (s : ByteArray) (hx : a.eval x = .map (some b)) (hy : a.eval y = .string s)
    (u : α) (hv : a.eval v = enc u) (hs : s.size ≤ maxLen) (hn : n < maxLen) (hu : plainElem (H := Unit) Tryz.prog e (enc u) = some (.lit (rd u), []))
    (hK : ∀ W1, SM rd z e W1 b (n + 1) (putF m (bytesOf s) u) → W.grownBy W1 (some b) → wpList Tryz.prog ops Q rest (a.put o.dst undef) W1) : wpList Tryz.prog ops Q (o :: rest) a W :=
  wpList_plain hg fun K' hK' => h.wp_put x y v ho ht s hx hy u hv hs hn hu fun W1 h1 h2 => hK' _ _ (hK W1 h1 h2)
end
theorem elem_int {P : Program} {e : TypeId} {q : IntKind} (he : P.underlying e = some (.int q)) : ∀ v x ps, plainElem (H := Unit) P e v = some (.lit (.int q x), ps) → v = .int q x := by
  intro v x ps h
  obtain ⟨a, rfl, hz, _⟩ := plainElem_int_inv he h
  simp only [Prod.mk.injEq, DataW.lit.injEq, Lit.int.injEq, true_and] at hz
  rw [hz.1]
theorem elem_bool {P : Program} {e : TypeId} (he : P.underlying e = some .bool) : ∀ v x ps, plainElem (H := Unit) P e v = some (.lit (.bool x), ps) → v = .bool x := by
  intro v x ps h
  unfold plainElem at h
  rw [he] at h
  cases v <;> simp at h
  rw [h.1]
end Go.Proofs.YtibhijjmmagdcaaGreatDoor

/- Layer 27 as plain functions on lists of bytes: lines, words, numbers, what a line makes, the code; no program in sight. -/
namespace Go.Proofs.YtibhijjmmagdcaaGreatDoor
set_option linter.unusedVariables false
set_option linter.unusedSimpArgs false
open Go.RowKit Go.Proofs.YtibhijjmmagdcaaGreatDoorW.PrintWords
/-- The lines of a text. -/
def linesF : List Int → List (List Int)
  | [] => [[]]
  | c :: r => if c = 10 then [] :: linesF r else (c :: (linesF r).headD []) :: (linesF r).tail
/-- Words, parted by blanks and tabs; the word that is begun. -/
def wordsG : List Int → List Int → List (List Int)
  | now, [] => if now = [] then [] else [now]
  | now, c :: r => if c = 32 ∨ c = 9 then (if now = [] then wordsG [] r else now :: wordsG [] r) else wordsG (now ++ [c]) r
/-- A line up to its note. -/
def noteF (l : List Int) : List Int := l.takeWhile fun c => decide (c ≠ 59)
def wordsF (l : List Int) : List (List Int) := wordsG [] (noteF l)
def isDig (c : Int) : Bool := decide (48 ≤ c ∧ c ≤ 57)
/-- A decimal number. -/
def dnum (l : List Int) : Int := l.foldl (fun a c => 10 * a + (c - 48)) 0
def numErr (l : List Int) : Int := match rest0x l with
  | some r => if r = [] ∨ r.any (fun c => decide (hv c < 0)) = true then 2 else if 64 < r.length then 5 else 0
  | none => if l = [] ∨ l.all isDig = false then 2 else if 78 < l.length ∨ M256 ≤ dnum l then 5 else 0
def numVal (l : List Int) : Int := if numErr l ≠ 0 then 0 else match rest0x l with
  | some r => hnum r
  | none => dnum l
/-- A word's parts. -/
def limbF (n : Int) (i : Nat) : Int := if i = 0 then n % 18446744073709551616 else if i = 1 then n / 18446744073709551616 % 18446744073709551616 else if i = 2 then n / 340282366920938463463374607431768211456 % 18446744073709551616 else if i = 3 then n / 6277101735386680763835789423207666416102355444464034512896 % 18446744073709551616 else 0
/-- Is it a label's name? -/
def nameC (c : Int) : Bool := decide (c = 95) || decide (97 ≤ c ∧ c ≤ 122) || isDig c
def namedF (l : List Int) : Bool := decide (l ≠ []) && decide (l.length ≤ 32) && !isDig (l.headD 0) && l.all nameC
/-- The instructions' names, up to k. -/
def opG : Nat → List Int → Option Int
  | 0 => fun _ => none
  | k + 1 => match infoF (k : Int) with
    | some o => putF (opG k) o.1 (k : Int)
    | none => opG k
def opF (l : List Int) : Option Int := opG 256 l
/-- The maker: the code, the labels' places, the uses of labels (the place, the line, the name). -/
structure MkF where
  code : List Int
  labels : List Int → Option Int
  uses : List (Int × Int × List Int)
def mk0 : MkF := ⟨[], fun _ => none, []⟩
def PUSH : List Int := [80, 85, 83, 72]
def BYTE1 : List Int := [66, 89, 84, 69, 49]
def pushesF (nm : List Int) : Option Int := if nm = PUSH then some 0 else match opF nm with
  | some op => if 96 ≤ op ∧ op ≤ 127 then some (op - 95) else none
  | none => none
def labelF (nm : List Int) (st : MkF) : Int × MkF :=
  if namedF nm = false then (2, st) else if (st.labels nm).isSome then (18, st) else (0, { st with labels := putF st.labels nm (st.code.length : Int) })
def plainF (nm : List Int) (st : MkF) : Int × MkF :=
  if (pushesF nm).isSome ∨ nm = BYTE1 then (2, st) else match opF nm with
  | none => (16, st)
  | some op => (0, { st with code := st.code ++ [op] })
/-- How many bytes a number has. -/
def sizeN (n : Int) : Nat := if n = 0 then 0 else Nat.log2 n.toNat / 8 + 1
/-- The last k bytes of a number, the highest first. -/
def bytesN (n : Int) (k : Nat) : List Int := lowL (ofD (limbF n)) k
def pushF (size : Nat) (a : Int) (st : MkF) : Int × MkF :=
  let size' := if size = 0 then max (sizeN a) 1 else size
  if size' < sizeN a then (5, st) else (0, { st with code := st.code ++ (95 + (size' : Int)) :: bytesN a size' })
def withF (n : Int) (nm what : List Int) (st : MkF) : Int × MkF :=
  if (pushesF nm).isNone ∧ nm ≠ BYTE1 then (if (opF nm).isSome then (2, st) else (16, st)) else
  if nm = PUSH ∧ what.head? = some 64 then
    (if namedF what.tail then (0, { st with uses := st.uses ++ [((st.code.length : Int) + 1, n, what.tail)], code := st.code ++ [97, 0, 0] }) else (2, st)) else
  if numErr what ≠ 0 then (numErr what, st) else
  match pushesF nm with
  | none => if 1 < sizeN (numVal what) then (5, st) else (0, { st with code := st.code ++ [numVal what] })
  | some k => pushF k.toNat (numVal what) st
def lineF (n : Int) (ws : List (List Int)) (st : MkF) : Int × MkF := match ws with
  | [] => (0, st)
  | [w] => if w.getLast? = some 58 then labelF w.dropLast st else plainF w st
  | [w, v] => withF n w v st
  | _ => (2, st)
/-- The lines from line n on: the line and the error, or none. -/
def runF : Int → List (List Int) → MkF → Int × Int × MkF
  | _, [], st => (0, 0, st)
  | n, l :: r, st => if (lineF (n + 1) (wordsF l) st).1 = 0 then runF (n + 1) r (lineF (n + 1) (wordsF l) st).2 else (n + 1, (lineF (n + 1) (wordsF l) st).1, st)
def patchF (lab : List Int → Option Int) : List (Int × Int × List Int) → List Int → List Int × Int × Int
  | [], c => (c, 0, 0)
  | (at', ln, nm) :: r, c => if 65535 < (lab nm).getD 0 then ([], ln, 5) else patchF lab r ((c.set at'.toNat ((lab nm).getD 0 / 256)).set (at'.toNat + 1) ((lab nm).getD 0 % 256))
def linkF (st : MkF) : List Int × Int × Int := match st.uses.find? (fun u => (st.labels u.2.2).isNone) with
  | some u => ([], u.2.1, 12)
  | none => patchF st.labels st.uses st.code
def codeF (s : List Int) : List Int × Int × Int :=
  if 65536 < s.length then ([], 0, 4) else
  if (runF 0 (linesF s) mk0).2.1 ≠ 0 then ([], (runF 0 (linesF s) mk0).1, (runF 0 (linesF s) mk0).2.1) else linkF (runF 0 (linesF s) mk0).2.2
end Go.Proofs.YtibhijjmmagdcaaGreatDoor

/- Layer 27: notes and blanks play no part; two texts without labels, one behind the other: plain laws, no program in sight. -/
namespace Go.Proofs.YtibhijjmmagdcaaGreatDoor
set_option linter.unusedVariables false
set_option linter.unusedSimpArgs false
open Go.RowKit Go.Proofs.YtibhijjmmagdcaaGreatDoorW.PrintWords
theorem linesF_ne : ∀ l : List Int, linesF l ≠ []
  | [] => by simp [linesF]
  | c :: r => by rw [linesF]; split <;> simp
theorem linesF_cons {c : Int} {r : List Int} (h : c ≠ 10) : linesF (c :: r) = (c :: (linesF r).headD []) :: (linesF r).tail := by rw [linesF, if_neg h]
theorem linesF_app : ∀ a b : List Int, linesF (a ++ 10 :: b) = linesF a ++ linesF b
  | [], b => by simp [linesF]
  | c :: r, b => by
    rw [List.cons_append]
    by_cases h : c = 10
    · rw [linesF, if_pos h, linesF, if_pos h, linesF_app r b]; rfl
    · rw [linesF_cons h, linesF_cons h, linesF_app r b]
      have := linesF_ne r
      match hr : linesF r with
      | [] => exact absurd hr this
      | x :: y => simp
theorem linesF_one : ∀ {l : List Int}, 10 ∉ l → linesF l = [l]
  | [], _ => rfl
  | c :: r, h => by
    have h1 : c ≠ 10 := fun e => h (by simp [e])
    have h2 : 10 ∉ r := fun e => h (by simp [e])
    rw [linesF_cons h1, linesF_one h2]
    rfl
theorem linesF_no : ∀ l : List Int, ∀ x ∈ linesF l, (10 : Int) ∉ x
  | [], x, hx => by simp [linesF] at hx; subst hx; simp
  | c :: r, x, hx => by
    by_cases h : c = 10
    · rw [linesF, if_pos h] at hx
      rcases List.mem_cons.1 hx with rfl | hx
      · simp
      · exact linesF_no r x hx
    · rw [linesF_cons h] at hx
      have hne := linesF_ne r
      match hr : linesF r with
      | [] => exact absurd hr hne
      | a :: y =>
        rw [hr] at hx
        have ih := linesF_no r
        rw [hr] at ih
        rcases List.mem_cons.1 hx with rfl | hx
        · have := ih a List.mem_cons_self
          simp only [List.headD_cons, List.mem_cons, not_or]
          exact ⟨fun e => h e.symm, this⟩
        · exact ih x (List.mem_cons_of_mem _ hx)
/-- Lines, as one text. -/
def joinF : List (List Int) → List Int
  | [] => []
  | [l] => l
  | l :: r => l ++ 10 :: joinF r
theorem lines_join : ∀ {ls : List (List Int)}, ls ≠ [] → (∀ l ∈ ls, (10 : Int) ∉ l) → linesF (joinF ls) = ls
  | [l], _, h => linesF_one (h l (by simp))
  | l :: m :: r, _, h => by
    rw [joinF, linesF_app, linesF_one (h l (by simp)), lines_join (by simp) (fun x hx => h x (by simp only [List.mem_cons] at hx ⊢; exact .inr hx))]
    · rfl
    · simp
theorem joinF_two (l m : List Int) (r : List (List Int)) : joinF (l :: m :: r) = l ++ 10 :: joinF (m :: r) := rfl
theorem joinF_snoc : ∀ (ls : List (List Int)) (l : List Int), joinF (ls ++ [l]) = joinF ls ++ (if ls = [] then [] else [10]) ++ l
  | [], l => by simp [joinF]
  | [m], l => by simp [joinF]
  | m :: n :: r, l => by
    rw [List.cons_append, List.cons_append, joinF_two, ← List.cons_append, joinF_snoc (n :: r) l, joinF_two]
    simp
/-- A line with blanks ahead of it and behind it, and a note. -/
def notedF (note l : List Int) : List Int := 32 :: 9 :: (l ++ 32 :: 59 :: note)
theorem wordsG_blank : ∀ (l now : List Int), wordsG now (l ++ [32]) = wordsG now l
  | [], now => by
    simp only [List.nil_append, wordsG, true_or, if_true]
  | c :: r, now => by
    rw [List.cons_append, wordsG, wordsG, wordsG_blank r, wordsG_blank r]
theorem noteF_app (l x : List Int) : noteF (l ++ x) = if 59 ∈ l then noteF l else l ++ noteF x := by
  induction l with
  | nil => simp
  | cons c r ih =>
    unfold noteF at ih ⊢
    rw [List.cons_append, List.takeWhile_cons, List.takeWhile_cons]
    by_cases h : c = 59
    · simp [h]
    · have h' : ¬ (59 : Int) = c := fun e => h e.symm
      simp only [h, not_false_eq_true, decide_true, if_true, ne_eq]
      rw [ih]
      by_cases hm : (59 : Int) ∈ r <;> simp [hm, h']
theorem noteF_no {l : List Int} (h : 59 ∉ l) : noteF l = l := by
  have := noteF_app l []
  simpa [h, noteF] using this
theorem words_noted (note l : List Int) : wordsF (notedF note l) = wordsF l := by
  have e1 : noteF (notedF note l) = 32 :: 9 :: noteF (l ++ 32 :: 59 :: note) := by simp [noteF, notedF, List.takeWhile_cons]
  rw [wordsF, wordsF, e1, wordsG, wordsG, noteF_app]
  simp only [true_or, or_true, if_true]
  by_cases h : (59 : Int) ∈ l
  · rw [if_pos h]
  · rw [if_neg h, noteF_no h, show noteF (32 :: 59 :: note) = [32] by simp [noteF, List.takeWhile_cons], wordsG_blank]
theorem run_noted (note : List Int) : ∀ (ls : List (List Int)) (n : Int) (st : MkF), runF n (ls.map (notedF note)) st = runF n ls st
  | [], _, _ => rfl
  | l :: r, n, st => by rw [List.map_cons, runF, runF, words_noted, run_noted note r]
theorem code_noted (s note : List Int) (hn : (10 : Int) ∉ note) (hs : s.length ≤ 65536) (ht : (joinF ((linesF s).map (notedF note))).length ≤ 65536) : codeF (joinF ((linesF s).map (notedF note))) = codeF s := by
  have hl : linesF (joinF ((linesF s).map (notedF note))) = (linesF s).map (notedF note) := by
    refine lines_join (by simpa using linesF_ne s) fun l hl => ?_
    obtain ⟨x, hx, rfl⟩ := List.mem_map.1 hl
    have := linesF_no s x hx
    simp [notedF, this, hn]
  unfold codeF
  rw [hl, run_noted, if_neg (Nat.not_lt.2 ht), if_neg (Nat.not_lt.2 hs)]
/-- How long a text of lines is. -/
theorem lines_len : ∀ s : List Int, (linesF s).length ≤ s.length + 1 ∧ ((linesF s).map List.length).sum + (linesF s).length = s.length + 1
  | [] => by simp [linesF]
  | c :: r => by
    have ih := lines_len r
    by_cases h : c = 10
    · rw [linesF, if_pos h]; simp; omega
    · rw [linesF_cons h]
      have := linesF_ne r
      match hr : linesF r with
      | [] => exact absurd hr this
      | x :: y => rw [hr] at ih; simp at ih ⊢; omega
theorem noted_len (note : List Int) : ∀ ls : List (List Int), (joinF (ls.map (notedF note))).length ≤ (ls.map List.length).sum + ls.length * (note.length + 5)
  | [] => by simp [joinF]
  | [l] => by simp [joinF, notedF]; omega
  | l :: m :: r => by
    have ih := noted_len note (m :: r)
    rw [List.map_cons, List.map_cons] at *
    rw [joinF]
    · simp only [List.length_append, List.length_cons, List.map_cons, List.sum_cons, notedF, Nat.add_mul] at ih ⊢; omega
    · simp
/-- No label, no use of one. -/
def bare (l : List Int) : Prop := ∀ c ∈ l, c ≠ 58 ∧ c ≠ 64
theorem bare_words : ∀ (l now : List Int), bare now → bare l → ∀ x ∈ wordsG now l, bare x ∧ x ≠ []
  | [], now, hn, _, x, hx => by
    rw [wordsG] at hx
    split at hx
    · cases hx
    · simp at hx; subst hx; exact ⟨hn, by assumption⟩
  | c :: r, now, hn, hl, x, hx => by
    have hr : bare r := fun d hd => hl d (List.mem_cons_of_mem _ hd)
    rw [wordsG] at hx
    split at hx
    · split at hx
      · exact bare_words r [] (fun _ h => by cases h) hr x hx
      · rcases List.mem_cons.1 hx with rfl | hx
        · exact ⟨hn, by assumption⟩
        · exact bare_words r [] (fun _ h => by cases h) hr x hx
    · refine bare_words r (now ++ [c]) (fun d hd => ?_) hr x hx
      rcases List.mem_append.1 hd with hd | hd
      · exact hn d hd
      · simp at hd; subst hd; exact hl d List.mem_cons_self
theorem bare_note {l : List Int} (h : bare l) : bare (noteF l) := fun c hc => h c ((List.takeWhile_sublist _).subset hc)
theorem bare_lines : ∀ {s : List Int}, bare s → ∀ l ∈ linesF s, bare l
  | [], _, l, hl => by simp [linesF] at hl; subst hl; intro c hc; cases hc
  | c :: r, h, l, hl => by
    have hr : bare r := fun d hd => h d (List.mem_cons_of_mem _ hd)
    by_cases hc : c = 10
    · rw [linesF, if_pos hc] at hl
      rcases List.mem_cons.1 hl with rfl | hl
      · intro c hc; cases hc
      · exact bare_lines hr l hl
    · rw [linesF_cons hc] at hl
      have hne := linesF_ne r
      have ih := bare_lines hr
      match hlr : linesF r with
      | [] => exact absurd hlr hne
      | a :: y =>
        rw [hlr] at hl ih
        rcases List.mem_cons.1 hl with rfl | hl
        · intro d hd
          rcases List.mem_cons.1 hd with rfl | hd
          · exact h d List.mem_cons_self
          · exact ih a List.mem_cons_self d hd
        · exact ih l (List.mem_cons_of_mem _ hl)
/-- A state without labels. -/
def codeS (c : List Int) : MkF := ⟨c, fun _ => none, []⟩
theorem push_bare (k : Nat) (a : Int) (p c : List Int) : ∃ e c', pushF k a (codeS c) = (e, codeS c') ∧ pushF k a (codeS (p ++ c)) = (e, codeS (p ++ c')) := by
  unfold pushF
  dsimp only
  generalize (if k = 0 then max (sizeN a) 1 else k) = z
  by_cases h : z < sizeN a
  · rw [if_pos h, if_pos h]; exact ⟨_, _, rfl, rfl⟩
  · rw [if_neg h, if_neg h]; exact ⟨0, _, rfl, by simp [codeS]⟩
theorem line_bare (n m : Int) (ws : List (List Int)) (h : ∀ x ∈ ws, bare x ∧ x ≠ []) (p c : List Int) : ∃ e c', lineF n ws (codeS c) = (e, codeS c') ∧ lineF m ws (codeS (p ++ c)) = (e, codeS (p ++ c')) := by
  match ws with
  | [] => exact ⟨0, c, rfl, rfl⟩
  | [w] =>
    have hw := h w (by simp)
    have hl : w.getLast? ≠ some 58 := fun e => (hw.1 58 (List.mem_of_getLast? e)).1 rfl
    rw [lineF, lineF, if_neg hl, if_neg hl]
    unfold plainF
    split
    · exact ⟨_, _, rfl, rfl⟩
    · split
      · exact ⟨_, _, rfl, rfl⟩
      · exact ⟨0, _, rfl, by simp [codeS]⟩
  | [w, v] =>
    have hv := h v (by simp)
    have hh : ¬ (w = PUSH ∧ v.head? = some 64) := fun e => (hv.1 64 (List.mem_of_head? e.2)).2 rfl
    rw [lineF, lineF]
    unfold withF
    split
    · split
      · exact ⟨_, _, rfl, rfl⟩
      · exact ⟨_, _, rfl, rfl⟩
    · try simp only [hh, if_false]
      split
      · exact ⟨_, _, rfl, rfl⟩
      · split
        · split
          · exact ⟨_, _, rfl, rfl⟩
          · exact ⟨0, _, rfl, by simp [codeS]⟩
        · exact push_bare _ _ _ _
  | _ :: _ :: _ :: _ => exact ⟨2, c, rfl, rfl⟩
theorem run_bare : ∀ (ls : List (List Int)) (n m : Int) (p c : List Int), (∀ l ∈ ls, bare l) → ∃ e c' k k', runF n ls (codeS c) = (k, e, codeS c') ∧ runF m ls (codeS (p ++ c)) = (k', e, codeS (p ++ c'))
  | [], _, _, p, c, _ => ⟨0, c, 0, 0, rfl, rfl⟩
  | l :: r, n, m, p, c, h => by
    obtain ⟨e, c', h1, h2⟩ := line_bare (n + 1) (m + 1) (wordsF l) (bare_words _ [] (fun _ h => by cases h) (bare_note (h l (by simp)))) p c
    rw [runF, runF, h1, h2]
    by_cases he : e = 0
    · simp only [he, if_true]
      exact run_bare r _ _ p c' (fun x hx => h x (List.mem_cons_of_mem _ hx))
    · simp only [he, if_false]
      exact ⟨e, c, _, _, rfl, rfl⟩
theorem run_app : ∀ (a b : List (List Int)) (n : Int) (st : MkF), runF n (a ++ b) st = if (runF n a st).2.1 = 0 then runF (n + a.length) b (runF n a st).2.2 else runF n a st
  | [], b, n, st => by simp [runF]
  | l :: r, b, n, st => by
    rw [List.cons_append, runF]
    by_cases h : (lineF (n + 1) (wordsF l) st).1 = 0
    · rw [if_pos h, run_app r b, runF, if_pos h, List.length_cons, show n + 1 + (r.length : Int) = n + ((r.length + 1 : Nat) : Int) by omega]
    · rw [if_neg h, runF, if_neg h]
      rw [if_neg (by exact h)]
theorem code_joins {s t : List Int} (hs : bare s) (ht : bare t) (hl : s.length + t.length + 1 ≤ 65536) :
    ((codeF s).2.2 ≠ 0 ∨ (codeF t).2.2 ≠ 0 → (codeF (s ++ 10 :: t)).2.2 ≠ 0) ∧ ((codeF s).2.2 = 0 → (codeF t).2.2 = 0 → (codeF (s ++ 10 :: t)).2.2 = 0 ∧ (codeF (s ++ 10 :: t)).1 = (codeF s).1 ++ (codeF t).1) := by
  obtain ⟨e1, c1, k1, _, h1, _⟩ := run_bare (linesF s) 0 0 [] [] (bare_lines hs)
  obtain ⟨e2, c2, k2, k3, h2, h3⟩ := run_bare (linesF t) 0 (0 + (linesF s).length) c1 [] (bare_lines ht)
  rw [List.append_nil] at h3
  have e0 : codeS [] = mk0 := rfl
  rw [e0] at h1 h2
  have key : ∀ c : List Int, linkF (codeS c) = (c, 0, 0) := fun c => rfl
  have l1 : ¬ 65536 < s.length := by omega
  have l2 : ¬ 65536 < t.length := by omega
  have l3 : ¬ 65536 < (s ++ 10 :: t).length := by simp; omega
  unfold codeF
  rw [if_neg l1, if_neg l2, if_neg l3, linesF_app, run_app, h1, h2]
  by_cases z1 : e1 = 0
  · subst z1
    simp only [if_true, h3]
    by_cases z2 : e2 = 0
    · subst z2; simp [key]
    · simp [z2, key]
  · simp [z1]
end Go.Proofs.YtibhijjmmagdcaaGreatDoor

/- asm.opNames, walked: a map of all instructions' names. -/
namespace Go.Proofs.YtibhijjmmagdcaaGreatDoor
set_option linter.unusedVariables false
set_option linter.unusedSimpArgs false
open Go.RowKit Go.Proofs.YtibhijjmmagdcaaGreatDoorW.PrintWords Go.Proofs.YtibhijjmmagdcaaGreatDoorW.PrintLast
theorem name_fin : ∀ n : Fin 256, ((infoF (n.val : Int)).getD zeroI).1.length ≤ 20 ∧ ∀ c ∈ ((infoF (n.val : Int)).getD zeroI).1, 0 ≤ c ∧ c < 256 := by decide +kernel
theorem name_ok {c : Int} (h0 : 0 ≤ c) (h1 : c < 256) : ((infoF c).getD zeroI).1.length ≤ 20 ∧ ∀ x ∈ ((infoF c).getD zeroI).1, 0 ≤ x ∧ x < 256 := by
  have := name_fin ⟨c.toNat, by omega⟩
  simpa only [Int.toNat_of_nonneg h0] using this
/-- The names' map. -/
abbrev NM (W : World) (b n : Nat) (m : List Int → Option Int) : Prop := SM (Lit.int .u8) 0 5 W b n m
/-- The labels' map. -/
abbrev LM (W : World) (b n : Nat) (m : List Int → Option Int) : Prop := SM (Lit.int .i64) 0 3 W b n m
theorem u8_elem {c : Int} (h0 : 0 ≤ c) (h1 : c < 256) : plainElem (H := Unit) Tryz.prog 5 (.int .u8 c) = some (.lit (.int .u8 c), []) :=
  plainElem_int Tryz.underlying5 (by
    have e1 : IntKind.u8.min = 0 := by rfl
    have e2 : IntKind.u8.max = 255 := by rfl
    simp only [Lit.wf, e1, e2, Bool.and_eq_true, decide_eq_true_eq]; omega)
theorem i64_elem {c : Int} (h0 : -9223372036854775808 ≤ c) (h1 : c ≤ 9223372036854775807) : plainElem (H := Unit) Tryz.prog 3 (.int .i64 c) = some (.lit (.int .i64 c), []) :=
  plainElem_int Tryz.underlying3 (by
    have e1 : IntKind.i64.min = -9223372036854775808 := by rfl
    have e2 : IntKind.i64.max = 9223372036854775807 := by rfl
    simp only [Lit.wf, e1, e2, Bool.and_eq_true, decide_eq_true_eq]; omega)
theorem NM.ask {W : World} {b n : Nat} {m : List Int → Option Int} (h : NM W b n m) (s : ByteArray) (hs : s.size ≤ maxLen) :
    (Instr.lookup 51 (.map (some b)) (.string s) true).run Tryz.prog W = .ok (.tuple #[.int .u8 ((m (bytesOf s)).getD 0), .bool (m (bytesOf s)).isSome]) W :=
  SM.look_ok (enc := Value.int .u8) h Tryz.underlying51 (by kernel_rfl) (u8_elem (by decide) (by decide)) (elem_int Tryz.underlying5) s hs
theorem LM.ask {W : World} {b n : Nat} {m : List Int → Option Int} (h : LM W b n m) (s : ByteArray) (hs : s.size ≤ maxLen) :
    (Instr.lookup 50 (.map (some b)) (.string s) true).run Tryz.prog W = .ok (.tuple #[.int .i64 ((m (bytesOf s)).getD 0), .bool (m (bytesOf s)).isSome]) W :=
  SM.look_ok (enc := Value.int .i64) h Tryz.underlying50 (by kernel_rfl) (i64_elem (by decide) (by decide)) (elem_int Tryz.underlying3) s hs
theorem LM.get {W : World} {b n : Nat} {m : List Int → Option Int} (h : LM W b n m) (s : ByteArray) (hs : s.size ≤ maxLen) :
    (Instr.lookup 50 (.map (some b)) (.string s) false).run Tryz.prog W = .ok (.int .i64 ((m (bytesOf s)).getD 0)) W :=
  SM.look (enc := Value.int .i64) h Tryz.underlying50 (by kernel_rfl) (i64_elem (by decide) (by decide)) (elem_int Tryz.underlying3) s hs
theorem strOfNums_len {l : List Int} (h : l.length ≤ 1000000) : (strOfNums l).size ≤ maxLen := by rw [strOfNums_size]; unfold maxLen; omega
set_option maxRecDepth 100000 in
theorem opNames_any (w : World) :
    Calls Tryz.prog 15 #[] w fun e w' => ∃ b, e = .returned (.map (some b)) ∧ NM w' b 256 opF ∧ w.heap.size ≤ b ∧ Below w.heap.size w w' := by
  have hmm := @run_makeMap Tryz.prog
  go_enter Tryz.func15, Tryz.ntmps15
  go_wp2_with fail
  go_loopw [6] (fun i wr => ∃ k : Nat, k ≤ 256 ∧ i = .int .i64 k ∧ NM wr w.heap.size k (opG k) ∧ Below w.heap.size w wr) (fun i _ => 256 - (intOf i).toNat)
  case atStart => exact ⟨0, by omega, rfl, SM.made _ _ _ _, below_alloc (Below.refl _ _) _⟩
  case round =>
    obtain ⟨k, hk, rfl, hM, hB⟩ := hrel
    have HM := Lib.hid hM
    clear hM
    by_cases hlt : k < 256
    · have p0 : (0 : Int) ≤ (k : Int) := by omega
      have p1 : (k : Int) < 256 := by omega
      obtain ⟨hn1, hn2⟩ := name_ok p0 p1
      have HN := Lib.hid hn1
      have HR := Lib.hid hn2
      have HG : Hid (opG (k + 1) = match infoF (k : Int) with | some o => putF (opG k) o.1 (k : Int) | none => opG k) := rfl
      clear hn1 hn2
      cases ho : infoF (k : Int) with
      | none =>
        have HO := Lib.hid ho
        rw [ho] at HG
        clear ho
        go_wp2_with (first | (go_at_call 11; refine (info_any _ _ (by omega) (by omega)).mono ?_; rintro e1 w2 ⟨rfl, hb2⟩; rw [HO.out]; unfold opR) | (((with_reducible refine gate_op (.store 41 (.tmp 3) (.tmp 13)) rfl ?_); refine wpl_store_blk rfl 41 (.tmp 3) (.tmp 13) rfl _ rfl _ _ _ rfl (Blk.new _ _ _) 5 size51 rfl rfl (opA_one _) ?_; intro w3 hO3 hB3)))
        go_roundw
        case rel =>
          have e23 : Below w2.heap.size w2 w3 := Only.below (below_alloc (Below.refl _ _) _) hO3 (Nat.le_refl _)
          exact ⟨k + 1, by omega, by go_num, by rw [HG.out]; exact ((HM.out.below hb2).below e23).mono (by omega), bel_then (bel_then hB hb2) e23⟩
        case measure => simp [intOf]; omega
      | some o =>
        have HO := Lib.hid ho
        rw [ho] at HG HN HR
        clear ho
        go_wp2_with (first | (go_at_call 11; refine (info_any _ _ (by omega) (by omega)).mono ?_; rintro e1 w2 ⟨rfl, hb2⟩; rw [HO.out]; unfold opR) | (((with_reducible refine gate_op (.store 41 (.tmp 3) (.tmp 13)) rfl ?_); refine wpl_store_blk rfl 41 (.tmp 3) (.tmp 13) rfl _ rfl _ _ _ rfl (Blk.new _ _ _) 5 size51 rfl rfl (opA_one _) ?_; intro w3 hO3 hB3); have f0 : w3.cell? ⟨w2.heap.size, 0, none⟩ = some (.string (strOfNums o.1)) := hB3.cell 0; have e23 : Below w2.heap.size w2 w3 := Only.below (below_alloc (Below.refl _ _) _) hO3 (Nat.le_refl _)) | (at_mapUpdate; refine SM.wpl_put (enc := Value.int .u8) ((HM.out.below hb2).below e23) rfl (.tmp 16) (.tmp 18) (.tmp 20) rfl Tryz.underlying51 _ rfl rfl (k : Int) rfl (strOfNums_len (by have := HN.out; simp at this; omega)) (by unfold maxLen; omega) (u8_elem (by omega) (by omega)) ?_; intro w4 hM4 hg4))
        go_roundw
        case rel =>
          have eb : bytesOf (strOfNums o.1) = o.1 := bytesOf_strOfNums HR.out
          exact ⟨k + 1, by omega, by go_num, by rw [HG.out]; rw [eb] at hM4; exact hM4, (bel_then (bel_then hB hb2) e23).grown hg4 (bel_then (bel_then hB hb2) e23).size (fun q hq => by injection hq with hq; omega)⟩
        case measure => simp [intOf]; omega
    · obtain rfl : k = 256 := by omega
      go_wp2_with fail
      go_ret
      exact ⟨_, rfl, HM.out, Nat.le_refl _, hB⟩
end Go.Proofs.YtibhijjmmagdcaaGreatDoor

/- asm.named, walked. -/
namespace Go.Proofs.YtibhijjmmagdcaaGreatDoor
set_option linter.unusedVariables false
set_option linter.unusedSimpArgs false
open Go.RowKit Go.Proofs.YtibhijjmmagdcaaGreatDoorW.PrintWords Go.Proofs.YtibhijjmmagdcaaGreatDoorW.PrintLast
theorem reads_bytes (W : World) (s : ByteArray) (hs : s.size ≤ 1000000) : (Kd.int .u8).C (Lib.bytesWorld W 5 s) (some ⟨W.heap.size, 0, none⟩) s.size (bytesOf s) := by
  have := bytes_reads W 5 s (by omega)
  exact Kd.C_of_reads (d := (0 : Int)) this
theorem all_name {s : ByteArray} : (bytesOf s).all nameC = true ↔ ∀ k, k < s.size → nameC (bt s (k : Int)) = true := by
  rw [List.all_eq_true]
  constructor
  · intro h k hk
    refine h _ ?_
    rw [← bytesOf_get s k hk]
    exact List.getElem_mem _
  · intro h c hc
    obtain ⟨k, hk, rfl⟩ := List.mem_iff_getElem.1 hc
    rw [bytesOf_length] at hk
    rw [bytesOf_get s k hk]
    exact h k hk
theorem cell_bt {W : World} {ad : Addr} {s : ByteArray} (h : (Kd.int .u8).C W (some ad) s.size (bytesOf s)) {k : Nat} (hk : k < s.size) : W.cell? (ad.add k) = some (.int .u8 (bt s (k : Int))) := by
  have h' : (Kd.int .u8).C W (some ad) (bytesOf s).length (bytesOf s) := by rw [bytesOf_length]; exact h
  obtain ⟨ad', hA, hc⟩ := byte_at h' (k := k) (by rw [bytesOf_length]; exact hk)
  injection hA with hA
  subst hA
  rw [hc W (Below.refl _ _), bytesOf_get s k hk]
set_option maxRecDepth 100000 in
theorem named_short (s : ByteArray) (w : World) (h : s.size = 0 ∨ 32 < s.size ∨ (0 < s.size ∧ isDig (bt s 0) = true)) :
    Calls Tryz.prog 74 #[.string s] w fun e w' => e = .returned (.bool false) ∧ Below w.heap.size w w' := by
  have key : s.size = 0 ∨ (0 < s.size ∧ 32 < s.size) ∨ (0 < s.size ∧ ¬ 32 < s.size ∧ 48 ≤ bt s 0 ∧ bt s 0 ≤ 57) := by
    rcases h with h | h | ⟨h, hd⟩
    · exact .inl h
    · exact .inr (.inl ⟨by omega, h⟩)
    · by_cases h32 : 32 < s.size
      · exact .inr (.inl ⟨h, h32⟩)
      · simp only [isDig, decide_eq_true_eq] at hd
        exact .inr (.inr ⟨h, h32, hd.1, hd.2⟩)
  clear h
  rcases key with h | ⟨h0, h1⟩ | ⟨h0, h1, h2, h3⟩
  · have he : s.toList.isEmpty = true := by
      have : s = ⟨#[]⟩ := by
        cases s with | mk a => congr 1; exact Array.eq_empty_of_size_eq_zero h
      subst this; unfold ByteArray.toList ByteArray.toList.loop; rfl
    clear h
    go_enter Tryz.func74, Tryz.ntmps74
    go_wp2_with fail
    go_ret
    exact ⟨rfl, Below.refl _ _⟩
  · have n0 := toList_ne h0
    have p1 : (32 : Int) < (s.size : Int) := by omega
    clear h0 h1
    go_enter Tryz.func74, Tryz.ntmps74
    go_wp2_with fail
    go_ret
    exact ⟨rfl, Below.refl _ _⟩
  · have n0 := toList_ne h0
    have x0 := bt_zero s
    have p0 : (0 : Int) < (s.size : Int) := by omega
    have p1 : ¬ (32 : Int) < (s.size : Int) := by omega
    clear h0 h1
    go_enter Tryz.func74, Tryz.ntmps74
    go_wp2_with fail
    go_ret
    exact ⟨rfl, Below.refl _ _⟩
set_option maxRecDepth 100000 in
theorem named_long (s : ByteArray) (w : World) (h0 : 0 < s.size) (h1 : ¬ 32 < s.size) (h2 : isDig (bt s 0) = false) :
    Calls Tryz.prog 74 #[.string s] w fun e w' => e = .returned (.bool ((bytesOf s).all nameC)) ∧ Below w.heap.size w w' := by
  have n0 := toList_ne h0
  have x0 := bt_zero s
  have p0 : (0 : Int) < (s.size : Int) := by omega
  have p1 : ¬ (32 : Int) < (s.size : Int) := by omega
  have HS := Lib.hid (show s.size ≤ 32 by omega)
  have HALL := Lib.hid (@all_name s)
  have key : bt s 0 < 48 ∨ (¬ bt s 0 < 48 ∧ 57 < bt s 0) := by
    simp only [isDig, decide_eq_false_iff_not] at h2
    omega
  have cv := Lib.run_convert_string_bytes (P := Tryz.prog) w 9 22 5 s Tryz.underlying9 Tryz.underlying22 Tryz.underlying5
  clear h0 h1 h2
  rcases key with q | ⟨q, q'⟩
  all_goals
    go_enter Tryz.func74, Tryz.ntmps74
    go_wp2_with fail
    refine wp_any_world (fun W => (Kd.int .u8).C W (some ⟨w.heap.size, 0, none⟩) s.size (bytesOf s) ∧ Below w.heap.size w W) ⟨reads_bytes w s (by have := HS.out; omega), bytes_below (Below.refl _ _) (Nat.le_refl _) _ _⟩ ?_
    intro W hS
    clear cv q n0 x0 p0 p1
    try clear q'
    go_loop [25] (fun i => ∃ k : Nat, k ≤ s.size ∧ i = .int .i64 k ∧ ∀ j, j < k → nameC (bt s (j : Int)) = true) (fun i => s.size - (intOf i).toNat)
    case atStart => exact ⟨0, by omega, rfl, fun j hj => by omega⟩
    case round =>
      obtain ⟨k, hk, rfl, hall⟩ := hrel
      have HA := Lib.hid hall
      clear hall
      by_cases hlt : k < s.size
      · have p2 : (k : Int) < 1000000 := by have := HS.out; omega
        have p0 : (0 : Int) ≤ (k : Int) := by omega
        have p1 : (k : Int) < (s.size : Int) := by omega
        have cc := cell_bt hS.1 hlt
        rw [add_plain] at cc
        have hr := bt_range s (k : Int)
        obtain ⟨c, hc⟩ : ∃ c, bt s (k : Int) = c := ⟨_, rfl⟩
        have HC := Lib.hid hc
        rw [hc] at cc hr
        clear hc
        have key : ((c != 95) = false ∧ nameC c = true) ∨ ((c != 95) = true ∧ ¬ c < 97 ∧ ¬ 122 < c ∧ nameC c = true) ∨ ((c != 95) = true ∧ c < 97 ∧ ¬ c < 48 ∧ ¬ 57 < c ∧ nameC c = true) ∨
            ((c != 95) = true ∧ c < 97 ∧ c < 48 ∧ nameC c = false) ∨ ((c != 95) = true ∧ c < 97 ∧ ¬ c < 48 ∧ 57 < c ∧ nameC c = false) ∨ ((c != 95) = true ∧ ¬ c < 97 ∧ 122 < c ∧ ¬ c < 48 ∧ 57 < c ∧ nameC c = false) := by
          simp only [bne_eq_false_iff_eq, bne_iff_ne, nameC, isDig, Bool.or_eq_true, Bool.or_eq_false_iff, decide_eq_true_eq, decide_eq_false_iff_not]
          omega
        rcases key with ⟨a1, hn⟩ | ⟨a1, a2, a3, hn⟩ | ⟨a1, a2, a3, a4, hn⟩ | ⟨a1, a2, a3, hn⟩ | ⟨a1, a2, a3, a4, hn⟩ | ⟨a1, a2, a3, a4, a5, hn⟩
        all_goals
          have HN := Lib.hid hn
          clear hn
          go_wp2_with fail
          first
          | (go_round
             case rel => exact ⟨k + 1, by omega, by go_num, fun j hj => by
               rcases Nat.lt_succ_iff_lt_or_eq.1 hj with h | rfl
               · exact HA.out j h
               · rw [HC.out]; exact HN.out⟩
             case measure => simp [intOf]; omega)
          | (go_ret
             refine ⟨?_, hS.2⟩
             have : (bytesOf s).all nameC = false := by
               rw [← Bool.not_eq_true]
               intro h
               have := HALL.out.1 h k hlt
               rw [HC.out, HN.out] at this
               cases this
             rw [this]; rfl)
      · obtain rfl : k = s.size := by omega
        have HT := Lib.hid (HALL.out.2 HA.out)
        go_wp2_with fail
        go_ret
        exact ⟨by rw [HT.out]; rfl, hS.2⟩
theorem named_any (s : ByteArray) (w : World) :
    Calls Tryz.prog 74 #[.string s] w fun e w' => e = .returned (.bool (namedF (bytesOf s))) ∧ Below w.heap.size w w' := by
  by_cases h0 : s.size = 0
  · have : namedF (bytesOf s) = false := by
      have : bytesOf s = [] := List.eq_nil_of_length_eq_zero (by rw [bytesOf_length]; exact h0)
      rw [this]; rfl
    rw [this]
    exact named_short s w (.inl h0)
  have hne : bytesOf s ≠ [] := by rw [bytesOf_ne (by omega)]; simp
  have hd : (bytesOf s).headD 0 = bt s 0 := by rw [bytesOf_ne (by omega)]; rfl
  by_cases h1 : 32 < s.size
  · have : namedF (bytesOf s) = false := by
      have e : decide ((bytesOf s).length ≤ 32) = false := by rw [bytesOf_length]; simpa using h1
      unfold namedF; rw [e]; simp
    rw [this]
    exact named_short s w (.inr (.inl h1))
  cases h2 : isDig (bt s 0) with
  | true =>
    have : namedF (bytesOf s) = false := by unfold namedF; rw [hd, h2]; simp
    rw [this]
    exact named_short s w (.inr (.inr ⟨by omega, h2⟩))
  | false =>
    have : namedF (bytesOf s) = (bytesOf s).all nameC := by unfold namedF; rw [hd, h2]; simp [hne, bytesOf_length]; omega
    rw [this]
    exact named_long s w (by omega) h1 h2
end Go.Proofs.YtibhijjmmagdcaaGreatDoor

/- The library's texts functions as this seat's texts use them, on lists of bytes: split at line feeds, cut at a semicolon, fields at blanks and tabs; no program in sight. -/
namespace Go.Proofs.YtibhijjmmagdcaaGreatDoor
set_option linter.unusedVariables false
set_option linter.unusedSimpArgs false
open Go.RowKit Go.Proofs.YtibhijjmmagdcaaGreatDoorW.PrintWords
/-- Bytes as numbers. -/
def upL (l : List UInt8) : List Int := l.map fun b => (b.toNat : Int)
theorem bytesOf_up (s : ByteArray) : bytesOf s = upL s.data.toList := rfl
theorem bytesOf_mk (l : List UInt8) : bytesOf ⟨l.toArray⟩ = upL l := by simp [bytesOf, upL]
theorem mk_up (l : List UInt8) : (⟨l.toArray⟩ : ByteArray) = strOfNums (upL l) := by rw [← bytesOf_mk, strOfNums_bytesOf]
theorem up_byte (l : List UInt8) : ∀ c ∈ upL l, 0 ≤ c ∧ c < 256 := by
  intro c hc
  obtain ⟨b, _, rfl⟩ := List.mem_map.1 hc
  have := b.toNat_lt
  omega
theorem up_app (a b : List UInt8) : upL (a ++ b) = upL a ++ upL b := by simp [upL]
theorem up_mem {l : List UInt8} (b : UInt8) : (b.toNat : Int) ∈ upL l ↔ b ∈ l := by
  constructor
  · intro h
    obtain ⟨x, hx, he⟩ := List.mem_map.1 h
    have : x = b := UInt8.toNat_inj.1 (by omega)
    exact this ▸ hx
  · intro h
    exact List.mem_map.2 ⟨b, h, rfl⟩
theorem u8_of {b : UInt8} (n : UInt8) (h : (b.toNat : Int) = (n.toNat : Int)) : b = n := UInt8.toNat_inj.1 (by omega)
theorem index_one (c : UInt8) : ∀ l : List UInt8, (Lib.index l [c] = -1 ∧ c ∉ l) ∨ ∃ a b, l = a ++ c :: b ∧ c ∉ a ∧ Lib.index l [c] = a.length
  | [] => .inl ⟨rfl, by simp⟩
  | x :: l => by
    have e : Lib.index (x :: l) [c] = if [c].isPrefixOf (x :: l) then 0 else if Lib.index l [c] == -1 then -1 else Lib.index l [c] + 1 := rfl
    rw [e]
    by_cases hx : c = x
    · subst hx
      have hp : ([c].isPrefixOf (c :: l)) = true := by simp
      rw [if_pos hp]
      exact .inr ⟨[], l, rfl, by simp, rfl⟩
    · have hp : ([c].isPrefixOf (x :: l)) = false := by
        show (c == x && ([] : List UInt8).isPrefixOf l) = false
        rw [beq_false_of_ne hx]; rfl
      rw [hp]
      rcases index_one c l with ⟨h1, h2⟩ | ⟨a, b, h1, h2, h3⟩
      · rw [h1]
        exact .inl ⟨rfl, by simp [hx, h2]⟩
      · refine .inr ⟨x :: a, b, by rw [h1]; rfl, by simp [hx, h2], ?_⟩
        have : ¬ ((a.length : Int) == -1) = true := by
          rw [beq_iff_eq]; omega
        rw [h3, if_neg (by decide), if_neg this, List.length_cons]
        omega
theorem extract_list (s : ByteArray) (a b : List UInt8) (c : UInt8) (h : s.data.toList = a ++ c :: b) : bytesOf (s.extract 0 (a.length + 0)) = upL a ∧ bytesOf (s.extract (a.length + 1) s.size) = upL b ∧ s.size = a.length + 1 + b.length := by
  obtain ⟨⟨l⟩⟩ := s
  simp only at h
  subst h
  refine ⟨?_, ?_, ?_⟩
  · rw [ByteArray.extract_mk]; simp [bytesOf, upL]
  · rw [ByteArray.extract_mk]
    have : (ByteArray.size ⟨(a ++ c :: b).toArray⟩) = (a ++ c :: b).length := rfl
    rw [this]
    simp only [bytesOf, upL, List.extract_toArray, List.extract_eq_take_drop, List.drop_append, List.drop_eq_nil_of_le (Nat.le_succ a.length), List.nil_append, show a.length + 1 - a.length = 1 by omega, List.drop_succ_cons, List.drop_zero]
    rw [List.take_of_length_le (by simp; omega)]
  · show (a ++ c :: b).length = _
    simp; omega
theorem split_lines : ∀ (n : Nat) (s : ByteArray), s.size ≤ n → (Lib.splitB ⟨#[10]⟩ 0 (Lib.countB s ⟨#[10]⟩) s).map bytesOf = linesF (bytesOf s) := by
  intro n
  induction n with
  | zero =>
    intro s hs
    have : s = ⟨#[]⟩ := by
      cases s with | mk a => congr 1; exact Array.eq_empty_of_size_eq_zero (Nat.le_zero.1 hs)
    subst this
    rfl
  | succ n ih =>
    intro s hs
    rcases index_one 10 s.data.toList with ⟨h1, h2⟩ | ⟨a, b, h1, h2, h3⟩
    · have hi : Lib.indexB s ⟨#[10]⟩ = -1 := h1
      rw [Lib.splitB_miss _ _ _ _ hi]
      have : (10 : Int) ∉ bytesOf s := fun h => h2 ((up_mem 10).1 h)
      rw [linesF_one this]
      rfl
    · have hi : Lib.indexB s ⟨#[10]⟩ = (a.length : Nat) := h3
      obtain ⟨e1, e2, e3⟩ := extract_list s a b 10 h1
      rw [Lib.countB_hit s ⟨#[10]⟩ a.length (by decide) hi, Nat.add_comm 1, Lib.splitB_hit _ _ _ _ _ hi, List.map_cons]
      have hsz : (ByteArray.size ⟨#[10]⟩) = 1 := rfl
      rw [hsz, e1, ih _ (by rw [ByteArray.size_extract]; omega), e2]
      have hb : bytesOf s = upL a ++ 10 :: upL b := by rw [bytesOf_up, h1]; simp [upL]
      rw [hb, linesF_app, linesF_one (fun h => h2 ((up_mem 10).1 h))]
      rfl
theorem split_len (s : ByteArray) : (Lib.splitB ⟨#[10]⟩ 0 (Lib.countB s ⟨#[10]⟩) s).length = Lib.countB s ⟨#[10]⟩ + 1 := Lib.splitB_all _ (by decide) _ _ _ rfl
theorem cut_note (s : ByteArray) : (⟨(Lib.cut s.data.toList [59]).1.toArray⟩ : ByteArray) = strOfNums (noteF (bytesOf s)) := by
  rw [mk_up]
  congr 1
  unfold Lib.cut
  rcases index_one 59 s.data.toList with ⟨h1, h2⟩ | ⟨a, b, h1, h2, h3⟩
  · rw [h1, if_neg (by decide)]
    have : (59 : Int) ∉ bytesOf s := fun h => h2 ((up_mem 59).1 h)
    rw [noteF_no this]
    rfl
  · rw [h3, if_pos (by omega)]
    have h4 : (59 : Int) ∉ upL a := fun h => h2 ((up_mem 59).1 h)
    have hb : bytesOf s = upL a ++ 59 :: upL b := by rw [bytesOf_up, h1]; simp [upL]
    rw [hb, noteF_app, if_neg h4, show noteF (59 :: upL b) = [] by simp [noteF], List.append_nil, h1]
    simp
/-- What is decoded at a byte beyond ASCII: a rune beyond it, out of such bytes alone. -/
theorem decode_high (s : ByteArray) (i : Nat) (hi : i < s.size) (h : 128 ≤ (s.get! i).toNat) :
    128 ≤ (Utf8.decode s i).1 ∧ 1 ≤ (Utf8.decode s i).2 ∧ i + (Utf8.decode s i).2 ≤ s.size ∧ ∀ j, j < (Utf8.decode s i).2 → 128 ≤ (s.get! (i + j)).toNat := by
  have hc := Lib.decodeN_conts (s.size - i) (s.get! i).toNat (s.get! (i + 1)).toNat (s.get! (i + 2)).toNat (s.get! (i + 3)).toNat
  have h1 : 128 ≤ (Lib.decodeN (s.size - i) (s.get! i).toNat (s.get! (i + 1)).toNat (s.get! (i + 2)).toNat (s.get! (i + 3)).toNat).1 := by
    unfold Lib.decodeN
    rw [if_neg (by omega)]
    repeat' split
    all_goals (simp only; omega)
  have h2 := Lib.decodeN_ge1 (s.size - i) (s.get! i).toNat (s.get! (i + 1)).toNat (s.get! (i + 2)).toNat (s.get! (i + 3)).toNat
  rw [← Lib.decode_at] at hc h1 h2
  obtain ⟨c1, c2, c3, c4⟩ := hc
  refine ⟨h1, h2, by omega, fun j hj => ?_⟩
  rcases Nat.lt_or_ge 3 j with h' | h'
  · omega
  · obtain rfl | rfl | rfl | rfl : j = 0 ∨ j = 1 ∨ j = 2 ∨ j = 3 := by omega
    · exact h
    · have := (c1 (by omega)).1; omega
    · have := (c2 (by omega)).1; omega
    · have := (c3 (by omega)).1; omega
theorem decode_low (s : ByteArray) (i : Nat) (h : (s.get! i).toNat < 128) : Utf8.decode s i = ((s.get! i).toNat, 1) := by
  rw [Lib.decode_at, Lib.decodeN_ascii _ _ _ _ _ h]
/-- Blanks and tabs part words. -/
def blankR (r : Nat) : Bool := decide (r = 32 ∨ r = 9)
theorem get_bt (s : ByteArray) (i : Nat) (h : i < s.size) : ((s.get! i).toNat : Int) = bt s (i : Int) := by
  rw [bt, dif_pos (by simpa using h)]
  congr 1
  simp [ByteArray.get!, ByteArray.get, getElem!_pos, h]
  congr 1
/-- Over w bytes that are no blanks. -/
theorem words_over (s : ByteArray) : ∀ (w pos : Nat) (now : List Int), pos + w ≤ s.size → (∀ j, j < w → 128 ≤ (s.get! (pos + j)).toNat) → wordsG now ((bytesOf s).drop pos) = wordsG (now ++ ((bytesOf s).drop pos).take w) ((bytesOf s).drop (pos + w))
  | 0, pos, now, _, _ => by simp
  | w + 1, pos, now, h, hj => by
    have h0 := hj 0 (by omega)
    have hb := get_bt s pos (by omega)
    rw [bytesOf_drop s pos (by omega), wordsG, if_neg (by rw [Nat.add_zero] at h0; omega), words_over s w (pos + 1) _ (by omega) (fun j h' => by have := hj (j + 1) (by omega); rwa [show pos + 1 + j = pos + (j + 1) by omega]),
      List.take_succ_cons, show pos + 1 + w = pos + (w + 1) by omega, List.append_assoc]
    rfl
theorem piece (s : ByteArray) (a b : Nat) (h : a ≤ b) (hb : b ≤ s.size) : bytesOf (s.extract a b) = ((bytesOf s).drop a).take (b - a) := by
  obtain ⟨⟨l⟩⟩ := s
  rw [ByteArray.extract_mk]
  simp [bytesOf, List.map_take, List.map_drop]
theorem take_more {α : Type} (l : List α) (a p w : Nat) (h : a ≤ p) : (l.drop a).take (p - a) ++ (l.drop p).take w = (l.drop a).take (p + w - a) := by
  have : l.drop p = (l.drop a).drop (p - a) := by rw [List.drop_drop, show a + (p - a) = p by omega]
  rw [this, show p + w - a = (p - a) + w by omega, List.take_add]
theorem fields_from (s : ByteArray) : ∀ (f pos : Nat) (st : Option Nat) (acc : List (Nat × Nat)), s.size ≤ pos + f → pos ≤ s.size → (∀ a, st = some a → a < pos) → (∀ x ∈ acc, x.1 ≤ x.2 ∧ x.2 ≤ s.size) →
    (Lib.closeSpans s (Lib.spansFromP blankR s f pos st acc)).map (fun x => bytesOf (s.extract x.1 x.2)) = acc.map (fun x => bytesOf (s.extract x.1 x.2)) ++ wordsG (match st with | some a => ((bytesOf s).drop a).take (pos - a) | none => []) ((bytesOf s).drop pos) := by
  have ne : ∀ a pos : Nat, a < pos → pos ≤ s.size → ((bytesOf s).drop a).take (pos - a) ≠ [] := fun a pos h1 h2 e => by
    have := congrArg List.length e
    rw [List.length_take, List.length_drop, bytesOf_length, List.length_nil] at this
    omega
  have done : ∀ (pos : Nat) (st : Option Nat) (acc : List (Nat × Nat)), pos = s.size → (∀ a, st = some a → a < pos) → (Lib.closeSpans s (acc, st)).map (fun x => bytesOf (s.extract x.1 x.2)) = acc.map (fun x => bytesOf (s.extract x.1 x.2)) ++ wordsG (match st with | some a => ((bytesOf s).drop a).take (pos - a) | none => []) ((bytesOf s).drop pos) := by
    intro pos st acc hp hst
    subst hp
    rw [show (bytesOf s).drop s.size = [] from bytesOf_drop_end s]
    cases st with
    | none => simp [Lib.closeSpans, wordsG]
    | some a =>
      have := hst a rfl
      simp only [Lib.closeSpans, wordsG, if_neg (ne a _ this (Nat.le_refl _)), List.map_append, List.map_cons, List.map_nil, piece s a s.size (by omega) (Nat.le_refl _)]
  intro f
  induction f with
  | zero => intro pos st acc h1 h2 h3 h4; exact done pos st acc (by omega) h3
  | succ f ih =>
    intro pos st acc h1 h2 h3 h4
    by_cases hlt : pos < s.size
    · have e : Lib.spansFromP blankR s (f + 1) pos st acc = (if blankR (Utf8.decode s pos).1 then (match st with | some a => Lib.spansFromP blankR s f (pos + (Utf8.decode s pos).2) none (acc ++ [(a, pos)]) | none => Lib.spansFromP blankR s f (pos + (Utf8.decode s pos).2) none acc) else (match st with | some a => Lib.spansFromP blankR s f (pos + (Utf8.decode s pos).2) (some a) acc | none => Lib.spansFromP blankR s f (pos + (Utf8.decode s pos).2) (some pos) acc)) := by
        cases st <;> simp [Lib.spansFromP, hlt]
      rw [e]
      have hb := get_bt s pos hlt
      by_cases h128 : (s.get! pos).toNat < 128
      · rw [decode_low s pos h128]
        simp only
        by_cases hbl : (s.get! pos).toNat = 32 ∨ (s.get! pos).toNat = 9
        · rw [if_pos (by simpa [blankR] using hbl), bytesOf_drop s pos hlt, wordsG, if_pos (by omega)]
          cases st with
          | none =>
            simp only
            rw [ih (pos + 1) none acc (by omega) (by omega) (fun a h => by cases h) h4, if_pos True.intro]
          | some a =>
            have ha := h3 a rfl
            simp only
            rw [ih (pos + 1) none (acc ++ [(a, pos)]) (by omega) (by omega) (fun a h => by cases h) (fun x hx => by rcases List.mem_append.1 hx with hx | hx; exact h4 x hx; simp at hx; subst hx; exact ⟨by simp only; omega, by simp only; omega⟩), if_neg (ne a pos ha (by omega))]
            simp [piece s a pos (by omega) (by omega)]
        · rw [if_neg (by simpa [blankR] using hbl), bytesOf_drop s pos hlt, wordsG, if_neg (by omega)]
          cases st with
          | none =>
            simp only
            rw [ih (pos + 1) (some pos) acc (by omega) (by omega) (fun a h => by injection h; omega) h4]
            simp only [List.nil_append]
            rw [show pos + 1 - pos = 1 by omega, bytesOf_drop s pos hlt]
            rfl
          | some a =>
            have ha := h3 a rfl
            simp only
            rw [ih (pos + 1) (some a) acc (by omega) (by omega) (fun x h => by injection h; omega) h4]
            simp only
            rw [← take_more (bytesOf s) a pos 1 (by omega), bytesOf_drop s pos hlt]
            rfl
      · obtain ⟨d1, d2, d3, d4⟩ := decode_high s pos hlt (by omega)
        rw [if_neg (by simp [blankR]; omega)]
        have ov := fun now => words_over s (Utf8.decode s pos).2 pos now d3 d4
        cases st with
        | none =>
          simp only
          rw [ih _ (some pos) acc (by omega) d3 (fun a h => by injection h; omega) h4, ov]
          simp only [List.nil_append]
          rw [show pos + (Utf8.decode s pos).2 - pos = (Utf8.decode s pos).2 by omega]
        | some a =>
          have ha := h3 a rfl
          simp only
          rw [ih _ (some a) acc (by omega) d3 (fun x h => by injection h; omega) h4, ov]
          simp only
          rw [take_more (bytesOf s) a pos _ (by omega)]
    · rw [Lib.spansFromP_end _ _ _ _ _ _ hlt]
      exact done pos st acc (by omega) h3
theorem fields_words (s : ByteArray) : (Lib.goFieldsP blankR s).map bytesOf = wordsG [] (bytesOf s) := by
  have := fields_from s s.size 0 none [] (by omega) (by omega) (fun a h => by cases h) (fun x hx => by cases hx)
  rw [Lib.goFieldsP, List.map_map]
  exact this
/-- The words, as the fields are laid. -/
theorem fields_strs (s : ByteArray) : Lib.goFieldsP blankR s = (wordsG [] (bytesOf s)).map strOfNums := by
  rw [← fields_words, List.map_map]
  have : (strOfNums ∘ bytesOf) = id := funext fun s => strOfNums_bytesOf s
  rw [this, List.map_id]
theorem split_strs (s : ByteArray) : Lib.splitB ⟨#[10]⟩ 0 (Lib.countB s ⟨#[10]⟩) s = (linesF (bytesOf s)).map strOfNums := by
  rw [← split_lines s.size s (Nat.le_refl _), List.map_map]
  have : (strOfNums ∘ bytesOf) = id := funext fun s => strOfNums_bytesOf s
  rw [this, List.map_id]
theorem suffix_colon (s : ByteArray) : Lib.hasSuffix s.data.toList [58] = decide ((bytesOf s).getLast? = some 58) := by
  rw [Bool.eq_iff_iff, decide_eq_true_eq, bytesOf_up, upL, List.getLast?_map]
  rw [Lib.hasSuffix, List.isSuffixOf_iff_suffix]
  constructor
  · rintro ⟨t, ht⟩
    rw [← ht]
    simp
  · intro h
    obtain ⟨b, hb, he⟩ := Option.map_eq_some_iff.1 h
    have : b = 58 := u8_of 58 he
    subst this
    obtain ⟨ys, hy⟩ := List.getLast?_eq_some_iff.1 hb
    exact ⟨ys, hy.symm⟩
theorem trim_colon (s : ByteArray) (h : (bytesOf s).getLast? = some 58) : (⟨(Lib.trimSuffix s.data.toList [58]).toArray⟩ : ByteArray) = strOfNums (bytesOf s).dropLast := by
  rw [mk_up]
  congr 1
  rw [Lib.trimSuffix, suffix_colon, h]
  simp [bytesOf, upL, List.dropLast_eq_take]
theorem prefix_at (s : ByteArray) : Lib.hasPrefix s.data.toList [64] = decide ((bytesOf s).head? = some 64) := by
  rw [Bool.eq_iff_iff, decide_eq_true_eq, bytesOf_up, upL, Lib.hasPrefix]
  cases s.data.toList with
  | nil => simp
  | cons b t =>
    simp
    constructor
    · intro h; rw [← h]; rfl
    · intro h; exact (u8_of 64 h).symm
theorem cut_at (s : ByteArray) (h : (bytesOf s).head? = some 64) : (⟨(Lib.trimPrefix s.data.toList [64]).toArray⟩ : ByteArray) = strOfNums (bytesOf s).tail := by
  rw [mk_up]
  congr 1
  rw [Lib.trimPrefix, prefix_at, h]
  simp [bytesOf, upL]
def DIGITS : List UInt8 := [48, 49, 50, 51, 52, 53, 54, 55, 56, 57]
theorem dig_fin : ∀ n : Fin 256, DIGITS.contains (UInt8.ofNat n.val) = isDig (n.val : Int) := by decide +kernel
theorem dig_has (b : UInt8) : DIGITS.contains b = isDig (b.toNat : Int) := by
  have := dig_fin ⟨b.toNat, b.toNat_lt⟩
  simpa using this
theorem dropWhile_nil {α : Type} {p : α → Bool} : ∀ {l : List α}, l.dropWhile p = [] ↔ l.all p = true
  | [] => by simp
  | a :: l => by
    rw [List.dropWhile_cons, List.all_cons]
    cases h : p a <;> simp [dropWhile_nil]
theorem all_dropWhile {α : Type} {p : α → Bool} (l : List α) (h : (l.dropWhile p).all p = true) : l.all p = true := by
  induction l with
  | nil => rfl
  | cons a l ih =>
    rw [List.dropWhile_cons] at h
    cases hp : p a with
    | true => rw [hp] at h; simp at h ⊢; exact ⟨hp, by simpa using ih (by simpa using h)⟩
    | false => rw [hp] at h; simpa using h
theorem trim_digits (s : ByteArray) : (Lib.trimS s.data.toList DIGITS = []) ↔ (bytesOf s).all isDig = true := by
  have hp : (fun b => DIGITS.contains b) = fun b : UInt8 => isDig (b.toNat : Int) := funext dig_has
  have hall : (bytesOf s).all isDig = s.data.toList.all fun b => DIGITS.contains b := by rw [hp, bytesOf_up, upL, List.all_map]; rfl
  rw [hall, Lib.trimS, Lib.trimLeftS, dropWhile_nil, Lib.trimRightS, List.all_reverse]
  constructor
  · intro h
    have := all_dropWhile _ h
    rwa [List.all_reverse] at this
  · intro h
    have : s.data.toList.reverse.all (fun b => DIGITS.contains b) = true := by rw [List.all_reverse]; exact h
    rw [dropWhile_nil.2 this]
    rfl
end Go.Proofs.YtibhijjmmagdcaaGreatDoor

/- The library's contracts as asm's texts use them. -/
namespace Go.Proofs.YtibhijjmmagdcaaGreatDoor
set_option linter.unusedVariables false
set_option linter.unusedSimpArgs false
open Go.RowKit Go.Proofs.YtibhijjmmagdcaaGreatDoorW.PrintWords Go.Proofs.YtibhijjmmagdcaaGreatDoorW.PrintLast
/-- The library's variable MaxLen. -/
def MaxV (w : World) : Prop := ∃ m, w.cell? ⟨0, 0, none⟩ = some (.int .i64 m)
theorem MaxV.below {w W : World} {B : Nat} (h : MaxV w) (hB : 0 < B) (hb : Below B w W) : MaxV W := by
  obtain ⟨m, hm⟩ := h
  exact ⟨m, (hb.cell hB).trans hm⟩
theorem MaxV.lt {w : World} (h : MaxV w) : 0 < w.heap.size := by
  obtain ⟨m, hm⟩ := h
  exact World.block_lt_of_cell? w _ hm
theorem cutnote_any (s : ByteArray) (w : World) (hs : s.size ≤ 1000000) (hm : MaxV w) :
    Calls Tryz.prog 38 #[.string s, .string ⟨#[59]⟩] w fun e w' => ∃ t b, e = .returned (.tuple #[.string (strOfNums (noteF (bytesOf s))), .string t, .bool b]) ∧ Below w.heap.size w w' := by
  obtain ⟨m, hm⟩ := hm
  refine (Tryz.strings_Cut s ⟨#[59]⟩ m w (by omega) hm).mono ?_
  rintro e w' ⟨rfl, n, rfl⟩
  have := cut_note s
  exact ⟨_, _, by rw [← this], bel_drewN (Below.refl _ _) n⟩
theorem suffix_any (s : ByteArray) (w : World) (hs : s.size ≤ 1000000) :
    Calls Tryz.prog 41 #[.string s, .string ⟨#[58]⟩] w fun e w' => e = .returned (.bool (decide ((bytesOf s).getLast? = some 58))) ∧ w = w' := by
  refine (Tryz.strings_HasSuffix s ⟨#[58]⟩ w (by omega)).mono ?_
  rintro e w' ⟨rfl, rfl⟩
  exact ⟨by rw [← suffix_colon], rfl⟩
theorem trimsuf_any (s : ByteArray) (w : World) (hs : s.size ≤ 1000000) (h : (bytesOf s).getLast? = some 58) :
    Calls Tryz.prog 43 #[.string s, .string ⟨#[58]⟩] w fun e w' => e = .returned (.string (strOfNums (bytesOf s).dropLast)) ∧ w = w' := by
  refine (Tryz.strings_TrimSuffix s ⟨#[58]⟩ w (by omega)).mono ?_
  rintro e w' ⟨rfl, rfl⟩
  exact ⟨by rw [← trim_colon s h], rfl⟩
theorem cutat_any (s : ByteArray) (w : World) :
    Calls Tryz.prog 21 #[.string s, .string ⟨#[64]⟩] w fun e w' => ∃ t, e = .returned (.tuple #[.string t, .bool (decide ((bytesOf s).head? = some 64))]) ∧ ((bytesOf s).head? = some 64 → t = strOfNums (bytesOf s).tail) ∧ w = w' := by
  refine (Tryz.strings_CutPrefix s ⟨#[64]⟩ w).mono ?_
  rintro e w' ⟨rfl, rfl⟩
  exact ⟨_, by rw [← prefix_at], fun h => cut_at s h, rfl⟩
theorem trimdig_any (s : ByteArray) (w : World) (hs : s.size ≤ 1000000) :
    Calls Tryz.prog 23 #[.string s, .string ⟨#[48, 49, 50, 51, 52, 53, 54, 55, 56, 57]⟩] w fun e w' => ∃ t, e = .returned (.string t) ∧ (t.size = 0 ↔ (bytesOf s).all isDig = true) ∧ Below w.heap.size w w' := by
  refine (Any.strings_Trim_ascii Tryz.lays160 (fun w => by kernel_rfl) (by kernel_rfl) s ⟨#[48, 49, 50, 51, 52, 53, 54, 55, 56, 57]⟩ w (by omega) (by decide) ?_).mono ?_
  · intro j b hj
    have : b ∈ DIGITS := List.mem_of_getElem? hj
    simp [DIGITS] at this
    rcases this with rfl | rfl | rfl | rfl | rfl | rfl | rfl | rfl | rfl | rfl <;> decide
  · rintro e w' ⟨rfl, hb⟩
    refine ⟨_, rfl, ?_, hb⟩
    rw [← trim_digits]
    show (List.toArray (Lib.trimS s.data.toList DIGITS)).size = 0 ↔ _
    simp
theorem blank_gives (W : World) (x : Nat) (hx : x ≤ 1114111) : FnGives Tryz.prog 40 #[] #[encR x] (.bool (blankR x)) W := by
  have h0 : (0 : Int) ≤ (x : Int) := by omega
  have h1 : (x : Int) ≤ 1114111 := by omega
  have key : Calls Tryz.prog 40 #[.int .i32 (x : Int)] W fun e w' => e = .returned (.bool (blankR x)) ∧ W = w' := by
    by_cases a : x = 32
    · subst a
      go_enter Tryz.func40, Tryz.ntmps40
      go_wp2_with fail
      go_ret
      exact ⟨rfl, rfl⟩
    · by_cases b : x = 9
      · subst b
        go_enter Tryz.func40, Tryz.ntmps40
        go_wp2_with fail
        go_ret
        exact ⟨rfl, rfl⟩
      · have e1 : ((x : Int) == 32) = false := by simp; omega
        have e2 : ((x : Int) == 9) = false := by simp; omega
        have e3 : blankR x = false := by simp [blankR, a, b]
        have E3 := Lib.hid e3
        clear a b e3
        go_enter Tryz.func40, Tryz.ntmps40
        go_wp2_with fail
        go_ret
        exact ⟨by rw [E3.out]; rfl, rfl⟩
  exact key.mono fun e w' ⟨he, hw⟩ => ⟨he, 0, hw.symm⟩
theorem own_cells {w : World} {base A n c : Nat} {e : TypeId} {xs : List Value} (h : w.ownsRow base e 1 (.slice (some ⟨A, 0, none⟩) n c) n xs) (k : Nat) (hk : k < xs.length) : w.cell? ⟨A, k, none⟩ = some xs[k] := by
  rcases h.2 with ⟨he, _⟩ | ⟨g, cap, cur, hv, hb, hh, h1, h2, h3, h4⟩
  · cases he
  · injection hv with hv _ _
    injection hv with hv
    injection hv with hv
    subst hv
    have hl : n = xs.length := by have := h.1; simpa using this.symm
    rw [blk_cell hh, ← Array.getElem?_toList, ← List.getElem?_take_of_lt (j := n * 1) (show k < n * 1 by omega), h4, List.getElem?_eq_getElem hk]
theorem fields_any (s : ByteArray) (w : World) (hs : s.size ≤ 1000000) :
    Calls Tryz.prog 39 #[.string s, .func (.func 40) #[] #[]] w fun e w' => ∃ A, e = .returned (.slice (some ⟨A, 0, none⟩) (wordsG [] (bytesOf s)).length (wordsG [] (bytesOf s)).length) ∧
      (∀ k (h : k < (wordsG [] (bytesOf s)).length), w'.cell? ⟨A, k, none⟩ = some (.string (strOfNums (wordsG [] (bytesOf s))[k]))) ∧ Below w.heap.size w w' := by
  refine (Tryz.strings_FieldsFunc_runes 40 #[] (fun args w => by kernel_rfl) blankR s w (by omega) (fun W x hx _ => blank_gives W x hx)).mono ?_
  rintro e w' ⟨A, rfl, _, ho, hb⟩
  rw [fields_strs, List.length_map] at ho ⊢
  refine ⟨A, rfl, fun k hk => ?_, hb⟩
  have := own_cells ho k (by simpa using hk)
  rw [this]
  simp
theorem split_any (s : ByteArray) (w : World) (hs : s.size ≤ 1000000) (hm : MaxV w) :
    Calls Tryz.prog 16 #[.string s, .string ⟨#[10]⟩] w fun e w' => e = .returned (.slice (some ⟨w.heap.size, 0, none⟩) (linesF (bytesOf s)).length (linesF (bytesOf s)).length) ∧
      w' = w.alloc (.cells ((linesF (bytesOf s)).map fun l => Value.string (strOfNums l)).toArray 9) := by
  obtain ⟨m, hm⟩ := hm
  refine (Tryz.strings_Split s ⟨#[10]⟩ m w (by omega) hm (by decide)).mono ?_
  rintro e w' ⟨rfl, rfl⟩
  have h := split_strs s
  have hl := split_len s
  rw [h, List.length_map] at hl
  rw [h, ← hl, List.map_map]
  exact ⟨rfl, rfl⟩
end Go.Proofs.YtibhijjmmagdcaaGreatDoor
