/- Plain: characters, words, names, tokens. No program. -/
import Derived.Test.YtbjanlmnmeegnaaDoorBase
import Derived.Lib.ItoaNum
import Derived.RangeFuncOwn
set_option linter.unusedVariables false
set_option linter.unusedSimpArgs false
namespace Go.Proofs.YtbjanlmnmeegnaaDoor

/-- The kind of a character. -/
def chK (c : Nat) : Int :=
  if (97 ≤ c ∧ c ≤ 122) ∨ (65 ≤ c ∧ c ≤ 90) then 1
  else if c = 94 ∨ c = 126 ∨ c = 37 then 2
  else if 48 ≤ c ∧ c ≤ 57 then 3
  else if c = 39 then 4
  else if c = 46 ∨ c = 44 ∨ c = 59 ∨ c = 58 ∨ c = 33 ∨ c = 63 ∨ c = 40 ∨ c = 41 ∨ c = 45 then 5
  else if c = 32 then 6 else 0
theorem chK_le (c : Nat) : 0 ≤ chK c ∧ chK c ≤ 6 := by
  unfold chK; repeat' split
  all_goals omega
/-- The kind of a byte. -/
def byK (c : UInt8) : Int := chK c.toNat
theorem byK_le (c : UInt8) : 0 ≤ byK c ∧ byK c ≤ 6 := chK_le _
/-- Whether every mark stands right; the first argument: may a mark stand here? -/
def wordGo : Bool → List UInt8 → Bool
  | _, [] => true
  | m, c :: r => if byK c = 2 then m && wordGo m r else if byK c = 0 then false else wordGo (decide (byK c = 1)) r
/-- Check of a string. -/
def chkS (s : ByteArray) : Int := if 65536 < s.size then 4 else if wordGo false s.data.toList then 0 else 11
/-- The first character's kind is that of a letter or digit. -/
def headOk : List UInt8 → Bool
  | [] => false
  | c :: _ => decide (byK c = 1) || decide (byK c = 3)
def isWordP (s : ByteArray) : Bool :=
  decide (1 ≤ s.size ∧ s.size ≤ 64) && (wordGo false s.data.toList && (headOk s.data.toList && s.data.toList.all fun c => decide (byK c ≤ 4)))
def letB (c : UInt8) : Bool := decide (byK c = 1) || decide (byK c = 3)
def isNameP (s : ByteArray) : Bool := decide (1 ≤ s.size ∧ s.size ≤ 16) && s.data.toList.all letB
def namedP (s : ByteArray) : Bool := decide (s.size = 0) || isNameP s
def normP (s : ByteArray) : Bool := decide (1 ≤ s.size ∧ s.size ≤ 64) && s.data.toList.all fun c => decide (1 ≤ byK c ∧ byK c ≤ 4)
/-- A siglum: a name, or one with a star. -/
def sigP (s : ByteArray) : Bool :=
  if s.data.toList.getLast? = some 42 then decide (s.size ≤ 16) && isNameP (s.extract 0 (s.size - 1)) else isNameP s
/-- The text of a gap of n characters. -/
def gapT (n : Nat) : ByteArray := ⟨(91 :: (Lib.decDigits n ++ [93])).toArray⟩
def gapP (s : ByteArray) : Bool := (List.range 64).any fun i => decide (s = gapT (i + 1))
def markP (s : ByteArray) : Bool := decide (s.size = 1) && s.data.toList.all fun c => decide (byK c = 5) || decide (byK c = 4)

structure Tok where
  text : ByteArray
  norm : ByteArray
  page : ByteArray
  line : Int
  flags : Int
  name : ByteArray
deriving DecidableEq
namespace Tok
def gapB (t : Tok) : Bool := decide (t.flags / 2 % 2 = 1)
def markB (t : Tok) : Bool := decide (t.flags / 8 % 2 = 1)
def formB (t : Tok) : Bool :=
  if t.gapB then gapP t.text && decide (t.norm = t.text)
  else if t.markB then markP t.text && decide (t.norm = t.text)
  else isWordP t.text && normP t.norm
/-- What is wrong with a token. -/
def err (t : Tok) : Int :=
  if t.flags < 0 ∨ 31 < t.flags then 2
  else if t.gapB && t.markB then 8
  else if !t.formB then 11
  else if t.line < 0 then 2
  else if !(namedP t.page) || !(namedP t.name) then 14
  else 0
end Tok

theorem all_letB_wordGo : ∀ (m : Bool) (l : List UInt8), l.all letB = true → wordGo m l = true
  | _, [], _ => rfl
  | m, c :: r, h => by
    simp only [List.all_cons, Bool.and_eq_true] at h
    obtain ⟨h1, h2⟩ := h
    have h3 : byK c = 1 ∨ byK c = 3 := by simpa [letB] using h1
    rw [wordGo, if_neg (by omega), if_neg (by omega)]
    exact all_letB_wordGo _ r h2
/-- A name is a word of letters and digits alone. -/
theorem isName_word (s : ByteArray) : isNameP s = (decide (s.size ≤ 16) && (isWordP s && s.data.toList.all letB)) := by
  unfold isNameP isWordP
  rw [Bool.eq_iff_iff]
  simp only [Bool.and_eq_true, decide_eq_true_eq]
  constructor
  · rintro ⟨⟨h1, h2⟩, h3⟩
    refine ⟨h2, ⟨⟨h1, by omega⟩, all_letB_wordGo _ _ h3, ?_, ?_⟩, h3⟩
    · have hl : s.data.toList.length = s.size := Array.length_toList
      cases hs : s.data.toList with
      | nil => rw [hs] at hl; simp at hl; omega
      | cons c r => rw [hs, List.all_cons, Bool.and_eq_true] at h3; exact h3.1
    · rw [List.all_eq_true] at h3 ⊢
      intro c hc
      have : byK c = 1 ∨ byK c = 3 := by simpa [letB] using h3 c hc
      simp; omega
  · rintro ⟨h1, ⟨⟨h2, _⟩, _⟩, h3⟩
    exact ⟨⟨h2, h1⟩, h3⟩
end Go.Proofs.YtbjanlmnmeegnaaDoor

/- A slice of slices that the call itself makes: rows in blocks of their own. -/
namespace Go.Proofs.YtbjanlmnmeegnaaDoor
open Go.RowKit

/-- A slice value's parts. -/
abbrev Row := Option Addr × Nat × Nat
def rowV (r : Row) : Value := .slice r.1 r.2.1 r.2.2
theorem rowV_one (r : Row) : (rowV r).oneCell' = true := rfl
theorem ownBlock_some {a : Option Addr} {n c : Nat} {x : Addr} (h : a = some x) : (Value.slice a n c).ownBlock = some x.block := by subst h; rfl
theorem ownBlock_none {n c : Nat} : (Value.slice none n c).ownBlock = none := rfl

/-- Two addresses do not lie in one block. -/
def Apart (a b : Option Addr) : Prop := ∀ x y, a = some x → b = some y → x.block ≠ y.block
theorem Apart.symm {a b : Option Addr} (h : Apart a b) : Apart b a := fun x y hx hy e => h y x hy hx e.symm

namespace OwnII
variable {w w' : World} {B : Nat} {a : Option Addr} {n cap : Nat} {ll : List (List Int)}
end OwnII
end Go.Proofs.YtbjanlmnmeegnaaDoor

/- What slices of anything, tokens, operations and collations read as in a world. -/
namespace Go.Proofs.YtbjanlmnmeegnaaDoor
open Go.RowKit

/-- What is cells, and lies in S, stays. -/
def KeepS (S : Nat → Prop) (w w' : World) : Prop := w.heap.size ≤ w'.heap.size ∧ ∀ b cs t fr, S b → w.heap[b]? = some (.cells cs t fr) → w'.heap[b]? = some (.cells cs t fr)
namespace KeepS
variable {S S' : Nat → Prop} {w w' w'' : World}
theorem refl (S : Nat → Prop) (w : World) : KeepS S w w := ⟨Nat.le_refl _, fun _ _ _ _ _ h => h⟩
theorem trans (h : KeepS S w w') (k : KeepS S w' w'') : KeepS S w w'' := ⟨Nat.le_trans h.1 k.1, fun b cs t fr hs hb => k.2 b cs t fr hs (h.2 b cs t fr hs hb)⟩
theorem mono (h : KeepS S w w') (hs : ∀ b, S' b → S b) : KeepS S' w w' := ⟨h.1, fun b cs t fr hb => h.2 b cs t fr (hs b hb)⟩
theorem below (h : Below w.heap.size w w') : KeepS S w w' := ⟨h.size, fun b cs t fr _ hb => by rw [h.block b (Array.getElem?_eq_some_iff.1 hb).1]; exact hb⟩
theorem belowB {B : Nat} (h : Below B w w') (hw : w.heap.size ≤ w'.heap.size) (hS : ∀ b, S b → b < B) : KeepS S w w' :=
  ⟨hw, fun b cs t fr hs hb => by rw [h.block b (hS b hs)]; exact hb⟩
theorem cell (h : KeepS S w w') {a : Addr} {v : Value} (hs : S a.block) (hc : w.cell? a = some v) : w'.cell? a = some v := by
  unfold World.cell? at hc ⊢
  cases hb : w.heap[a.block]? with
  | none => rw [hb] at hc; cases hc
  | some o =>
    rw [hb] at hc
    cases o with
    | cells cs t fr => rw [h.2 a.block cs t fr hs hb]; exact hc
    | _ => cases hc
theorem frozen (h : KeepS S w w') {a : Addr} {v : Value} (hs : S a.block) (hc : w.cell? a = some v) : w'.frozen? a = w.frozen? a := by
  unfold World.cell? at hc
  unfold World.frozen?
  cases hb : w.heap[a.block]? with
  | none => rw [hb] at hc; cases hc
  | some o =>
    rw [hb] at hc
    cases o with
    | cells cs t fr => rw [h.2 a.block cs t fr hs hb]
    | _ => cases hc
theorem grown {row : Option Nat} (h : w.grownBy w' row) (hr : ∀ r, row = some r → ¬ S r) : KeepS S w w' :=
  ⟨h.size, fun b cs t fr hs hb => by rw [h.block b (Array.getElem?_eq_some_iff.1 hb).1 (fun e => hr b e.symm hs)]; exact hb⟩
theorem alloc (S : Nat → Prop) (w : World) (o : Obj) : KeepS S w (w.alloc o) := below ((Below.refl _ _).alloc (Nat.le_refl _) _)
theorem setCell (w : World) {b j : Nat} (hb : ¬ S b) (v : Value) : KeepS S w (w.setCell ⟨b, j, none⟩ v) :=
  ⟨by simp [World.setCell], fun b' cs t fr hs h' => by rw [Below.heap_setCell _ _ _ _ (by intro e; have e : b' = b := e; exact hb (e ▸ hs))]; exact h'⟩
theorem putObj (w : World) {l : Nat} {o : Obj} (h : w.heap[l]? = some o) (ho : o.isCells = false) (o' : Obj) : KeepS S w (w.putObj l o') :=
  ⟨by simp [World.putObj], fun b cs t fr _ hb => by
    by_cases e : b = l
    · subst e; rw [h] at hb; cases hb; cases ho
    · rw [World.putObj_heap_other e]; exact hb⟩
theorem drewN (S : Nat → Prop) (w : World) (q : Nat) : KeepS S w (w.drewN q) := below (below_drewN (Below.refl _ _) q)
end KeepS

/-- These cells, one behind the other. -/
def AtC (w : World) (b o : Nat) (cs : List Value) : Prop := ∀ i x, cs[i]? = some x → w.cell? ⟨b, o + i, none⟩ = some x
theorem AtC.keep {S : Nat → Prop} {w w' : World} {b o : Nat} {cs : List Value} (h : AtC w b o cs) (hs : S b) (k : KeepS S w w') : AtC w' b o cs := fun i x hx => k.cell hs (h i x hx)

abbrev Rel (α : Type) := (Nat → Prop) → World → List Value → α → Prop
structure RelOk {α : Type} (R : Rel α) : Prop where
  keep : ∀ {S : Nat → Prop} {w w' : World} {cs : List Value} {x : α}, KeepS S w w' → R S w cs x → R S w' cs x
  mono : ∀ {S S' : Nat → Prop} {w : World} {cs : List Value} {x : α}, (∀ b, S b → b < w.heap.size → S' b) → R S w cs x → R S' w cs x

/-- The slice value 'a n c' reads as a list, k cells and s bytes each. -/
def Sq {α : Type} (R : Rel α) (k s : Nat) (S : Nat → Prop) (w : World) (a : Option Addr) (n c : Nat) (l : List α) : Prop :=
  n = l.length ∧ n ≤ c ∧ n * s ≤ 140737488355328 ∧ ∀ j x, l[j]? = some x → ∃ b off cs, a = some ⟨b, off, none⟩ ∧ S b ∧ b < w.heap.size ∧ cs.length = k ∧ AtC w b (off + j * k) cs ∧ R S w cs x
namespace Sq
variable {α : Type} {R : Rel α} {k s : Nat} {S S' : Nat → Prop} {w w' : World} {a : Option Addr} {n c : Nat} {l : List α}
theorem len (h : Sq R k s S w a n c l) : n = l.length := h.1
theorem le (h : Sq R k s S w a n c l) : n ≤ c := h.2.1
theorem bound (h : Sq R k s S w a n c l) : n * s ≤ 140737488355328 := h.2.2.1
theorem nil (R : Rel α) (k s : Nat) (S : Nat → Prop) (w : World) : Sq R k s S w none 0 0 [] := ⟨rfl, Nat.le_refl _, by omega, fun j x h => by simp at h⟩
theorem keep (hR : RelOk R) (kk : KeepS S w w') (h : Sq R k s S w a n c l) : Sq R k s S w' a n c l :=
  ⟨h.1, h.2.1, h.2.2.1, fun j x hj => by
    obtain ⟨b, off, cs, e, hs, hb, hk, hat, hr⟩ := h.2.2.2 j x hj
    exact ⟨b, off, cs, e, hs, Nat.lt_of_lt_of_le hb kk.1, hk, hat.keep hs kk, hR.keep kk hr⟩⟩
theorem mono (hR : RelOk R) (kk : ∀ b, S b → b < w.heap.size → S' b) (h : Sq R k s S w a n c l) : Sq R k s S' w a n c l :=
  ⟨h.1, h.2.1, h.2.2.1, fun j x hj => by
    obtain ⟨b, off, cs, e, hs, hb, hk, hat, hr⟩ := h.2.2.2 j x hj
    exact ⟨b, off, cs, e, kk b hs hb, hb, hk, hat, hR.mono kk hr⟩⟩
theorem get (h : Sq R k s S w a n c l) {j : Nat} (hj : j < n) : ∃ x b off cs, l[j]? = some x ∧ x ∈ l ∧ a = some ⟨b, off, none⟩ ∧ S b ∧ b < w.heap.size ∧ cs.length = k ∧ AtC w b (off + j * k) cs ∧ R S w cs x := by
  have hl : j < l.length := by rw [← h.1]; exact hj
  have e := List.getElem?_eq_getElem hl
  obtain ⟨b, off, cs, ea, hs, hb, hk, hat, hr⟩ := h.2.2.2 j _ e
  exact ⟨l[j], b, off, cs, e, List.getElem_mem hl, ea, hs, hb, hk, hat, hr⟩
/-- A part of it. -/
theorem take (h : Sq R k s S w a n c l) {m c' : Nat} (hm : m ≤ n) (hc : m ≤ c') : Sq R k s S w a m c' (l.take m) := by
  refine ⟨by rw [List.length_take, ← h.1]; omega, hc, Nat.le_trans (Nat.mul_le_mul_right _ hm) h.2.2.1, fun j x hj => ?_⟩
  rw [List.getElem?_take] at hj
  split at hj
  · exact h.2.2.2 j x hj
  · cases hj
end Sq

def rInt : Rel Int := fun _ _ cs x => cs = [.int .i64 x] ∧ I64 x
def rStr : Rel ByteArray := fun _ _ cs t => cs = [.string t] ∧ t.size ≤ 140737488355328
def rBool : Rel Bool := fun _ _ cs b => cs = [.bool b]
def Tok.cells (t : Tok) : List Value := [.string t.text, .string t.norm, .string t.page, .int .i64 t.line, .int .i64 t.flags, .string t.name]
def Tok.ok (t : Tok) : Prop := t.text.size ≤ 140737488355328 ∧ t.norm.size ≤ 140737488355328 ∧ t.page.size ≤ 140737488355328 ∧ I64 t.line ∧ I64 t.flags ∧ t.name.size ≤ 140737488355328
def Tok.val (t : Tok) : Value := .agg #[.string t.text, .string t.norm, .string t.page, .int .i64 t.line, .int .i64 t.flags, .string t.name]
def rTok : Rel Tok := fun _ _ cs t => cs = t.cells ∧ t.ok
structure Op where
  kind : Int
  sig : ByteArray
  tok : Int
  other : Int
  text : ByteArray
deriving DecidableEq
def Op.cells (o : Op) : List Value := [.int .i64 o.kind, .string o.sig, .int .i64 o.tok, .int .i64 o.other, .string o.text]
def Op.val (o : Op) : Value := .agg #[.int .i64 o.kind, .string o.sig, .int .i64 o.tok, .int .i64 o.other, .string o.text]
def Op.ok (o : Op) : Prop := I64 o.kind ∧ o.sig.size ≤ 140737488355328 ∧ I64 o.tok ∧ I64 o.other ∧ o.text.size ≤ 140737488355328
def rOpn : Rel Op := fun _ _ cs o => cs = o.cells ∧ o.ok
def rSl {α : Type} (R : Rel α) (k s : Nat) : Rel (List α) := fun S w cs l => ∃ a n c, cs = [.slice a n c] ∧ Sq R k s S w a n c l
theorem rInt_ok : RelOk rInt := ⟨fun _ h => h, fun _ h => h⟩
theorem rStr_ok : RelOk rStr := ⟨fun _ h => h, fun _ h => h⟩
theorem rBool_ok : RelOk rBool := ⟨fun _ h => h, fun _ h => h⟩
theorem rTok_ok : RelOk rTok := ⟨fun _ h => h, fun _ h => h⟩
theorem rOpn_ok : RelOk rOpn := ⟨fun _ h => h, fun _ h => h⟩
theorem rSl_ok {α : Type} {R : Rel α} {k s : Nat} (hR : RelOk R) : RelOk (rSl R k s) :=
  ⟨fun kk ⟨a, n, c, e, h⟩ => ⟨a, n, c, e, h.keep hR kk⟩, fun kk ⟨a, n, c, e, h⟩ => ⟨a, n, c, e, h.mono hR kk⟩⟩

abbrev Strs := Sq rStr 1 16
abbrev Nums := Sq rInt 1 8
abbrev Flgs := Sq rBool 1 1
abbrev Toks := Sq rTok 6 80
abbrev Opsq := Sq rOpn 5 56
abbrev Tokss := Sq (rSl rTok 6 80) 1 24
abbrev Numss := Sq (rSl rInt 1 8) 1 24

theorem Sq.drewN {α : Type} {R : Rel α} {k s : Nat} {S : Nat → Prop} {w : World} {a : Option Addr} {n c : Nat} {l : List α} (h : Sq R k s S w a n c l) (hR : RelOk R) (q : Nat) : Sq R k s S (w.drewN q) a n c l := h.keep hR (.drewN _ _ _)
theorem Sq.below {α : Type} {R : Rel α} {k s : Nat} {S : Nat → Prop} {w w' : World} {a : Option Addr} {n c : Nat} {l : List α} (h : Sq R k s S w a n c l) (hR : RelOk R) (hb : Below w.heap.size w w') : Sq R k s S w' a n c l := h.keep hR (.below hb)

section
variable {S : Nat → Prop} {w : World} {a : Option Addr} {n c : Nat}
theorem AtC.one {w : World} {b o : Nat} {v : Value} (h : AtC w b o [v]) : w.cell? ⟨b, o, none⟩ = some v := h 0 v rfl
theorem Sq.int {l : List Int} (h : Nums S w a n c l) {j : Nat} (hj : j < n) : ∃ x b off, l[j]? = some x ∧ x ∈ l ∧ a = some ⟨b, off, none⟩ ∧ S b ∧ b < w.heap.size ∧ I64 x ∧ w.cell? ⟨b, off + j, none⟩ = some (.int .i64 x) := by
  obtain ⟨x, b, off, cs, h1, h2, h3, h4, h5, h6, h7, rfl, h8⟩ := h.get hj
  rw [Nat.mul_one] at h7
  exact ⟨x, b, off, h1, h2, h3, h4, h5, h8, h7.one⟩
theorem Sq.str {l : List ByteArray} (h : Strs S w a n c l) {j : Nat} (hj : j < n) : ∃ x b off, l[j]? = some x ∧ x ∈ l ∧ a = some ⟨b, off, none⟩ ∧ S b ∧ b < w.heap.size ∧ x.size ≤ 140737488355328 ∧ w.cell? ⟨b, off + j, none⟩ = some (.string x) := by
  obtain ⟨x, b, off, cs, h1, h2, h3, h4, h5, h6, h7, rfl, h8⟩ := h.get hj
  rw [Nat.mul_one] at h7
  exact ⟨x, b, off, h1, h2, h3, h4, h5, h8, h7.one⟩
theorem Sq.flg {l : List Bool} (h : Flgs S w a n c l) {j : Nat} (hj : j < n) : ∃ x b off, l[j]? = some x ∧ x ∈ l ∧ a = some ⟨b, off, none⟩ ∧ S b ∧ b < w.heap.size ∧ w.cell? ⟨b, off + j, none⟩ = some (.bool x) := by
  obtain ⟨x, b, off, cs, h1, h2, h3, h4, h5, h6, h7, rfl⟩ := h.get hj
  rw [Nat.mul_one] at h7
  exact ⟨x, b, off, h1, h2, h3, h4, h5, h7.one⟩
/-- The cells of a token. -/
def TokAt (w : World) (b o : Nat) (t : Tok) : Prop := w.cell? ⟨b, o, none⟩ = some (.string t.text) ∧ w.cell? ⟨b, o + 1, none⟩ = some (.string t.norm) ∧ w.cell? ⟨b, o + 2, none⟩ = some (.string t.page) ∧
  w.cell? ⟨b, o + 3, none⟩ = some (.int .i64 t.line) ∧ w.cell? ⟨b, o + 4, none⟩ = some (.int .i64 t.flags) ∧ w.cell? ⟨b, o + 5, none⟩ = some (.string t.name)
theorem Sq.tok {l : List Tok} (h : Toks S w a n c l) {j : Nat} (hj : j < n) : ∃ t b off, l[j]? = some t ∧ t ∈ l ∧ a = some ⟨b, off, none⟩ ∧ S b ∧ b < w.heap.size ∧ t.ok ∧ TokAt w b (off + j * 6) t := by
  obtain ⟨x, b, off, cs, h1, h2, h3, h4, h5, h6, h7, rfl, h8⟩ := h.get hj
  exact ⟨x, b, off, h1, h2, h3, h4, h5, h8, h7 0 _ rfl, h7 1 _ rfl, h7 2 _ rfl, h7 3 _ rfl, h7 4 _ rfl, h7 5 _ rfl⟩
/-- The cells of an operation. -/
def OpAt (w : World) (b o : Nat) (t : Op) : Prop := w.cell? ⟨b, o, none⟩ = some (.int .i64 t.kind) ∧ w.cell? ⟨b, o + 1, none⟩ = some (.string t.sig) ∧ w.cell? ⟨b, o + 2, none⟩ = some (.int .i64 t.tok) ∧
  w.cell? ⟨b, o + 3, none⟩ = some (.int .i64 t.other) ∧ w.cell? ⟨b, o + 4, none⟩ = some (.string t.text)
theorem Sq.op {l : List Op} (h : Opsq S w a n c l) {j : Nat} (hj : j < n) : ∃ t b off, l[j]? = some t ∧ t ∈ l ∧ a = some ⟨b, off, none⟩ ∧ S b ∧ b < w.heap.size ∧ t.ok ∧ OpAt w b (off + j * 5) t := by
  obtain ⟨x, b, off, cs, h1, h2, h3, h4, h5, h6, h7, rfl, h8⟩ := h.get hj
  exact ⟨x, b, off, h1, h2, h3, h4, h5, h8, h7 0 _ rfl, h7 1 _ rfl, h7 2 _ rfl, h7 3 _ rfl, h7 4 _ rfl⟩
theorem Sq.row {α : Type} {R : Rel α} {k s : Nat} {l : List (List α)} (h : Sq (rSl R k s) 1 24 S w a n c l) {j : Nat} (hj : j < n) : ∃ x b off a' n' c', l[j]? = some x ∧ x ∈ l ∧ a = some ⟨b, off, none⟩ ∧ S b ∧ b < w.heap.size ∧
    Sq R k s S w a' n' c' x ∧ w.cell? ⟨b, off + j, none⟩ = some (.slice a' n' c') := by
  obtain ⟨x, b, off, cs, h1, h2, h3, h4, h5, h6, h7, a', n', c', rfl, h8⟩ := h.get hj
  rw [Nat.mul_one] at h7
  exact ⟨x, b, off, a', n', c', h1, h2, h3, h4, h5, h8, h7.one⟩
end

/-- A collation, without addresses. -/
structure Col where
  sec : ByteArray
  sigla : List ByteArray
  toks : List (List Tok)
  cols : List (List Int)
deriving DecidableEq
/-- A collation's value. -/
structure CV where
  sec : ByteArray
  sa : Option Addr
  sn : Nat
  sc : Nat
  ta : Option Addr
  tn : Nat
  tc : Nat
  ca : Option Addr
  cn : Nat
  cc : Nat
def CV.arr (v : CV) : Array Value := #[.string v.sec, .slice v.sa v.sn v.sc, .slice v.ta v.tn v.tc, .slice v.ca v.cn v.cc]
def CV.val (v : CV) : Value := .agg v.arr
def RdC (S : Nat → Prop) (w : World) (v : CV) (x : Col) : Prop :=
  v.sec = x.sec ∧ v.sec.size ≤ 140737488355328 ∧ Strs S w v.sa v.sn v.sc x.sigla ∧ Tokss S w v.ta v.tn v.tc x.toks ∧ Numss S w v.ca v.cn v.cc x.cols
theorem RdC.keep {S : Nat → Prop} {w w' : World} {v : CV} {x : Col} (h : RdC S w v x) (k : KeepS S w w') : RdC S w' v x :=
  ⟨h.1, h.2.1, h.2.2.1.keep rStr_ok k, h.2.2.2.1.keep (rSl_ok rTok_ok) k, h.2.2.2.2.keep (rSl_ok rInt_ok) k⟩
theorem RdC.mono {S S' : Nat → Prop} {w : World} {v : CV} {x : Col} (h : RdC S w v x) (k : ∀ b, S b → b < w.heap.size → S' b) : RdC S' w v x :=
  ⟨h.1, h.2.1, h.2.2.1.mono rStr_ok k, h.2.2.2.1.mono (rSl_ok rTok_ok) k, h.2.2.2.2.mono (rSl_ok rInt_ok) k⟩
theorem RdC.below {S : Nat → Prop} {w w' : World} {v : CV} {x : Col} (h : RdC S w v x) (hb : Below w.heap.size w w') : RdC S w' v x := h.keep (.below hb)
end Go.Proofs.YtbjanlmnmeegnaaDoor
