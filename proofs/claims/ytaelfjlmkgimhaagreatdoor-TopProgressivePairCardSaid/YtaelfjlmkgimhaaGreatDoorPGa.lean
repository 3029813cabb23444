/- Slices of the call's own, each in a block of its own: stored into, taken out, put in, read. Two tokens in a block of their own. progressive: what a column costs beside a token. slices.Repeat of one int. A region that draws its order in an iterator's own walk: its head along a tree, its tail (a yield may be in it) in the fence. progressive: the iterator over the steps of a place. progressive: the table of the least costs of the rests, step by step. No program here. A table of rows whose outer block may have room beyond its length. No program here. A world that differs in some blocks alone; the library's variables below a block. No program here. progressive: an entry of the adder's table. progressive: the adder's table. progressive.fill. What the adder's columns grow to; the way, step by step; a region within a round. -/
import Derived.Test.YtaelfjlmkgimhaaGreatDoorEIter
import Derived.Test.YtaelfjlmkgimhaaGreatDoorPPg4
import Derived.Deep.CutBlock
import Derived.Laws.CopyOwn
set_option linter.unusedVariables false
set_option linter.unusedSimpArgs false
namespace Go.Proofs.YtaelfjlmkgimhaaGreatDoor
open Go.RowKit

namespace OwnQ
variable {α : Type} {e size : Nat} {enc : α → List Value} {w w' : World} {B : Nat} {a : Option Addr} {n cap : Nat} {l : List α}
theorem setOther (h : OwnQ e size enc w B a n cap l) {g j : Nat} (hg : ∀ x, a = some x → x.block ≠ g) (v : Value) : OwnQ e size enc (w.setCell ⟨g, j, none⟩ v) B a n cap l := by
  refine ⟨h.1, ownsRow_setCell_other h.2 ?_ v⟩
  cases a with
  | none => simp [Value.ownBlock]
  | some x => simpa [Value.ownBlock] using hg x rfl
/-- Stored at an element of one cell. -/
theorem put1 {enc : α → List Value} {g : Nat} (h : OwnQ e 1 enc w B (some ⟨g, 0, none⟩) n cap l) (one : ∀ x, ∃ v, enc x = [v]) (j : Nat) (x : α) (v : Value) (hv : enc x = [v]) : OwnQ e 1 enc (w.setCell ⟨g, j, none⟩ v) B (some ⟨g, 0, none⟩) n cap (l.set j x) := by
  refine ⟨by simpa using h.1, ?_⟩
  have key : ∀ (l : List α) (j : Nat), (l.set j x).flatMap enc = (l.flatMap enc).set j v := by
    intro l
    induction l with
    | nil => intro j; simp
    | cons y l ih =>
      intro j
      obtain ⟨u, hu⟩ := one y
      cases j with
      | zero => rw [List.set_cons_zero, List.flatMap_cons, List.flatMap_cons, hv, hu]; rfl
      | succ j => rw [List.set_cons_succ, List.flatMap_cons, List.flatMap_cons, ih, hu]; rfl
  rw [key]
  exact (h.2.stored j v).1
theorem grown_set (h : OwnQ e size enc w B a n cap l) {g : Nat} (ha : a = some ⟨g, 0, none⟩) (j : Nat) (v : Value) : w.grownBy (w.setCell ⟨g, j, none⟩ v) (some g) := by
  subst ha; exact (h.2.stored j v).2
end OwnQ
theorem flat_one {α : Type} {v : α → Value} {l : List α} : l.flatMap (fun x => [v x]) = l.map v := by
  induction l with
  | nil => rfl
  | cons x l ih => rw [List.flatMap_cons, ih]; rfl
theorem own_of_row {α : Type} {e size : Nat} {enc : α → List Value} {w : World} {B n : Nat} {v : Value} {l : List α} (h : w.ownsRow B e size v n (l.flatMap enc)) (hn : n = l.length) : ∃ a c, v = .slice a n c ∧ OwnQ e size enc w B a n c l := by
  have h' := h
  rcases h.2 with ⟨rfl, rfl⟩ | ⟨g, c, cur, rfl, _⟩
  · exact ⟨none, 0, rfl, hn, h'⟩
  · exact ⟨_, _, rfl, hn, h'⟩

/-- Slices of the call's own, each in a block of its own, with what they read as. -/
def RowsP {α : Type} (e size : Nat) (enc : α → List Value) (w : World) (B : Nat) (ps : List (Row × List α)) : Prop :=
  (∀ p ∈ ps, OwnQ e size enc w B p.1.1 p.1.2.1 p.1.2.2 p.2) ∧ ps.Pairwise fun p q => Apart p.1.1 q.1.1
namespace RowsP
variable {α : Type} {e size : Nat} {enc : α → List Value} {w w' : World} {B : Nat} {ps P Q : List (Row × List α)} {p p' : Row × List α}
theorem nil (e size : Nat) (enc : α → List Value) (w : World) (B : Nat) : RowsP e size enc w B [] := ⟨by simp, List.Pairwise.nil⟩
theorem below (h : RowsP e size enc w B ps) (hb : Below w.heap.size w w') : RowsP e size enc w' B ps := ⟨fun p hp => (h.1 p hp).below hb, h.2⟩
theorem mono {B' : Nat} (h : RowsP e size enc w B ps) (hB : B' ≤ B) : RowsP e size enc w B' ps := ⟨fun p hp => (h.1 p hp).mono hB, h.2⟩
theorem kept {row : Option Nat} (h : RowsP e size enc w B ps) (hg : w.grownBy w' row) (hr : ∀ p ∈ ps, ∀ x, p.1.1 = some x → some x.block ≠ row) : RowsP e size enc w' B ps :=
  ⟨fun p hp => (h.1 p hp).kept hg (hr p hp), h.2⟩
theorem setOther (h : RowsP e size enc w B ps) {g j : Nat} (hg : ∀ p ∈ ps, ∀ x, p.1.1 = some x → x.block ≠ g) (v : Value) : RowsP e size enc (w.setCell ⟨g, j, none⟩ v) B ps :=
  ⟨fun p hp => (h.1 p hp).setOther (hg p hp) v, h.2⟩
theorem lt (h : RowsP e size enc w B ps) (hp : p ∈ ps) : ∀ x, p.1.1 = some x → B ≤ x.block ∧ x.block < w.heap.size := (h.1 p hp).lt
theorem app (h : RowsP e size enc w B ps) (hp : OwnQ e size enc w B p.1.1 p.1.2.1 p.1.2.2 p.2) (ha : ∀ q ∈ ps, Apart q.1.1 p.1.1) : RowsP e size enc w B (ps ++ [p]) := by
  refine ⟨fun q hq => ?_, List.pairwise_append.2 ⟨h.2, by simp, fun q hq r hr => ?_⟩⟩
  · rcases List.mem_append.1 hq with hq | hq
    · exact h.1 q hq
    · rw [List.mem_singleton.1 hq]; exact hp
  · rw [List.mem_singleton.1 hr]; exact ha q hq
/-- A row that lies behind all that was there. -/
theorem fresh (h : RowsP e size enc w B ps) (hp : ∀ x, p.1.1 = some x → w.heap.size ≤ x.block) : ∀ q ∈ ps, Apart q.1.1 p.1.1 := fun q hq x y hx hy => by
  have := (h.lt hq x hx).2; have := hp y hy; omega
theorem mid (h : RowsP e size enc w B (P ++ p :: Q)) : OwnQ e size enc w B p.1.1 p.1.2.1 p.1.2.2 p.2 ∧ ∀ q ∈ P ++ Q, Apart q.1.1 p.1.1 := by
  refine ⟨h.1 p (by simp), fun q hq => ?_⟩
  obtain ⟨_, h2, h3⟩ := List.pairwise_append.1 h.2
  rcases List.mem_append.1 hq with hq | hq
  · exact h3 q hq p (by simp)
  · exact ((List.pairwise_cons.1 h2).1 q hq).symm
theorem out (h : RowsP e size enc w B (P ++ p :: Q)) : RowsP e size enc w B (P ++ Q) := by
  have hs : List.Sublist (P ++ Q) (P ++ p :: Q) := List.Sublist.append (List.Sublist.refl _) (List.sublist_cons_self _ _)
  exact ⟨fun q hq => h.1 q (hs.subset hq), h.2.sublist hs⟩
theorem put (h : RowsP e size enc w B (P ++ Q)) (hp : OwnQ e size enc w B p.1.1 p.1.2.1 p.1.2.2 p.2) (ha : ∀ q ∈ P ++ Q, Apart q.1.1 p.1.1) : RowsP e size enc w B (P ++ p :: Q) := by
  obtain ⟨h1, h2, h3⟩ := List.pairwise_append.1 h.2
  refine ⟨fun q hq => ?_, List.pairwise_append.2 ⟨h1, List.pairwise_cons.2 ⟨fun q hq => (ha q (by simp [hq])).symm, h2⟩, fun q hq r hr => ?_⟩⟩
  · rcases List.mem_append.1 hq with hq | hq
    · exact h.1 q (by simp [hq])
    · rcases List.mem_cons.1 hq with rfl | hq
      · exact hp
      · exact h.1 q (by simp [hq])
  · rcases List.mem_cons.1 hr with rfl | hr
    · exact ha q (by simp [hq])
    · exact h3 q hq r hr
/-- One row changes, by what leaves all other blocks as they are. -/
theorem change (h : RowsP e size enc w B (P ++ p :: Q)) (hp : OwnQ e size enc w' B p'.1.1 p'.1.2.1 p'.1.2.2 p'.2) (hr : p'.1 = p.1)
    (hk : ∀ q ∈ P ++ Q, Apart q.1.1 p.1.1 → OwnQ e size enc w B q.1.1 q.1.2.1 q.1.2.2 q.2 → OwnQ e size enc w' B q.1.1 q.1.2.1 q.1.2.2 q.2) : RowsP e size enc w' B (P ++ p' :: Q) := by
  obtain ⟨_, ha⟩ := h.mid
  have ho : RowsP e size enc w' B (P ++ Q) := ⟨fun q hq => hk q hq (ha q hq) (h.out.1 q hq), h.out.2⟩
  exact ho.put hp (fun q hq => by rw [hr]; exact ha q hq)
theorem set1 {enc : α → List Value} {g n c : Nat} {l : List α} (h : RowsP e 1 enc w B (P ++ ((some ⟨g, 0, none⟩, n, c), l) :: Q)) (one : ∀ x, ∃ v, enc x = [v]) (j : Nat) (x : α) (v : Value) (hv : enc x = [v]) :
    RowsP e 1 enc (w.setCell ⟨g, j, none⟩ v) B (P ++ ((some ⟨g, 0, none⟩, n, c), l.set j x) :: Q) := by
  refine h.change (p' := ((some ⟨g, 0, none⟩, n, c), l.set j x)) (h.mid.1.put1 one j x v hv) rfl fun q hq ha ho => ho.setOther (fun y hy => ha y ⟨g, 0, none⟩ hy rfl) v
/-- The slices of a slice: they read as lists of lists. -/
theorem sq {R : Rel α} {S : Nat → Prop} {s e1 B1 : Nat} {a : Option Addr} {n cap : Nat} (h : RowsP e size enc w B ps) (ho : OwnQ e1 1 encR w B1 a n cap (ps.map (·.1))) (henc : ∀ x, (enc x).length = size) (hn : n * 24 ≤ 140737488355328) (hS : ∀ b, B ≤ b → b < w.heap.size → S b) (hS1 : ∀ x, a = some x → S x.block)
    (hl : ∀ p ∈ ps, p.2.length * s ≤ 140737488355328 ∧ ∀ x ∈ p.2, R S w (enc x) x) : Sq (rSl R size s) 1 24 S w a n cap (ps.map (·.2)) := by
  refine ⟨by rw [ho.len]; simp, ho.cap_le, hn, fun j x hj => ?_⟩
  rw [List.getElem?_map] at hj
  obtain ⟨p, hp, rfl⟩ := Option.map_eq_some_iff.1 hj
  have hpm : p ∈ ps := List.mem_of_getElem? hp
  obtain ⟨r, g, h1, h2, rfl, h3, h4, -, h5⟩ := ho.at_ (j := j) (fun _ => rfl) (by rw [ho.len, List.length_map]; exact (List.getElem?_eq_some_iff.1 hp).1)
  rw [List.getElem?_map, hp] at h1
  cases h1
  obtain ⟨l1, l2⟩ := hl p hpm
  have hq := h.1 p hpm
  exact ⟨g, 0, encR p.1, rfl, hS1 _ rfl, h4, rfl, by rw [Nat.zero_add]; exact h5, p.1.1, p.1.2.1, p.1.2.2, rfl, hq.sq henc (by rw [hq.len]; exact l1) (fun y hy => hS _ (hq.lt y hy).1 (hq.lt y hy).2) l2⟩
end RowsP
theorem one_int : ∀ x : Int, ∃ v, encI x = [v] := fun x => ⟨_, rfl⟩
theorem one_row : ∀ r : Row, ∃ v, encR r = [v] := fun r => ⟨_, rfl⟩

/-- 'append(x, nil...)': nothing changes. -/
theorem run_append_own_nil {P : Program} {w : World} (base : Nat) (t ty e : TypeId) (i : TypeInfo) (size c : Nat) (ht : P.underlying t = some (.slice e)) (hi : P.info? e = some i)
    (v : Value) (n : Nat) (xs : List Value) (hown : w.ownsRow base e size v n xs) : (Builtin.append_ #[t, t] ty #[v, .slice none 0 c]).run P w = .ok v w := by
  rcases hown.2 with ⟨rfl, rfl⟩ | ⟨g, cap, cur, rfl, _, _, hnc, _⟩
  · simp [Builtin.append_, run_underlying ht, sizeOf, typeInfo, hi, Builtin.lenOf, Builtin.firstCells]
  · simp [Builtin.append_, run_underlying ht, sizeOf, typeInfo, hi, Builtin.lenOf, Builtin.firstCells, hnc, storeCells]
theorem wpList_app_nil {P : Program} {w : World} {ops : Array Oper} {rest : List Oper} {o : Oper} {a : Act} {Q : Exit → Act → World → Prop} (hgd : o.guard = none) (s x : Operand) (t : TypeId)
    (ho : o.op = .call { callee := .builtin .append, args := #[s, x], argTypes := #[t, t] })
    (base : Nat) (e : TypeId) (i : TypeInfo) (size c : Nat) (ht : P.underlying t = some (.slice e)) (hi : P.info? e = some i)
    (v : Value) (n : Nat) (xs : List Value) (hs : a.eval s = v) (hown : w.ownsRow base e size v n xs) (hx : a.eval x = .slice none 0 c)
    (h : wpList P ops Q rest (a.put o.dst v) w) : wpList P ops Q (o :: rest) a w := by
  refine wpList_plain hgd fun K hK => ?_
  have hrun := run_append_own_nil (P := P) (w := w) base t o.type e i size c ht hi v n xs hown
  unfold Oper.wp
  simp [execOp, ho, resolve, invoke, builtin, hs, hx, hrun, Result.andThen]
  exact hK _ _ h
end Go.Proofs.YtaelfjlmkgimhaaGreatDoor

set_option linter.unusedVariables false
set_option linter.unusedSimpArgs false
namespace Go.Proofs.YtaelfjlmkgimhaaGreatDoor
open Go.RowKit

theorem below_cell {w w' : World} (h : Below w.heap.size w w') {a : Addr} {v : Value} (hc : w.cell? a = some v) : w'.cell? a = some v := by
  rw [h.cell (World.block_lt_of_cell? w a hc)]
  exact hc
def tk0 : Tok := ⟨⟨#[]⟩, ⟨#[]⟩, ⟨#[]⟩, 0, 0, ⟨#[]⟩⟩
theorem tk0_ok : tk0.ok := by unfold tk0 Tok.ok; refine ⟨by decide, by decide, by decide, ?_, ?_, by decide⟩ <;> exact ⟨by decide, by decide⟩
theorem Tryz.infoTk : (Tryz.prog.info? 47).map (fun i => (i.zero, i.size, i.bytes)) = some (some (.agg #[.string ⟨#[]⟩, .string ⟨#[]⟩, .string ⟨#[]⟩, .int .i64 0, .int .i64 0, .string ⟨#[]⟩]), 6, 80) := by kernel_rfl
def two12 (x y : Tok) : Array Value := #[.string x.text, .string x.norm, .string x.page, .int .i64 x.line, .int .i64 x.flags, .string x.name, .string y.text, .string y.norm, .string y.page, .int .i64 y.line, .int .i64 y.flags, .string y.name]
theorem toks_two {W : World} {g : Nat} {x y : Tok} (h : W.heap[g]? = some (.cells (two12 x y) 47 (0, 0))) (hx : x.ok) (hy : y.ok) : Toks (fun _ => True) W (some ⟨g, 0, none⟩) 2 2 [x, y] := by
  have o : OwnQ 47 6 Tok.cells W g (some ⟨g, 0, none⟩) 2 2 [x, y] := ⟨rfl, rfl, Or.inr ⟨g, 2, two12 x y, rfl, Nat.le_refl _, h, Nat.le_refl _, by unfold maxLen; omega, rfl, rfl⟩⟩
  exact o.sq (R := rTok) tok_len (by omega) (fun _ _ => trivial) (fun t ht => ⟨rfl, by simp at ht; rcases ht with rfl | rfl; exact hx; exact hy⟩)
theorem flgs_two {W : World} {g : Nat} {p q : Bool} (h : W.heap[g]? = some (.cells #[.bool p, .bool q] 4 (0, 0))) : Flgs (fun _ => True) W (some ⟨g, 0, none⟩) 2 2 [p, q] := by
  have o : OwnQ 4 1 (fun b => [Value.bool b]) W g (some ⟨g, 0, none⟩) 2 2 [p, q] := ⟨rfl, rfl, Or.inr ⟨g, 2, #[.bool p, .bool q], rfl, Nat.le_refl _, h, Nat.le_refl _, by unfold maxLen; omega, rfl, rfl⟩⟩
  exact o.sq (R := rBool) (fun _ => rfl) (by omega) (fun _ _ => trivial) (fun t ht => rfl)
theorem made_two {w : World} {B g : Nat} (h : w.ownsRow B 47 6 (.slice (some ⟨g, 0, none⟩) 2 2) 2 (madeCells (Value.agg #[.string ⟨#[]⟩, .string ⟨#[]⟩, .string ⟨#[]⟩, .int .i64 0, .int .i64 0, .string ⟨#[]⟩]).cells (2 * 6)).toList) : w.heap[g]? = some (.cells (two12 tk0 tk0) 47 (0, 0)) := by
  rcases h.2 with ⟨hv, -⟩ | ⟨g', cap, cur, hv, hb, hg, h1, h2, h3, h4⟩
  · cases hv
  · cases hv
    have e2 : cur = two12 tk0 tk0 := by
      apply Array.ext'
      rw [← List.take_of_length_le (l := cur.toList) (i := 2 * 6) (by rw [Array.length_toList, h3]; exact Nat.le_refl _), h4]
      kernel_rfl
    rw [← e2]
    exact hg
abbrev put6 (W : World) (b o : Nat) (d0 d1 d2 d3 d4 d5 : Value) : World := (((((W.setCell ⟨b, o, none⟩ d0).setCell ⟨b, o + 1, none⟩ d1).setCell ⟨b, o + 2, none⟩ d2).setCell ⟨b, o + 3, none⟩ d3).setCell ⟨b, o + 4, none⟩ d4).setCell ⟨b, o + 5, none⟩ d5
theorem put6_at {W : World} {b o : Nat} {cs : Array Value} {t : TypeId} {fr : Nat × Nat} (h : W.heap[b]? = some (.cells cs t fr)) (d0 d1 d2 d3 d4 d5 : Value) : (put6 W b o d0 d1 d2 d3 d4 d5).heap[b]? = some (.cells ((((((cs.setIfInBounds o d0).setIfInBounds (o + 1) d1).setIfInBounds (o + 2) d2).setIfInBounds (o + 3) d3).setIfInBounds (o + 4) d4).setIfInBounds (o + 5) d5) t fr) := by
  have h0 := heap_set_at (j := o) h d0
  have h1 := heap_set_at (j := o + 1) h0 d1
  have h2 := heap_set_at (j := o + 2) h1 d2
  have h3 := heap_set_at (j := o + 3) h2 d3
  have h4 := heap_set_at (j := o + 4) h3 d4
  exact heap_set_at (j := o + 5) h4 d5
theorem put6_other {W : World} {b b' : Nat} (o : Nat) (hb : b' ≠ b) (d0 d1 d2 d3 d4 d5 : Value) : (put6 W b o d0 d1 d2 d3 d4 d5).heap[b']? = W.heap[b']? := by
  have hh : ∀ (W : World) (j : Nat) (v : Value), (W.setCell ⟨b, j, none⟩ v).heap[b']? = W.heap[b']? := fun W j v => Below.heap_setCell _ _ _ _ (by simpa using hb)
  rw [hh, hh, hh, hh, hh, hh]
theorem put6_below {n : Nat} {A W : World} (h : Below n A W) {b : Nat} (o : Nat) (hb : n ≤ b) (d0 d1 d2 d3 d4 d5 : Value) : Below n A (put6 W b o d0 d1 d2 d3 d4 d5) :=
  (((((h.setCell (p := ⟨b, o, none⟩) hb _).setCell (p := ⟨b, o + 1, none⟩) hb _).setCell (p := ⟨b, o + 2, none⟩) hb _).setCell (p := ⟨b, o + 3, none⟩) hb _).setCell (p := ⟨b, o + 4, none⟩) hb _).setCell (p := ⟨b, o + 5, none⟩) hb _
abbrev putT (W : World) (b o : Nat) (t : Tok) : World := put6 W b o (.string t.text) (.string t.norm) (.string t.page) (.int .i64 t.line) (.int .i64 t.flags) (.string t.name)
theorem putT_0 {W : World} {b : Nat} {x y : Tok} (t : Tok) (h : W.heap[b]? = some (.cells (two12 x y) 47 (0, 0))) : (putT W b 0 t).heap[b]? = some (.cells (two12 t y) 47 (0, 0)) := put6_at h _ _ _ _ _ _
theorem putT_6 {W : World} {b : Nat} {x y : Tok} (t : Tok) (h : W.heap[b]? = some (.cells (two12 x y) 47 (0, 0))) : (putT W b 6 t).heap[b]? = some (.cells (two12 x t) 47 (0, 0)) := put6_at h _ _ _ _ _ _
theorem two_lo {W : World} {b : Nat} {x y : Tok} (h : W.heap[b]? = some (.cells (two12 x y) 47 (0, 0))) : W.cell? ⟨b, 0, none⟩ = some (.string x.text) ∧ W.cell? ⟨b, 1, none⟩ = some (.string x.norm) ∧ W.cell? ⟨b, 2, none⟩ = some (.string x.page) ∧ W.cell? ⟨b, 3, none⟩ = some (.int .i64 x.line) ∧ W.cell? ⟨b, 4, none⟩ = some (.int .i64 x.flags) ∧ W.cell? ⟨b, 5, none⟩ = some (.string x.name) :=
  ⟨by rw [Lib.cell_of_heap h]; rfl, by rw [Lib.cell_of_heap h]; rfl, by rw [Lib.cell_of_heap h]; rfl, by rw [Lib.cell_of_heap h]; rfl, by rw [Lib.cell_of_heap h]; rfl, by rw [Lib.cell_of_heap h]; rfl⟩
theorem two_hi {W : World} {b : Nat} {x y : Tok} (h : W.heap[b]? = some (.cells (two12 x y) 47 (0, 0))) : W.cell? ⟨b, 6, none⟩ = some (.string y.text) ∧ W.cell? ⟨b, 7, none⟩ = some (.string y.norm) ∧ W.cell? ⟨b, 8, none⟩ = some (.string y.page) ∧ W.cell? ⟨b, 9, none⟩ = some (.int .i64 y.line) ∧ W.cell? ⟨b, 10, none⟩ = some (.int .i64 y.flags) ∧ W.cell? ⟨b, 11, none⟩ = some (.string y.name) :=
  ⟨by rw [Lib.cell_of_heap h]; rfl, by rw [Lib.cell_of_heap h]; rfl, by rw [Lib.cell_of_heap h]; rfl, by rw [Lib.cell_of_heap h]; rfl, by rw [Lib.cell_of_heap h]; rfl, by rw [Lib.cell_of_heap h]; rfl⟩
end Go.Proofs.YtaelfjlmkgimhaaGreatDoor

set_option linter.unusedVariables false
set_option linter.unusedSimpArgs false
namespace Go.Proofs.YtaelfjlmkgimhaaGreatDoor
open Go.RowKit

/-- An adder: where its parts lie. -/
structure AV where
  la : Option Addr
  ln : Nat
  lp : Nat
  xa : Option Addr
  xn : Nat
  xp : Nat
  ta : Option Addr
  tn : Nat
  tp : Nat
  ba : Option Addr
  bn : Nat
  bp : Nat
def AV.arr (v : AV) (c : Cst) : Array Value := #[.int .i64 c.g, .int .i64 c.n, .int .i64 c.l, .int .i64 c.m, .slice v.la v.ln v.lp, .slice v.xa v.xn v.xp, .slice v.ta v.tn v.tp, .slice v.ba v.bn v.bp]
def AV.val (v : AV) (c : Cst) : Value := .agg (v.arr c)
/-- A column's entries are numbers of tokens. -/
def VCol (l : List (List Tok)) (col : Cm) : Prop := col.length = l.length ∧ ∀ s i, ent1 s col = some i → i < (srcAt l s).length
/-- What a column costs beside a token, or beside none. -/
def besT (c : Cst) (l : List (List Tok)) (t : List Tok) (col : Cm) (ko : Option Nat) (s : Nat) : Nat := coO c ((ent1 s col).map (tkAt (srcAt l s))) (ko.map (tkAt t))
def besF (c : Cst) (l : List (List Tok)) (t : List Tok) (col : Cm) (ko : Option Nat) : Nat → Nat
  | 0 => 0
  | s + 1 => besF c l t col ko s + besT c l t col ko s
theorem besF_le {c : Cst} (hc : c.ok) (l : List (List Tok)) (t : List Tok) (col : Cm) (ko : Option Nat) : ∀ s, besF c l t col ko s ≤ 1000 * s
  | 0 => Nat.le_refl _
  | s + 1 => by
    have := besF_le hc l t col ko s
    have := coO_le hc ((ent1 s col).map (tkAt (srcAt l s))) (ko.map (tkAt t))
    rw [besF, besT]; omega
set_option maxRecDepth 100000 in
set_option maxHeartbeats 8000000 in
theorem beside_any (S S2 S3 : Nat → Prop) (c : Cst) (v : AV) (l : List (List Tok)) (t : List Tok) (col : Cm) (ko : Option Nat) (xa : Option Addr) (q xc : Nat) (w : World) (hl : Tokss S w v.la v.ln v.lp l) (ht : Toks S2 w v.ta v.tn v.tp t) (hx : Nums S3 w xa q xc (colI col))
    (hvc : VCol l col) (hko : ∀ k, ko = some k → k < t.length) (hv : VdL l) (htv : ∀ x ∈ t, x.err = 0) (hc : c.ok) (hE : Env w) :
    Calls Tryz.prog 71 #[v.val c, .slice xa q xc, .int .i64 (toI ko)] w fun e w' => e = .returned (.int .i64 (besF c l t col ko l.length : Nat)) ∧ Below w.heap.size w w' := by
  have hbA : Below w.heap.size w (w.alloc (.cells (v.arr c) 83)) := (Below.refl _ _).alloc (Nat.le_refl _) _
  have hX := World.alloc_heap_new w (.cells (v.arr c) 83)
  have hsA : (w.alloc (.cells (v.arr c) 83)).heap.size = w.heap.size + 1 := by simp
  have hql : q = l.length := by rw [hx.len, colI, List.length_map]; exact hvc.1
  have hqb : q ≤ 32 := by rw [hql]; exact hv.n
  have hqn : q = v.ln := by rw [hql, hl.len]
  have HCO := Lib.hid (fun W (hW : Below w.heap.size w W) x y (p1 p2 : Bool) a b cp cq (h1 : Toks (fun _ => True) W a 2 cp [x, y]) (h2 : Flgs (fun _ => True) W b 2 cq [p1, p2]) (h3 : p1 = true → x.err = 0) (h4 : p2 = true → y.err = 0) =>
    column_any (fun _ => True) c [x, y] [p1, p2] a b 2 cp cq W h1 h2 (by omega) hc (fun j t h5 h6 => by
      match j with
      | 0 => simp at h5 h6; subst h5; exact h3 h6
      | 1 => simp at h5 h6; subst h5; exact h4 h6
      | j + 2 => simp at h5) (hE.below hW))
  have HL := Lib.hid hl
  have HTT := Lib.hid ht
  have HXX := Lib.hid hx
  have HVC := Lib.hid hvc
  have HKO := Lib.hid hko
  have HV := Lib.hid hv
  have HTV := Lib.hid htv
  have HOK := Lib.hid hc
  have hbd := hx.bound
  have hlb := hl.bound
  have htb := ht.bound
  clear hl ht hx hvc hko hv htv hc hE
  obtain ⟨cg, cn, cl, cm⟩ := c
  obtain ⟨la, ln, lp, ya, yn, yp, ta, tn, tp, ba, bn, bp⟩ := v
  dsimp only at HL HTT hqn hlb htb
  dsimp only [AV.val, AV.arr] at hbA hX hsA HCO ⊢
  generalize hWA : w.alloc (.cells #[.int .i64 cg, .int .i64 cn, .int .i64 cl, .int .i64 cm, .slice la ln lp, .slice ya yn yp, .slice ta tn tp, .slice ba bn bp] 83) = WA at *
  have HX := Lib.hid hX
  have HBA := Lib.hid hbA
  have HSA := Lib.hid hsA
  have HQL := Lib.hid hql
  clear hX hbA hsA hql
  subst hqn
  go_enter Tryz.func71, Tryz.ntmps71
  go_wp2_with fail
  go_loopw [7, 16] (fun sv jv wr => ∃ (j sm : Nat), sv = .int .i64 (sm : Int) ∧ jv = .int .i64 (j : Int) ∧ j ≤ q ∧ Hid (sm = besF ⟨cg, cn, cl, cm⟩ l t col ko j) ∧ Hid (Below WA.heap.size WA wr)) (fun _ jv _ => q - (intOf jv).toNat)
  case atStart => exact ⟨0, 0, rfl, rfl, Nat.zero_le _, rfl, Below.refl _ _⟩
  case round =>
    obtain ⟨j, sm, rfl, rfl, hj, H1, HBR⟩ := hrel
    obtain ⟨s0, s1, s2, s3, s4, s5, s6, s7, -⟩ := box8 ((HBR.out.block w.heap.size (by have := HSA.out; omega)).trans HX.out)
    have hbw := HBA.out.trans (HBR.out.mono HBA.out.size)
    by_cases hjq : j < q
    · obtain ⟨row, bl, ol, ar, nr, cr, hu, hm, ea, -, hbl, hrow, hc0⟩ := (HL.out.below (rSl_ok rTok_ok) hbw).row hjq
      obtain ⟨z, bx, ox, hz, -, ex, -, hbx, -, hc1⟩ := (HXX.out.below rInt_ok hbw).int hjq
      subst ea
      subst ex
      have hze : z = toI (ent1 j col) := by
        rw [colI, List.getElem?_map] at hz
        unfold ent1
        cases hcj : col[j]? with
        | none => rw [hcj] at hz; cases hz
        | some o => rw [hcj] at hz; exact (Option.some.inj hz).symm
      subst hze
      have hrw : srcAt l j = row := by unfold srcAt; rw [hu]; rfl
      have hsb := hbw.size
      have HF : Hid (∀ W : World, Below wr.heap.size wr W → (W.cell? ⟨w.heap.size, 0, none⟩ = some (.int .i64 cg) ∧ W.cell? ⟨w.heap.size, 1, none⟩ = some (.int .i64 cn) ∧ W.cell? ⟨w.heap.size, 2, none⟩ = some (.int .i64 cl) ∧ W.cell? ⟨w.heap.size, 3, none⟩ = some (.int .i64 cm) ∧ W.cell? ⟨w.heap.size, 4, none⟩ = some (.slice (some ⟨bl, ol, none⟩) q lp) ∧ W.cell? ⟨w.heap.size, 6, none⟩ = some (.slice ta tn tp) ∧ W.cell? ⟨bl, ol + j, none⟩ = some (.slice ar nr cr))) := fun W hW => ⟨(below_cell hW s0), (below_cell hW s1), (below_cell hW s2), (below_cell hW s3), (below_cell hW s4), (below_cell hW s6), (below_cell hW hc0)⟩
      have HRW := Lib.hid hrow
      have HT2 : Hid (Toks S2 wr ta tn tp t) := HTT.out.below rTok_ok hbw
      have HBW := Lib.hid hbw
      have HBR2 := Lib.hid (hbw.mono (Nat.le_refl _))
      clear s0 s1 s2 s3 s4 s5 s6 s7 hrow hbw
      obtain ⟨i0, hi, hz0, hz1, hz2⟩ := info_parts Tryz.infoTk
      cases hen : ent1 j col with
      | some i =>
        cases ko with
        | some k =>
          rw [hen] at hc1
          dsimp only [toI] at hc1 ⊢
          have hil : i < nr := by rw [HRW.out.len, ← hrw]; exact HVC.out.2 j i hen
          obtain ⟨x, bxx, oxx, hxu, hxm, exx, -, hbxx, hxk, ⟨c0, c1, c2, c3, c4, c5⟩⟩ := HRW.out.tok hil
          subst exx
          have HCC : Hid (∀ W : World, Below wr.heap.size wr W → W.cell? ⟨bxx, oxx + i * 6, none⟩ = some (.string x.text) ∧ W.cell? ⟨bxx, oxx + i * 6 + 1, none⟩ = some (.string x.norm) ∧ W.cell? ⟨bxx, oxx + i * 6 + 2, none⟩ = some (.string x.page) ∧ W.cell? ⟨bxx, oxx + i * 6 + 3, none⟩ = some (.int .i64 x.line) ∧ W.cell? ⟨bxx, oxx + i * 6 + 4, none⟩ = some (.int .i64 x.flags) ∧ W.cell? ⟨bxx, oxx + i * 6 + 5, none⟩ = some (.string x.name)) := fun W hW => ⟨below_cell hW c0, below_cell hW c1, below_cell hW c2, below_cell hW c3, below_cell hW c4, below_cell hW c5⟩
          clear c0 c1 c2 c3 c4 c5
          have HTX : Hid (tkAt (srcAt l j) i = x) := by show _ = _; rw [hrw]; unfold tkAt; rw [hxu]; rfl
          have HXE : Hid (x.err = 0 ∧ x.ok) := ⟨HV.out.err row hm x hxm, hxk⟩
          clear hxu hxm hxk
          have hkt : k < tn := by rw [HTT.out.len]; exact HKO.out k rfl
          obtain ⟨y, byy, oyy, hyu, hym, eyy, -, hbyy, hyk, ⟨d0, d1, d2, d3, d4, d5⟩⟩ := HT2.out.tok hkt
          subst eyy
          have HDD : Hid (∀ W : World, Below wr.heap.size wr W → W.cell? ⟨byy, oyy + k * 6, none⟩ = some (.string y.text) ∧ W.cell? ⟨byy, oyy + k * 6 + 1, none⟩ = some (.string y.norm) ∧ W.cell? ⟨byy, oyy + k * 6 + 2, none⟩ = some (.string y.page) ∧ W.cell? ⟨byy, oyy + k * 6 + 3, none⟩ = some (.int .i64 y.line) ∧ W.cell? ⟨byy, oyy + k * 6 + 4, none⟩ = some (.int .i64 y.flags) ∧ W.cell? ⟨byy, oyy + k * 6 + 5, none⟩ = some (.string y.name)) := fun W hW => ⟨below_cell hW d0, below_cell hW d1, below_cell hW d2, below_cell hW d3, below_cell hW d4, below_cell hW d5⟩
          clear d0 d1 d2 d3 d4 d5
          have HTY : Hid (tkAt t k = y) := by show _ = _; unfold tkAt; rw [hyu]; rfl
          have HYE : Hid (y.err = 0 ∧ y.ok) := ⟨HTV.out y hym, hyk⟩
          clear hyu hym hyk
          go_upto_region 6 with (at_make; refine wpList_make_full wr rfl _ _ 37 rfl wr.heap.size 47 i0 (.agg #[.string ⟨#[]⟩, .string ⟨#[]⟩, .string ⟨#[]⟩, .int .i64 0, .int .i64 0, .string ⟨#[]⟩]) 6 Tryz.underlying37 hi hz0 hz1 .i64 .i64 2 2 2 rfl rfl rfl rfl (by rw [hz2]; omega) (by unfold maxLen; omega) (Nat.le_refl _) ?_; intro w1 hrw1 hg; have hG := made_two hrw1; have hb1 : Below wr.heap.size wr w1 := (Below.refl _ _).grown hg (Nat.le_refl _) (by simp); clear hrw1 hg)
          have hgl : wr.heap.size < w1.heap.size := (Array.getElem?_eq_some_iff.1 hG).1
          have bA : Below wr.heap.size wr (w1.alloc (.cells #[.bool true, .bool true] 4)) := hb1.alloc (Nat.le_of_lt hgl) _
          have gA : (w1.alloc (.cells #[.bool true, .bool true] 4)).heap[wr.heap.size]? = some (.cells (two12 tk0 tk0) 47 (0, 0)) := (Below.heap_alloc _ _ _ hgl).trans hG
          have kA : (w1.alloc (.cells #[.bool true, .bool true] 4)).heap[w1.heap.size]? = some (.cells #[.bool true, .bool true] 4 (0, 0)) := World.alloc_heap_new w1 _
          clear hG hb1
          generalize w1.alloc (.cells #[.bool true, .bool true] 4) = A at *
          obtain ⟨g2, hg2⟩ : ∃ g2, w1.heap.size = g2 := ⟨_, rfl⟩
          rw [hg2] at hgl kA ⊢
          clear hg2
          obtain ⟨g, hgg⟩ : ∃ g, wr.heap.size = g := ⟨_, rfl⟩
          rw [hgg] at hgl gA ⊢
          have tA : A.cell? ⟨g2, 0, none⟩ = some (.bool true) := by rw [Lib.cell_of_heap kA]; rfl
          have fA : ∀ j, A.frozen? ⟨g, j, none⟩ = false := fun j => Lib.frozen_of_heap gA j
          obtain ⟨p0, p1, p2, p3, p4, p5⟩ := two_lo gA
          obtain ⟨-, -, -, -, a4, -, a7⟩ := HF.out _ bA
          obtain ⟨c0, c1, c2, c3, c4, c5⟩ := HCC.out _ bA
          have HgA := Lib.hid gA
          have HkA := Lib.hid kA
          have HbA := Lib.hid bA
          clear gA kA bA
          go_upto_region 8 with fail
          have bB : Below wr.heap.size wr (((((((A).setCell ⟨g, 0, none⟩ (.string x.text)).setCell ⟨g, 1, none⟩ (.string x.norm)).setCell ⟨g, 2, none⟩ (.string x.page)).setCell ⟨g, 3, none⟩ (.int .i64 x.line)).setCell ⟨g, 4, none⟩ (.int .i64 x.flags)).setCell ⟨g, 5, none⟩ (.string x.name)) := put6_below HbA.out 0 (Nat.le_of_eq hgg) _ _ _ _ _ _
          have gB : (((((((A).setCell ⟨g, 0, none⟩ (.string x.text)).setCell ⟨g, 1, none⟩ (.string x.norm)).setCell ⟨g, 2, none⟩ (.string x.page)).setCell ⟨g, 3, none⟩ (.int .i64 x.line)).setCell ⟨g, 4, none⟩ (.int .i64 x.flags)).setCell ⟨g, 5, none⟩ (.string x.name)).heap[g]? = some (.cells (two12 x tk0) 47 (0, 0)) := putT_0 x HgA.out
          have kB : (((((((A).setCell ⟨g, 0, none⟩ (.string x.text)).setCell ⟨g, 1, none⟩ (.string x.norm)).setCell ⟨g, 2, none⟩ (.string x.page)).setCell ⟨g, 3, none⟩ (.int .i64 x.line)).setCell ⟨g, 4, none⟩ (.int .i64 x.flags)).setCell ⟨g, 5, none⟩ (.string x.name)).heap[g2]? = some (.cells #[.bool true, .bool true] 4 (0, 0)) := (put6_other 0 (by omega) _ _ _ _ _ _).trans HkA.out
          clear p0 p1 p2 p3 p4 p5 a4 a7 c0 c1 c2 c3 c4 c5 fA tA HgA HkA HbA
          generalize ((((((A).setCell ⟨g, 0, none⟩ (.string x.text)).setCell ⟨g, 1, none⟩ (.string x.norm)).setCell ⟨g, 2, none⟩ (.string x.page)).setCell ⟨g, 3, none⟩ (.int .i64 x.line)).setCell ⟨g, 4, none⟩ (.int .i64 x.flags)).setCell ⟨g, 5, none⟩ (.string x.name) = B at *
          have tB : B.cell? ⟨g2, 1, none⟩ = some (.bool true) := by rw [Lib.cell_of_heap kB]; rfl
          have fB : ∀ j, B.frozen? ⟨g, j, none⟩ = false := fun j => Lib.frozen_of_heap gB j
          obtain ⟨p0, p1, p2, p3, p4, p5⟩ := two_hi gB
          obtain ⟨-, -, -, -, -, b6, -⟩ := HF.out _ bB
          obtain ⟨d0, d1, d2, d3, d4, d5⟩ := HDD.out _ bB
          have HgB := Lib.hid gB
          have HkB := Lib.hid kB
          have HbB := Lib.hid bB
          clear gB kB bB
          go_upto_region 10 with fail
          have bC : Below wr.heap.size wr (((((((B).setCell ⟨g, 6, none⟩ (.string y.text)).setCell ⟨g, 7, none⟩ (.string y.norm)).setCell ⟨g, 8, none⟩ (.string y.page)).setCell ⟨g, 9, none⟩ (.int .i64 y.line)).setCell ⟨g, 10, none⟩ (.int .i64 y.flags)).setCell ⟨g, 11, none⟩ (.string y.name)) := put6_below HbB.out 6 (Nat.le_of_eq hgg) _ _ _ _ _ _
          have gC : (((((((B).setCell ⟨g, 6, none⟩ (.string y.text)).setCell ⟨g, 7, none⟩ (.string y.norm)).setCell ⟨g, 8, none⟩ (.string y.page)).setCell ⟨g, 9, none⟩ (.int .i64 y.line)).setCell ⟨g, 10, none⟩ (.int .i64 y.flags)).setCell ⟨g, 11, none⟩ (.string y.name)).heap[g]? = some (.cells (two12 x y) 47 (0, 0)) := putT_6 y HgB.out
          have kC : (((((((B).setCell ⟨g, 6, none⟩ (.string y.text)).setCell ⟨g, 7, none⟩ (.string y.norm)).setCell ⟨g, 8, none⟩ (.string y.page)).setCell ⟨g, 9, none⟩ (.int .i64 y.line)).setCell ⟨g, 10, none⟩ (.int .i64 y.flags)).setCell ⟨g, 11, none⟩ (.string y.name)).heap[g2]? = some (.cells #[.bool true, .bool true] 4 (0, 0)) := (put6_other 6 (by omega) _ _ _ _ _ _).trans HkB.out
          clear p0 p1 p2 p3 p4 p5 b6 d0 d1 d2 d3 d4 d5 fB tB HgB HkB HbB
          generalize ((((((B).setCell ⟨g, 6, none⟩ (.string y.text)).setCell ⟨g, 7, none⟩ (.string y.norm)).setCell ⟨g, 8, none⟩ (.string y.page)).setCell ⟨g, 9, none⟩ (.int .i64 y.line)).setCell ⟨g, 10, none⟩ (.int .i64 y.flags)).setCell ⟨g, 11, none⟩ (.string y.name) = C at *
          obtain ⟨e0, e1, e2, e3, -, -, -⟩ := HF.out _ bC
          have HT12 := toks_two gC HXE.out.2 HYE.out.2
          have HF12 := flgs_two kC
          have HCC2 := Lib.hid (HCO.out C (HBW.out.trans (bC.mono HBW.out.size)) _ _ _ _ _ _ _ _ HT12 HF12 (fun _ => HXE.out.1) (fun _ => HYE.out.1))
          have HbC := Lib.hid bC
          clear HT12 HF12 gC kC bC
          have hbt : coO ⟨cg, cn, cl, cm⟩ (if (true : Bool) = true then some x else none) (if (true : Bool) = true then some y else none) = besT ⟨cg, cn, cl, cm⟩ l t col (some k) j := by
            unfold besT; rw [hen]
            rw [← HTX.out]
            rw [← HTY.out]
            rfl
          have hVB : besT ⟨cg, cn, cl, cm⟩ l t col (some k) j ≤ 1000 := coO_le HOK.out _ _
          have hsm : sm ≤ 1000 * j := by rw [H1.out]; exact besF_le HOK.out _ _ _ _ _
          have hjb : j < 32 := by omega
          have HSU : Hid (sm + besT ⟨cg, cn, cl, cm⟩ l t col (some k) j = besF ⟨cg, cn, cl, cm⟩ l t col (some k) (j + 1)) := by show _ = _; rw [H1.out]; rfl
          rw [colF_two, hbt] at HCC2
          generalize besT ⟨cg, cn, cl, cm⟩ l t col (some k) j = V at *
          clear hbt HCO
          go_wp2_with (go_at_call 64; refine HCC2.out.mono ?_; rintro e5 w5 ⟨rfl, hb5⟩; have HB5 := Lib.hid (HbC.out.trans (hb5.mono HbC.out.size)); clear hb5 e0 e1 e2 e3)
          exact ⟨⟨j + 1, sm + V, by rw [Int.natCast_add], by rw [Int.natCast_add]; rfl, by omega, HSU.out, HBR.out.trans (HB5.out.mono HBR.out.size)⟩, by simp only [intOf]; omega⟩
        | none =>
          rw [hen] at hc1
          dsimp only [toI] at hc1 ⊢
          have hil : i < nr := by rw [HRW.out.len, ← hrw]; exact HVC.out.2 j i hen
          obtain ⟨x, bxx, oxx, hxu, hxm, exx, -, hbxx, hxk, ⟨c0, c1, c2, c3, c4, c5⟩⟩ := HRW.out.tok hil
          subst exx
          have HCC : Hid (∀ W : World, Below wr.heap.size wr W → W.cell? ⟨bxx, oxx + i * 6, none⟩ = some (.string x.text) ∧ W.cell? ⟨bxx, oxx + i * 6 + 1, none⟩ = some (.string x.norm) ∧ W.cell? ⟨bxx, oxx + i * 6 + 2, none⟩ = some (.string x.page) ∧ W.cell? ⟨bxx, oxx + i * 6 + 3, none⟩ = some (.int .i64 x.line) ∧ W.cell? ⟨bxx, oxx + i * 6 + 4, none⟩ = some (.int .i64 x.flags) ∧ W.cell? ⟨bxx, oxx + i * 6 + 5, none⟩ = some (.string x.name)) := fun W hW => ⟨below_cell hW c0, below_cell hW c1, below_cell hW c2, below_cell hW c3, below_cell hW c4, below_cell hW c5⟩
          clear c0 c1 c2 c3 c4 c5
          have HTX : Hid (tkAt (srcAt l j) i = x) := by show _ = _; rw [hrw]; unfold tkAt; rw [hxu]; rfl
          have HXE : Hid (x.err = 0 ∧ x.ok) := ⟨HV.out.err row hm x hxm, hxk⟩
          clear hxu hxm hxk
          go_upto_region 6 with (at_make; refine wpList_make_full wr rfl _ _ 37 rfl wr.heap.size 47 i0 (.agg #[.string ⟨#[]⟩, .string ⟨#[]⟩, .string ⟨#[]⟩, .int .i64 0, .int .i64 0, .string ⟨#[]⟩]) 6 Tryz.underlying37 hi hz0 hz1 .i64 .i64 2 2 2 rfl rfl rfl rfl (by rw [hz2]; omega) (by unfold maxLen; omega) (Nat.le_refl _) ?_; intro w1 hrw1 hg; have hG := made_two hrw1; have hb1 : Below wr.heap.size wr w1 := (Below.refl _ _).grown hg (Nat.le_refl _) (by simp); clear hrw1 hg)
          have hgl : wr.heap.size < w1.heap.size := (Array.getElem?_eq_some_iff.1 hG).1
          have bA : Below wr.heap.size wr (w1.alloc (.cells #[.bool true, .bool false] 4)) := hb1.alloc (Nat.le_of_lt hgl) _
          have gA : (w1.alloc (.cells #[.bool true, .bool false] 4)).heap[wr.heap.size]? = some (.cells (two12 tk0 tk0) 47 (0, 0)) := (Below.heap_alloc _ _ _ hgl).trans hG
          have kA : (w1.alloc (.cells #[.bool true, .bool false] 4)).heap[w1.heap.size]? = some (.cells #[.bool true, .bool false] 4 (0, 0)) := World.alloc_heap_new w1 _
          clear hG hb1
          generalize w1.alloc (.cells #[.bool true, .bool false] 4) = A at *
          obtain ⟨g2, hg2⟩ : ∃ g2, w1.heap.size = g2 := ⟨_, rfl⟩
          rw [hg2] at hgl kA ⊢
          clear hg2
          obtain ⟨g, hgg⟩ : ∃ g, wr.heap.size = g := ⟨_, rfl⟩
          rw [hgg] at hgl gA ⊢
          have tA : A.cell? ⟨g2, 0, none⟩ = some (.bool true) := by rw [Lib.cell_of_heap kA]; rfl
          have fA : ∀ j, A.frozen? ⟨g, j, none⟩ = false := fun j => Lib.frozen_of_heap gA j
          obtain ⟨p0, p1, p2, p3, p4, p5⟩ := two_lo gA
          obtain ⟨-, -, -, -, a4, -, a7⟩ := HF.out _ bA
          obtain ⟨c0, c1, c2, c3, c4, c5⟩ := HCC.out _ bA
          have HgA := Lib.hid gA
          have HkA := Lib.hid kA
          have HbA := Lib.hid bA
          clear gA kA bA
          go_upto_region 8 with fail
          have bB : Below wr.heap.size wr (((((((A).setCell ⟨g, 0, none⟩ (.string x.text)).setCell ⟨g, 1, none⟩ (.string x.norm)).setCell ⟨g, 2, none⟩ (.string x.page)).setCell ⟨g, 3, none⟩ (.int .i64 x.line)).setCell ⟨g, 4, none⟩ (.int .i64 x.flags)).setCell ⟨g, 5, none⟩ (.string x.name)) := put6_below HbA.out 0 (Nat.le_of_eq hgg) _ _ _ _ _ _
          have gB : (((((((A).setCell ⟨g, 0, none⟩ (.string x.text)).setCell ⟨g, 1, none⟩ (.string x.norm)).setCell ⟨g, 2, none⟩ (.string x.page)).setCell ⟨g, 3, none⟩ (.int .i64 x.line)).setCell ⟨g, 4, none⟩ (.int .i64 x.flags)).setCell ⟨g, 5, none⟩ (.string x.name)).heap[g]? = some (.cells (two12 x tk0) 47 (0, 0)) := putT_0 x HgA.out
          have kB : (((((((A).setCell ⟨g, 0, none⟩ (.string x.text)).setCell ⟨g, 1, none⟩ (.string x.norm)).setCell ⟨g, 2, none⟩ (.string x.page)).setCell ⟨g, 3, none⟩ (.int .i64 x.line)).setCell ⟨g, 4, none⟩ (.int .i64 x.flags)).setCell ⟨g, 5, none⟩ (.string x.name)).heap[g2]? = some (.cells #[.bool true, .bool false] 4 (0, 0)) := (put6_other 0 (by omega) _ _ _ _ _ _).trans HkA.out
          clear p0 p1 p2 p3 p4 p5 a4 a7 c0 c1 c2 c3 c4 c5 fA tA HgA HkA HbA
          generalize ((((((A).setCell ⟨g, 0, none⟩ (.string x.text)).setCell ⟨g, 1, none⟩ (.string x.norm)).setCell ⟨g, 2, none⟩ (.string x.page)).setCell ⟨g, 3, none⟩ (.int .i64 x.line)).setCell ⟨g, 4, none⟩ (.int .i64 x.flags)).setCell ⟨g, 5, none⟩ (.string x.name) = B at *
          have tB : B.cell? ⟨g2, 1, none⟩ = some (.bool false) := by rw [Lib.cell_of_heap kB]; rfl
          have HgB := Lib.hid gB
          have HkB := Lib.hid kB
          have HbB := Lib.hid bB
          clear gB kB bB
          go_upto_region 10 with fail
          have bC := HbB.out
          have gC := HgB.out
          have kC := HkB.out
          clear tB HgB HkB HbB
          generalize B = C at *
          obtain ⟨e0, e1, e2, e3, -, -, -⟩ := HF.out _ bC
          have HT12 := toks_two gC HXE.out.2 tk0_ok
          have HF12 := flgs_two kC
          have HCC2 := Lib.hid (HCO.out C (HBW.out.trans (bC.mono HBW.out.size)) _ _ _ _ _ _ _ _ HT12 HF12 (fun _ => HXE.out.1) (fun h => by cases h))
          have HbC := Lib.hid bC
          clear HT12 HF12 gC kC bC
          have hbt : coO ⟨cg, cn, cl, cm⟩ (if (true : Bool) = true then some x else none) (if (false : Bool) = true then some tk0 else none) = besT ⟨cg, cn, cl, cm⟩ l t col none j := by
            unfold besT; rw [hen]
            rw [← HTX.out]
            rfl
          have hVB : besT ⟨cg, cn, cl, cm⟩ l t col none j ≤ 1000 := coO_le HOK.out _ _
          have hsm : sm ≤ 1000 * j := by rw [H1.out]; exact besF_le HOK.out _ _ _ _ _
          have hjb : j < 32 := by omega
          have HSU : Hid (sm + besT ⟨cg, cn, cl, cm⟩ l t col none j = besF ⟨cg, cn, cl, cm⟩ l t col none (j + 1)) := by show _ = _; rw [H1.out]; rfl
          rw [colF_two, hbt] at HCC2
          generalize besT ⟨cg, cn, cl, cm⟩ l t col none j = V at *
          clear hbt HCO
          go_wp2_with (go_at_call 64; refine HCC2.out.mono ?_; rintro e5 w5 ⟨rfl, hb5⟩; have HB5 := Lib.hid (HbC.out.trans (hb5.mono HbC.out.size)); clear hb5 e0 e1 e2 e3)
          exact ⟨⟨j + 1, sm + V, by rw [Int.natCast_add], by rw [Int.natCast_add]; rfl, by omega, HSU.out, HBR.out.trans (HB5.out.mono HBR.out.size)⟩, by simp only [intOf]; omega⟩
      | none =>
        cases ko with
        | some k =>
          rw [hen] at hc1
          dsimp only [toI] at hc1 ⊢
          have hkt : k < tn := by rw [HTT.out.len]; exact HKO.out k rfl
          obtain ⟨y, byy, oyy, hyu, hym, eyy, -, hbyy, hyk, ⟨d0, d1, d2, d3, d4, d5⟩⟩ := HT2.out.tok hkt
          subst eyy
          have HDD : Hid (∀ W : World, Below wr.heap.size wr W → W.cell? ⟨byy, oyy + k * 6, none⟩ = some (.string y.text) ∧ W.cell? ⟨byy, oyy + k * 6 + 1, none⟩ = some (.string y.norm) ∧ W.cell? ⟨byy, oyy + k * 6 + 2, none⟩ = some (.string y.page) ∧ W.cell? ⟨byy, oyy + k * 6 + 3, none⟩ = some (.int .i64 y.line) ∧ W.cell? ⟨byy, oyy + k * 6 + 4, none⟩ = some (.int .i64 y.flags) ∧ W.cell? ⟨byy, oyy + k * 6 + 5, none⟩ = some (.string y.name)) := fun W hW => ⟨below_cell hW d0, below_cell hW d1, below_cell hW d2, below_cell hW d3, below_cell hW d4, below_cell hW d5⟩
          clear d0 d1 d2 d3 d4 d5
          have HTY : Hid (tkAt t k = y) := by show _ = _; unfold tkAt; rw [hyu]; rfl
          have HYE : Hid (y.err = 0 ∧ y.ok) := ⟨HTV.out y hym, hyk⟩
          clear hyu hym hyk
          go_upto_region 6 with (at_make; refine wpList_make_full wr rfl _ _ 37 rfl wr.heap.size 47 i0 (.agg #[.string ⟨#[]⟩, .string ⟨#[]⟩, .string ⟨#[]⟩, .int .i64 0, .int .i64 0, .string ⟨#[]⟩]) 6 Tryz.underlying37 hi hz0 hz1 .i64 .i64 2 2 2 rfl rfl rfl rfl (by rw [hz2]; omega) (by unfold maxLen; omega) (Nat.le_refl _) ?_; intro w1 hrw1 hg; have hG := made_two hrw1; have hb1 : Below wr.heap.size wr w1 := (Below.refl _ _).grown hg (Nat.le_refl _) (by simp); clear hrw1 hg)
          have hgl : wr.heap.size < w1.heap.size := (Array.getElem?_eq_some_iff.1 hG).1
          have bA : Below wr.heap.size wr (w1.alloc (.cells #[.bool false, .bool true] 4)) := hb1.alloc (Nat.le_of_lt hgl) _
          have gA : (w1.alloc (.cells #[.bool false, .bool true] 4)).heap[wr.heap.size]? = some (.cells (two12 tk0 tk0) 47 (0, 0)) := (Below.heap_alloc _ _ _ hgl).trans hG
          have kA : (w1.alloc (.cells #[.bool false, .bool true] 4)).heap[w1.heap.size]? = some (.cells #[.bool false, .bool true] 4 (0, 0)) := World.alloc_heap_new w1 _
          clear hG hb1
          generalize w1.alloc (.cells #[.bool false, .bool true] 4) = A at *
          obtain ⟨g2, hg2⟩ : ∃ g2, w1.heap.size = g2 := ⟨_, rfl⟩
          rw [hg2] at hgl kA ⊢
          clear hg2
          obtain ⟨g, hgg⟩ : ∃ g, wr.heap.size = g := ⟨_, rfl⟩
          rw [hgg] at hgl gA ⊢
          have tA : A.cell? ⟨g2, 0, none⟩ = some (.bool false) := by rw [Lib.cell_of_heap kA]; rfl
          have HgA := Lib.hid gA
          have HkA := Lib.hid kA
          have HbA := Lib.hid bA
          clear gA kA bA
          go_upto_region 8 with fail
          have bB := HbA.out
          have gB := HgA.out
          have kB := HkA.out
          clear tA HgA HkA HbA
          generalize A = B at *
          have tB : B.cell? ⟨g2, 1, none⟩ = some (.bool true) := by rw [Lib.cell_of_heap kB]; rfl
          have fB : ∀ j, B.frozen? ⟨g, j, none⟩ = false := fun j => Lib.frozen_of_heap gB j
          obtain ⟨p0, p1, p2, p3, p4, p5⟩ := two_hi gB
          obtain ⟨-, -, -, -, -, b6, -⟩ := HF.out _ bB
          obtain ⟨d0, d1, d2, d3, d4, d5⟩ := HDD.out _ bB
          have HgB := Lib.hid gB
          have HkB := Lib.hid kB
          have HbB := Lib.hid bB
          clear gB kB bB
          go_upto_region 10 with fail
          have bC : Below wr.heap.size wr (((((((B).setCell ⟨g, 6, none⟩ (.string y.text)).setCell ⟨g, 7, none⟩ (.string y.norm)).setCell ⟨g, 8, none⟩ (.string y.page)).setCell ⟨g, 9, none⟩ (.int .i64 y.line)).setCell ⟨g, 10, none⟩ (.int .i64 y.flags)).setCell ⟨g, 11, none⟩ (.string y.name)) := put6_below HbB.out 6 (Nat.le_of_eq hgg) _ _ _ _ _ _
          have gC : (((((((B).setCell ⟨g, 6, none⟩ (.string y.text)).setCell ⟨g, 7, none⟩ (.string y.norm)).setCell ⟨g, 8, none⟩ (.string y.page)).setCell ⟨g, 9, none⟩ (.int .i64 y.line)).setCell ⟨g, 10, none⟩ (.int .i64 y.flags)).setCell ⟨g, 11, none⟩ (.string y.name)).heap[g]? = some (.cells (two12 tk0 y) 47 (0, 0)) := putT_6 y HgB.out
          have kC : (((((((B).setCell ⟨g, 6, none⟩ (.string y.text)).setCell ⟨g, 7, none⟩ (.string y.norm)).setCell ⟨g, 8, none⟩ (.string y.page)).setCell ⟨g, 9, none⟩ (.int .i64 y.line)).setCell ⟨g, 10, none⟩ (.int .i64 y.flags)).setCell ⟨g, 11, none⟩ (.string y.name)).heap[g2]? = some (.cells #[.bool false, .bool true] 4 (0, 0)) := (put6_other 6 (by omega) _ _ _ _ _ _).trans HkB.out
          clear p0 p1 p2 p3 p4 p5 b6 d0 d1 d2 d3 d4 d5 fB tB HgB HkB HbB
          generalize ((((((B).setCell ⟨g, 6, none⟩ (.string y.text)).setCell ⟨g, 7, none⟩ (.string y.norm)).setCell ⟨g, 8, none⟩ (.string y.page)).setCell ⟨g, 9, none⟩ (.int .i64 y.line)).setCell ⟨g, 10, none⟩ (.int .i64 y.flags)).setCell ⟨g, 11, none⟩ (.string y.name) = C at *
          obtain ⟨e0, e1, e2, e3, -, -, -⟩ := HF.out _ bC
          have HT12 := toks_two gC tk0_ok HYE.out.2
          have HF12 := flgs_two kC
          have HCC2 := Lib.hid (HCO.out C (HBW.out.trans (bC.mono HBW.out.size)) _ _ _ _ _ _ _ _ HT12 HF12 (fun h => by cases h) (fun _ => HYE.out.1))
          have HbC := Lib.hid bC
          clear HT12 HF12 gC kC bC
          have hbt : coO ⟨cg, cn, cl, cm⟩ (if (false : Bool) = true then some tk0 else none) (if (true : Bool) = true then some y else none) = besT ⟨cg, cn, cl, cm⟩ l t col (some k) j := by
            unfold besT; rw [hen]
            rw [← HTY.out]
            rfl
          have hVB : besT ⟨cg, cn, cl, cm⟩ l t col (some k) j ≤ 1000 := coO_le HOK.out _ _
          have hsm : sm ≤ 1000 * j := by rw [H1.out]; exact besF_le HOK.out _ _ _ _ _
          have hjb : j < 32 := by omega
          have HSU : Hid (sm + besT ⟨cg, cn, cl, cm⟩ l t col (some k) j = besF ⟨cg, cn, cl, cm⟩ l t col (some k) (j + 1)) := by show _ = _; rw [H1.out]; rfl
          rw [colF_two, hbt] at HCC2
          generalize besT ⟨cg, cn, cl, cm⟩ l t col (some k) j = V at *
          clear hbt HCO
          go_wp2_with (go_at_call 64; refine HCC2.out.mono ?_; rintro e5 w5 ⟨rfl, hb5⟩; have HB5 := Lib.hid (HbC.out.trans (hb5.mono HbC.out.size)); clear hb5 e0 e1 e2 e3)
          exact ⟨⟨j + 1, sm + V, by rw [Int.natCast_add], by rw [Int.natCast_add]; rfl, by omega, HSU.out, HBR.out.trans (HB5.out.mono HBR.out.size)⟩, by simp only [intOf]; omega⟩
        | none =>
          rw [hen] at hc1
          dsimp only [toI] at hc1 ⊢
          go_upto_region 6 with (at_make; refine wpList_make_full wr rfl _ _ 37 rfl wr.heap.size 47 i0 (.agg #[.string ⟨#[]⟩, .string ⟨#[]⟩, .string ⟨#[]⟩, .int .i64 0, .int .i64 0, .string ⟨#[]⟩]) 6 Tryz.underlying37 hi hz0 hz1 .i64 .i64 2 2 2 rfl rfl rfl rfl (by rw [hz2]; omega) (by unfold maxLen; omega) (Nat.le_refl _) ?_; intro w1 hrw1 hg; have hG := made_two hrw1; have hb1 : Below wr.heap.size wr w1 := (Below.refl _ _).grown hg (Nat.le_refl _) (by simp); clear hrw1 hg)
          have hgl : wr.heap.size < w1.heap.size := (Array.getElem?_eq_some_iff.1 hG).1
          have bA : Below wr.heap.size wr (w1.alloc (.cells #[.bool false, .bool false] 4)) := hb1.alloc (Nat.le_of_lt hgl) _
          have gA : (w1.alloc (.cells #[.bool false, .bool false] 4)).heap[wr.heap.size]? = some (.cells (two12 tk0 tk0) 47 (0, 0)) := (Below.heap_alloc _ _ _ hgl).trans hG
          have kA : (w1.alloc (.cells #[.bool false, .bool false] 4)).heap[w1.heap.size]? = some (.cells #[.bool false, .bool false] 4 (0, 0)) := World.alloc_heap_new w1 _
          clear hG hb1
          generalize w1.alloc (.cells #[.bool false, .bool false] 4) = A at *
          obtain ⟨g2, hg2⟩ : ∃ g2, w1.heap.size = g2 := ⟨_, rfl⟩
          rw [hg2] at hgl kA ⊢
          clear hg2
          obtain ⟨g, hgg⟩ : ∃ g, wr.heap.size = g := ⟨_, rfl⟩
          rw [hgg] at hgl gA ⊢
          have tA : A.cell? ⟨g2, 0, none⟩ = some (.bool false) := by rw [Lib.cell_of_heap kA]; rfl
          have HgA := Lib.hid gA
          have HkA := Lib.hid kA
          have HbA := Lib.hid bA
          clear gA kA bA
          go_upto_region 8 with fail
          have bB := HbA.out
          have gB := HgA.out
          have kB := HkA.out
          clear tA HgA HkA HbA
          generalize A = B at *
          have tB : B.cell? ⟨g2, 1, none⟩ = some (.bool false) := by rw [Lib.cell_of_heap kB]; rfl
          have HgB := Lib.hid gB
          have HkB := Lib.hid kB
          have HbB := Lib.hid bB
          clear gB kB bB
          go_upto_region 10 with fail
          have bC := HbB.out
          have gC := HgB.out
          have kC := HkB.out
          clear tB HgB HkB HbB
          generalize B = C at *
          obtain ⟨e0, e1, e2, e3, -, -, -⟩ := HF.out _ bC
          have HT12 := toks_two gC tk0_ok tk0_ok
          have HF12 := flgs_two kC
          have HCC2 := Lib.hid (HCO.out C (HBW.out.trans (bC.mono HBW.out.size)) _ _ _ _ _ _ _ _ HT12 HF12 (fun h => by cases h) (fun h => by cases h))
          have HbC := Lib.hid bC
          clear HT12 HF12 gC kC bC
          have hbt : coO ⟨cg, cn, cl, cm⟩ (if (false : Bool) = true then some tk0 else none) (if (false : Bool) = true then some tk0 else none) = besT ⟨cg, cn, cl, cm⟩ l t col none j := by
            unfold besT; rw [hen]
            rfl
          have hVB : besT ⟨cg, cn, cl, cm⟩ l t col none j ≤ 1000 := coO_le HOK.out _ _
          have hsm : sm ≤ 1000 * j := by rw [H1.out]; exact besF_le HOK.out _ _ _ _ _
          have hjb : j < 32 := by omega
          have HSU : Hid (sm + besT ⟨cg, cn, cl, cm⟩ l t col none j = besF ⟨cg, cn, cl, cm⟩ l t col none (j + 1)) := by show _ = _; rw [H1.out]; rfl
          rw [colF_two, hbt] at HCC2
          generalize besT ⟨cg, cn, cl, cm⟩ l t col none j = V at *
          clear hbt HCO
          go_wp2_with (go_at_call 64; refine HCC2.out.mono ?_; rintro e5 w5 ⟨rfl, hb5⟩; have HB5 := Lib.hid (HbC.out.trans (hb5.mono HbC.out.size)); clear hb5 e0 e1 e2 e3)
          exact ⟨⟨j + 1, sm + V, by rw [Int.natCast_add], by rw [Int.natCast_add]; rfl, by omega, HSU.out, HBR.out.trans (HB5.out.mono HBR.out.size)⟩, by simp only [intOf]; omega⟩
    · have hjn : j = q := by omega
      have HJ := Lib.hid hjn
      clear hjn HCO
      have HRE : Hid (sm = besF ⟨cg, cn, cl, cm⟩ l t col ko l.length) := by rw [← HQL.out, ← HJ.out]; exact H1.out
      go_wp2_with fail
      go_ret
      exact ⟨by rw [HRE.out]; rfl, hbw⟩
end Go.Proofs.YtaelfjlmkgimhaaGreatDoor

namespace Go.Proofs.YtaelfjlmkgimhaaGreatDoor
open Go.RowKit

theorem mul_one_small (n : Nat) (hn : n ≤ 4096) (w : World) : Calls Tryz.prog 72 #[.int .u64 1, .int .u64 (n : Int)] w fun e w' => e = .returned (.tuple #[.int .u64 0, .int .u64 (n : Int)]) ∧ w' = w := by
  have := Tryz.bits_Mul 1 n (by omega) (by omega) w
  rw [Nat.one_mul, Nat.div_eq_of_lt (by omega), Nat.mod_eq_of_lt (by omega)] at this
  exact this
/-- k times x, then 0. -/
def repL (x : Int) (n k : Nat) : List Value := List.replicate k (.int .i64 x) ++ List.replicate (n - k) (.int .i64 0)
theorem repL_length {x : Int} {n k : Nat} (hk : k ≤ n) : (repL x n k).length = n := by simp [repL]; omega
theorem repL_at {x : Int} {n k j : Nat} (hj : j < k) : (repL x n k)[j]? = some (.int .i64 x) := by
  rw [repL, List.getElem?_append_left (by simpa using hj)]; simp [hj]
theorem repL_splice {x : Int} {n k m : Nat} : splice (repL x n k) k (List.replicate m (.int .i64 x)) = repL x n (k + m) := by
  unfold splice repL
  rw [List.take_left' (by simp), List.length_replicate, show k + m = (List.replicate k (Value.int .i64 x)).length + m by simp, List.drop_length_add_append]
  simp only [List.drop_replicate, List.length_replicate]
  rw [← List.append_assoc, List.replicate_append_replicate]
  congr 2; omega
theorem cell_whole {w : World} {g j : Nat} {l : List Value} {t : TypeId} (h : w.heap[g]? = some (.cells l.toArray t (0, 0))) : w.cell? ⟨g, j, none⟩ = l[j]? := by
  simp [World.cell?, h]
theorem OwnI.whole {w : World} {B g n : Nat} {x : Int} (h : w.heap[g]? = some (.cells (repL x n n).toArray 3 (0, 0))) (hB : B ≤ g) (hn : n ≤ 1000000) : OwnI w B (some ⟨g, 0, none⟩) n n (List.replicate n x) := by
  refine ⟨by simp, by simp, .inr ⟨g, n, _, rfl, hB, h, Nat.le_refl _, by unfold maxLen; omega, by simp [repL], ?_⟩⟩
  simp [repL]

theorem made_whole {w : World} {g n : Nat} (x : Int) (hrow : w.ownsRow g 3 1 (.slice (some ⟨g, 0, none⟩) n n) n (madeCells (Value.int .i64 0).cells (n * 1)).toList) : w.heap[g]? = some (.cells (repL x n 0).toArray 3 (0, 0)) := by
  rcases hrow.2 with ⟨hv, _⟩ | ⟨g, cap, cur, hv, _, hgc, _, _, hs, ht⟩
  · cases hv
  · cases hv
    have e : cur = (repL x n 0).toArray := by
      apply Array.ext'
      have e2 : (madeCells (Value.int .i64 0).cells (n * 1)).toList = List.replicate n (Value.int .i64 0) := by
        rw [Nat.mul_one]; exact toList_madeCells_one _ _
      rw [e2] at ht
      rw [← List.take_of_length_le (l := cur.toList) (i := n * 1) (by simp [hs]), ht]
      simp [repL]
    rw [← e]; exact hgc
theorem splice_one {n : Nat} (x : Int) : splice (repL x n 0) 0 [.int .i64 x] = repL x n 1 := by
  have := repL_splice (x := x) (n := n) (k := 0) (m := 1)
  simpa using this
/-- What the first copy asks. -/
theorem copy_one {w : World} {b g n : Nat} {x : Int} (h1 : 1 ≤ n) (hx : w.cell? ⟨b, 0, none⟩ = some (.int .i64 x)) : [Value.int .i64 x].length = Nat.min 1 n ∧
    (0 < [Value.int .i64 x].length → some (⟨g, 0, none⟩ : Addr) = some ⟨g, 0, none⟩ ∧ ∃ ad, some (⟨b, 0, none⟩ : Addr) = some ad ∧ ∀ j v, [Value.int .i64 x][j]? = some v → w.cell? (ad.add j) = some v) ∧
    0 + [Value.int .i64 x].length ≤ (repL x n 0).length ∧ ∀ v ∈ [Value.int .i64 x], v.oneCell' = true := by
  refine ⟨(Nat.min_eq_left h1).symm, fun _ => ⟨rfl, _, rfl, fun j v hv => ?_⟩, by rw [repL_length (Nat.zero_le _)]; simp; omega, by simp [Value.oneCell']⟩
  match j, hv with
  | 0, hv => simp at hv; subst hv; exact hx
/-- What the others ask. -/
theorem copy_more {w : World} {g n k m : Nat} {x : Int} (hm : m = min k (n - k)) (hk : k < n) (hg : w.heap[g]? = some (.cells (repL x n k).toArray 3 (0, 0))) : (List.replicate m (Value.int .i64 x)).length = Nat.min k (n - k) ∧
    (∀ j v, (List.replicate m (Value.int .i64 x))[j]? = some v → w.cell? ((⟨g, 0, none⟩ : Addr).add j) = some v) ∧
    k + (List.replicate m (Value.int .i64 x)).length ≤ (repL x n k).length ∧ ∀ v ∈ List.replicate m (Value.int .i64 x), v.oneCell' = true := by
  refine ⟨by rw [List.length_replicate, hm], fun j v hv => ?_, by rw [repL_length (by omega), List.length_replicate]; omega, fun v hv => by rw [(List.mem_replicate.1 hv).2]; rfl⟩
  rw [List.getElem?_replicate] at hv
  split at hv
  · rename_i hj
    cases hv
    rw [Addr.add_lit, Nat.zero_add, cell_whole hg, repL_at (by omega)]
  · cases hv

set_option maxRecDepth 100000 in
set_option maxHeartbeats 1000000 in
theorem repeat_any (n b : Nat) (x : Int) (w : World) (h1 : 1 ≤ n) (hn : n ≤ 4096) (hx : w.cell? ⟨b, 0, none⟩ = some (.int .i64 x)) :
    Calls Tryz.prog 51 #[.slice (some ⟨b, 0, none⟩) 1 1, .int .i64 (n : Int)] w fun e w' => e = .returned (.slice (some ⟨w.heap.size, 0, none⟩) n n) ∧ OwnI w' w.heap.size (some ⟨w.heap.size, 0, none⟩) n n (List.replicate n x) ∧ Below w.heap.size w w' := by
  obtain ⟨i0, hi, hz0, hz1, hz2⟩ := info_parts Tryz.infoInt
  have F := Lib.hid (mul_one_small n hn w)
  have HSZ : Hid ((Tryz.prog.info? 3).map (·.size) = some 1) := by show _ = _; rw [hi]; simp [hz1]
  have HX := Lib.hid hx
  have HSP := Lib.hid (splice_one (n := n) x)
  clear hx
  go_enter Tryz.func51, Tryz.ntmps51
  go_wp2_with (first | (go_at_call 72; refine F.out.mono ?_; rintro e w1 ⟨rfl, rfl⟩) | (at_make; refine wpList_make_full _ rfl _ _ 27 rfl w1.heap.size 3 i0 (.int .i64 0) 1 Tryz.underlying27 hi hz0 hz1 .i64 .i64 n n n rfl rfl rfl rfl (by rw [hz2]; omega) (by unfold maxLen; omega) (Nat.le_refl _) ?_; intro w2 hrow hg; have HW2 := Lib.hid (made_whole x hrow); have hB2 : Below w1.heap.size w1 w2 := (Below.refl _ w1).grown hg (Nat.le_refl _) (by simp); have HC := Lib.hid (copy_one (g := w1.heap.size) h1 (cell_later hB2 HX.out)); clear hrow hg) | (refine wpList_copy_splice rfl (.tmp 31) (.tmp 32) 27 27 rfl 3 Tryz.underlying27 HSZ.out (some ⟨w1.heap.size, 0, none⟩) (some ⟨b, 0, none⟩) n n 1 1 rfl rfl w1.heap.size 0 (repL x n 0) 3 HW2.out [.int .i64 x] HC.out.1 HC.out.2.1 HC.out.2.2.1 HC.out.2.2.2 w1.heap.size w1 hB2 (Nat.le_refl _) ?_; intro w3 h3 b3))
  rw [HSP.out] at h3
  clear HW2 hB2 HC
  go_loopw [8] (fun i wr => ∃ k : Nat, 1 ≤ k ∧ k ≤ n ∧ i = .int .i64 k ∧ Hid (wr.heap[w1.heap.size]? = some (.cells (repL x n k).toArray 3 (0, 0))) ∧ Below w1.heap.size w1 wr) (fun i _ => n - (intOf i).toNat)
  case atStart => exact ⟨1, Nat.le_refl _, h1, rfl, h3, b3⟩
  case round =>
    clear h3 b3 w2 w3
    obtain ⟨k, hk1, hkn, rfl, hw, hB⟩ := hrel
    by_cases hlt : k < n
    · go_wp2
      have hnk : ¬ n = k := by omega
      obtain ⟨X, Wf, hX, -, hS2⟩ := family (fun _ => True) wr trivial
      refine wp_region_reads (Wf := Wf) 8 [0, 1, 2, 3, 4, 5, 6] [7] (by kernel_rfl) (by kernel_rfl) (fun _ _ d _ _ h => by cases d <;> exact h) (hS2 _ trivial) ?_
      simp only [pickOps, List.filterMap_cons, List.filterMap_nil, List.getElem?_cons_zero, List.getElem?_cons_succ]
      repeat (refine wpReads_step (fun K hK => ?_); unfold rOp; go_simp; (refine hK _ ?_; clear hK K))
      refine wpReads_nil (wpActs_cons ?_)
      have hwq : Hid (wr.drew.heap[w1.heap.size]? = some (.cells (repL x n k).toArray 3 (0, 0))) := hw.out
      obtain ⟨m, hm⟩ : ∃ m, m = min k (n - k) := ⟨_, rfl⟩
      have hm1 : 0 < m := by omega
      have hm2 : k + m ≤ n := by omega
      have HC := Lib.hid (copy_more hm hlt hwq.out)
      have HS2 := Lib.hid (repL_splice (x := x) (n := n) (k := k) (m := m))
      have HL : Hid (((List.replicate m (Value.int .i64 x)).length : Int) = (m : Int)) := by show _ = _; simp
      clear hm
      have hBq := hB.drew
      go_wp2_with (refine wpList_copy_splice rfl (.tmp 41) (.tmp 44) 27 27 rfl 3 Tryz.underlying27 HSZ.out (some ⟨w1.heap.size, k, none⟩) (some ⟨w1.heap.size, 0, none⟩) (n - k) (n - k) k n rfl rfl w1.heap.size k (repL x n k) 3 hwq.out (List.replicate m (.int .i64 x)) HC.out.1 (fun _ => ⟨rfl, _, rfl, HC.out.2.1⟩) HC.out.2.2.1 HC.out.2.2.2 w1.heap.size w1 hBq (Nat.le_refl _) ?_; intro w3 h3 b3; rw [HS2.out] at h3)
      refine ⟨hS2 _ trivial, wpActs_nil ?_⟩
      go_wp2
      go_roundw
      case rel => exact ⟨k + m, by omega, by omega, by go_num, h3.out, b3⟩
      case measure => simp [intOf]; omega
    · obtain rfl : n = k := by omega
      go_wp2
      go_ret
      exact ⟨rfl, OwnI.whole hw.out (Nat.le_refl _) (by omega), hB⟩
set_option maxRecDepth 100000 in
set_option maxHeartbeats 1000000 in
theorem repeat0_any (n b : Nat) (x : Int) (w : World) (h0 : n = 0) (hx : w.cell? ⟨b, 0, none⟩ = some (.int .i64 x)) :
    Calls Tryz.prog 51 #[.slice (some ⟨b, 0, none⟩) 1 1, .int .i64 (n : Int)] w fun e w' => e = .returned (.slice (some ⟨w.heap.size, 0, none⟩) n n) ∧ Below w.heap.size w w' := by
  obtain ⟨i0, hi, hz0, hz1, hz2⟩ := info_parts Tryz.infoInt
  have F := Lib.hid (mul_one_small n (by omega) w)
  have HSZ : Hid ((Tryz.prog.info? 3).map (·.size) = some 1) := by show _ = _; rw [hi]; simp [hz1]
  have HX := Lib.hid hx
  have HN := Lib.hid h0
  have hn : n ≤ 0 := by omega
  clear hx h0
  go_enter Tryz.func51, Tryz.ntmps51
  go_wp2_with (first | (go_at_call 72; refine F.out.mono ?_; rintro e w1 ⟨rfl, rfl⟩) | (at_make; refine wpList_make_full _ rfl _ _ 27 rfl w1.heap.size 3 i0 (.int .i64 0) 1 Tryz.underlying27 hi hz0 hz1 .i64 .i64 n n n rfl rfl rfl rfl (by rw [hz2]; omega) (by unfold maxLen; omega) (Nat.le_refl _) ?_; intro w2 hrow hg; have HW2 := Lib.hid (made_whole x hrow); have hB2 : Below w1.heap.size w1 w2 := (Below.refl _ w1).grown hg (Nat.le_refl _) (by simp); clear hrow hg) | (refine wpList_copy_splice rfl (.tmp 31) (.tmp 32) 27 27 rfl 3 Tryz.underlying27 HSZ.out (some ⟨w1.heap.size, 0, none⟩) (some ⟨b, 0, none⟩) n n 1 1 rfl rfl w1.heap.size 0 (repL x n 0) 3 HW2.out [] (by rw [HN.out]; rfl) (fun h => by cases h) (by simp) (fun _ h => by cases h) w1.heap.size w1 hB2 (Nat.le_refl _) ?_; intro w3 h3 b3; have HB3 := Lib.hid b3; clear b3 h3 HW2 hB2))
  go_loopw [8] (fun i wr => ∃ k : Nat, i = .int .i64 k ∧ n ≤ k ∧ Below w1.heap.size w1 wr) (fun i _ => 0)
  case atStart => exact ⟨0, rfl, by omega, HB3.out⟩
  case round =>
    clear HB3 w3
    obtain ⟨k, rfl, hk1, hB⟩ := hrel
    go_wp2
    go_ret
    exact ⟨rfl, hB⟩
theorem rep_any (n b : Nat) (w : World) (hn : n ≤ 4096) (hx : w.cell? ⟨b, 0, none⟩ = some (.int .i64 (-1))) :
    Calls Tryz.prog 51 #[.slice (some ⟨b, 0, none⟩) 1 1, .int .i64 (n : Int)] w fun e w' => e = .returned (.slice (some ⟨w.heap.size, 0, none⟩) n n) ∧ Nums (fun _ => True) w' (some ⟨w.heap.size, 0, none⟩) n n (colI (List.replicate n none)) ∧ Below w.heap.size w w' := by
  have e1 : colI (List.replicate n none) = List.replicate n (-1) := by simp [colI, toI]
  rw [e1]
  rcases Nat.eq_zero_or_pos n with h0 | h0
  · refine (repeat0_any n b (-1) w h0 hx).mono ?_
    rintro e w' ⟨rfl, hb⟩
    exact ⟨rfl, by subst h0; exact ⟨rfl, Nat.le_refl _, by omega, fun j x h => by simp at h⟩, hb⟩
  · refine (repeat_any n b (-1) w h0 hn hx).mono ?_
    rintro e w' ⟨rfl, ho, hb⟩
    have e : ∀ L : List Int, L.flatMap encI = L.map (Value.int .i64) := fun L => by
      induction L with
      | nil => rfl
      | cons a r ih => rw [List.flatMap_cons, ih]; rfl
    have hq : OwnQ 3 1 encI w' w.heap.size (some ⟨w.heap.size, 0, none⟩) n n (List.replicate n (-1)) := ⟨ho.1, by rw [e]; exact ho.2⟩
    exact ⟨rfl, hq.sq (R := rInt) (fun _ => rfl) (by omega) (fun _ _ => trivial) (fun x hx => by rw [(List.mem_replicate.1 hx).2]; exact ⟨rfl, by decide, by decide⟩), hb⟩
end Go.Proofs.YtaelfjlmkgimhaaGreatDoor

set_option linter.unusedVariables false
set_option linter.unusedSimpArgs false
namespace Go.Proofs.YtaelfjlmkgimhaaGreatDoor
open Go

section
variable {P : Program} {ops : Array Oper} {md : Region.Mode} {X : Type} {Wf : X → World} {Q : Exit → Act → World → Prop}
/-- No panic. -/
def onlyOn : Exit → Act → World → Prop := fun _ _ _ => False
theorem wpInW_of {n : Nat} {o : Oper} {K K' : Act → World → Prop} {a : Act} {w : World} (hK : ∀ a w, K a w → K' a w)
    (h : o.wp P a w K onlyOn) : o.wpIn Fence.wide n P a w K' Q := by
  unfold Oper.wp at h
  unfold Oper.wpIn
  refine ⟨fun _ _ => trivial, ?_⟩
  rw [show Fence.wide.round = none from rfl, Oper.semAt_none]
  generalize (execOp a.eval o).run P w = r at *
  cases r with
  | ok x w' =>
    cases x <;> simp only [Oper.upon] at h <;> simp only [Oper.uponIn]
    case value v => exact hK _ _ h
    case skip => exact hK _ _ h
    case defer d => exact hK _ _ h
    case enter f args =>
      refine ⟨(fun h => by cases h), callsIn_wide.2 (h.mono fun e w'' he => ?_)⟩
      cases e with
      | returned v => exact hK _ _ he
      | panicked c => exact he.elim
      | outgrown => exact (he.elim fun _ h => h.elim fun _ h => h.elim)
    case row row args => exact ⟨(fun h => by cases h), (RowsIn.mono (rowsIn_wide h) fun v w'' he => hK _ _ he : RowsIn Fence.wide (n - 1) P row args w' _)⟩
  | halt x w' => cases x <;> simp only [Oper.upon] at h <;> first | exact h.elim | (simp only [Oper.uponIn]; exact h.elim)
theorem wpOpInW_of {n i : Nat} {K K' : Act → World → Prop} {a : Act} {w : World} (hK : ∀ a w, K a w → K' a w)
    (h : wpOp P ops onlyOn i K a w) : wpOpIn Fence.wide n P ops Q i K' a w := by
  unfold wpOp at h
  unfold wpOpIn
  cases ho : ops[i]? with
  | none => rw [ho] at h; exact hK _ _ h
  | some o =>
    rw [ho] at h
    simp only at h ⊢
    split
    · rename_i hw
      rw [if_pos hw] at h
      rcases h with h | ⟨_, h2⟩
      · exact wpInW_of hK h
      · exact (h2.elim fun _ h => h.elim fun _ h => h.elim)
    · rename_i hw
      rw [if_neg hw] at h
      exact ⟨fun _ _ => trivial, hK _ _ h⟩
theorem headH_soundW {m n g : Nat} {L : Array Bool → Act → World → Prop} (hL : ∀ done a w, L done a w → wpAnyIn Fence.wide m P md ops Q g done a w) :
    ∀ f done a w, headH P md ops onlyOn Wf n L f done a w → wpAnyIn Fence.wide m P md ops Q (f + g) done a w := by
  intro f
  induction f with
  | zero => intro done a w h; rw [Nat.zero_add]; exact hL _ _ _ h
  | succ f ih =>
    intro done a w h
    rw [show f + 1 + g = (f + g) + 1 by omega]
    exact ⟨fun h0 => absurd h0 h.1, fun i hi => wpOpInW_of (fun a' w' h' => ih _ a' w' h'.2) (h.2 i hi).2⟩
theorem wpAnyIn_of_seq {F : Fence} {m : Nat} : ∀ (l : List Oper) (k : Nat) (listed : Array Bool) (a : Act) (w : World), (∀ j, l[j]? = ops[k + j]?) →
    Region.seqB md ops l.length k listed = true → wpListIn F m P ops Q l a w → wpAnyIn F m P md ops Q l.length listed a w
  | [], _, _, _, _, _, hB, h => ⟨by simpa [Region.seqB] using hB, h⟩
  | o :: l, k, listed, a, w, hl, hB, h => by
    have h0 : ops[k]? = some o := by simpa using (hl 0).symm
    simp only [List.length_cons, Region.seqB, Bool.and_eq_true, decide_eq_true_eq] at hB
    refine ⟨fun h1 => (by rw [hB.1] at h1; cases h1), fun i hi => ?_⟩
    rw [hB.1] at hi
    have hik : i = k := by simpa using hi
    subst hik
    have hw : wpOpIn F m P ops Q i (wpListIn F m P ops Q l) a w := by unfold wpOpIn; simp only [h0]; exact h
    exact wpOpIn_mono (fun a' w' h' => wpAnyIn_of_seq l (i + 1) _ a' w' (fun j => by have := hl (j + 1); simpa [Nat.add_assoc, Nat.add_comm 1 j] using this) hB.2 h') hw
theorem wpAnyIn_treA {m : Nat} {a : Act} {w : World} {l : List Oper} (n : Nat) (t : TreA) (hB : treAFormB l n t = true) (hS : ∃ x, w = Wf x)
    (h : wpTreA P l onlyOn Wf (wpListIn Fence.wide m P l.toArray Q (l.drop n)) t a w) :
    wpAnyIn Fence.wide m P .any l.toArray Q l.toArray.size (Array.replicate l.toArray.size false) a w := by
  simp only [treAFormB, Bool.and_eq_true, decide_eq_true_eq] at hB
  obtain ⟨⟨⟨⟨⟨hsel, hn⟩, hs⟩, hc⟩, hlen⟩, hr⟩ := hB
  have inv0 : HeadInv .any l.toArray n (Array.replicate l.length false) :=
    ⟨by simp, fun j oj _ hl => (by rw [getD_replicate_false] at hl; cases hl), fun t _ ht => getD_in (by simpa using ht) (getD_replicate_false _ _)⟩
  have H := (headH_treA (P := P) (Q := onlyOn) (Wf := Wf) (g := l.length - n) (T := wpListIn Fence.wide m P l.toArray Q (l.drop n)) rfl hsel hs hc (by simpa using hn) (fun _ _ _ _ _ h => h) t [] (Array.replicate l.length false) a w inv0 hr hS h).1 rfl
  have K := headH_soundW (Q := Q) (m := m) (g := l.length - n) (fun done a' w' hL => by
    have := wpAnyIn_of_seq (F := Fence.wide) (m := m) (P := P) (md := .any) (Q := Q) (l.drop n) n done a' w' (fun j => by simp [List.getElem?_drop]) (by simpa using hL.1) hL.2
    simpa using this) _ _ _ _ H
  rw [hlen, show n + (l.length - n) = l.length by omega] at K
  simpa using K
/-- The law. -/
theorem wpIn_region_treA {m id : Nat} {a : Act} {w : World} {l : List Oper} (n : Nat) (t : TreA) (hm : P.follows .mixedOrders = true) (hB : treAFormB l n t = true) (hS : ∃ x, w.drew = Wf x)
    (h : wpTreA P l onlyOn Wf (wpListIn Fence.wide m P l.toArray Q (l.drop n)) t a w.drew) : (Code.region id l.toArray true).wpIn Fence.wide m P Q a w :=
  wpIn_region_any hm (wpAnyIn_treA n t hB hS h)
end
end Go.Proofs.YtaelfjlmkgimhaaGreatDoor

set_option linter.unusedVariables false
set_option linter.unusedSimpArgs false
namespace Go.Proofs.YtaelfjlmkgimhaaGreatDoor
open Go.RowKit Go.Shelf
attribute [local go_sem] Oper.semAt_some

abbrev S3 := Nat × Nat × Nat
def cmAt (cols : List Cm) (i : Nat) : Cm := (cols[i]?).getD []
def stL (c : Cst) (l : List (List Tok)) (t : List Tok) (cols : List Cm) (i k : Nat) : List S3 :=
  (if i < cols.length then (if k < t.length then [(1, 1, besF c l t (cmAt cols i) (some k) l.length)] else []) ++ [(1, 0, besF c l t (cmAt cols i) none l.length)] else []) ++
  (if k < t.length then [(0, 1, besF c l t (List.replicate l.length none) (some k) l.length)] else [])
abbrev Stp (L : List S3) := { x : S3 // x ∈ L }
abbrev stEnc {L : List S3} (x : Stp L) : Array Value := #[.agg #[.int .i64 (x.1.1 : Int), .int .i64 (x.1.2.1 : Int), .int .i64 (x.1.2.2 : Int)]]
theorem stp_at {L : List S3} {p : Nat} {x : S3} (h : L[p]? = some x) : ∃ y : Stp L, L.attach[p]? = some y ∧ y.1 = x := by
  obtain ⟨hn, e⟩ := List.getElem?_eq_some_iff.1 h
  exact ⟨⟨L[p], List.getElem_mem hn⟩, by simp [hn], e⟩
theorem aby_below {β : Type} {B : Nat} {J : β → World → Prop} (h : AbidesFrom B J) {s : β} {W W' : World} (hJ : J s W) (hb : Below W.heap.size W W') : J s W' :=
  h s W W' none hJ ⟨hb.os, hb.tape, hb.output, hb.size, fun k hk _ => hb.block k hk⟩ (fun r e => by cases e)
/-- What an adder is built of. -/
structure RdA (S : Nat → Prop) (w : World) (c : Cst) (v : AV) (l : List (List Tok)) (t : List Tok) (cols : List Cm) : Prop where
  hl : Tokss S w v.la v.ln v.lp l
  ht : Toks S w v.ta v.tn v.tp t
  hx : Numss S w v.xa v.xn v.xp (cols.map colI)
theorem RdA.keep {S : Nat → Prop} {w w' : World} {c : Cst} {v : AV} {l : List (List Tok)} {t : List Tok} {cols : List Cm} (h : RdA S w c v l t cols) (k : KeepS S w w') : RdA S w' c v l t cols :=
  ⟨h.hl.keep (rSl_ok rTok_ok) k, h.ht.keep rTok_ok k, h.hx.keep (rSl_ok rInt_ok) k⟩
structure VdA (c : Cst) (l : List (List Tok)) (t : List Tok) (cols : List Cm) : Prop where
  vl : VdL l
  vt : ∀ x ∈ t, x.err = 0
  vc : ∀ col ∈ cols, VCol l col
  ok : c.ok
theorem nocol_ok (l : List (List Tok)) : VCol l (List.replicate l.length none) := ⟨by simp, fun s i h => by
  unfold ent1 at h
  rw [List.getElem?_replicate] at h
  split at h <;> simp at h⟩
set_option maxRecDepth 100000 in
set_option maxHeartbeats 4000000 in
theorem stp_stops (mm : Nat) (S : Nat → Prop) (c : Cst) (v : AV) (l : List (List Tok)) (t : List Tok) (cols : List Cm) (bi ba bk i k : Nat) (w : World) (hR : RdA S w c v l t cols) (hv : VdA c l t cols) (h1 : w.heap[bi]? = some (.cells #[.int .i64 (i : Int)] 3 (0, 0))) (h2 : w.heap[ba]? = some (.cells (v.arr c) 83 (0, 0))) (h3 : w.heap[bk]? = some (.cells #[.int .i64 (k : Int)] 3 (0, 0)))
    (hS1 : S bi) (hS2 : S ba) (hS3 : S bk) (hKE : ∀ B, KeepS S w B → Env B) :
    SeqStopsK Fence.wide mm Tryz.prog 70 #[.pointer (some ⟨bi, 0, none⟩), .pointer (some ⟨ba, 0, none⟩), .pointer (some ⟨bk, 0, none⟩)] (stEnc (L := stL c l t cols i k)) (KeepS S) (fun ys => ys = (stL c l t cols i k).attach) (fun pre => pre <+: (stL c l t cols i k).attach) (stL c l t cols i k).attach.length w := fun lo J Jx W0 hW hJ _ hY h0 => by
  have HF : Hid (∀ V, KeepS S W0 V → V.cell? ⟨bi, 0, none⟩ = some (.int .i64 (i : Int)) ∧ V.cell? ⟨bk, 0, none⟩ = some (.int .i64 (k : Int)) ∧ V.heap[ba]? = some (.cells (v.arr c) 83 (0, 0)) ∧ RdA S V c v l t cols ∧ Env V) := fun V hV => by
    have hk : KeepS S w V := (KeepS.below hW).trans hV
    exact ⟨(one_box (hk.2 _ _ _ _ hS1 h1)).1, (one_box (hk.2 _ _ _ _ hS3 h3)).1, hk.2 _ _ _ _ hS2 h2, hR.keep hk, hKE _ hk⟩
  have HBE : Hid (∀ V, KeepS S W0 V → ∀ (col : Cm) (ko : Option Nat) (xa : Option Addr) (q xc : Nat) (S3 : Nat → Prop), Nums S3 V xa q xc (colI col) → VCol l col → (∀ k, ko = some k → k < t.length) →
      Calls Tryz.prog 71 #[v.val c, .slice xa q xc, .int .i64 (toI ko)] V fun e w' => e = .returned (.int .i64 (besF c l t col ko l.length : Nat)) ∧ Below V.heap.size V w') := fun V hV col ko xa q xc S3 hx hvc hko =>
    beside_any S S S3 c v l t col ko xa q xc V (HF.out V hV).2.2.2.1.hl (HF.out V hV).2.2.2.1.ht hx hvc hko hv.vl hv.vt hv.ok (HF.out V hV).2.2.2.2
  have HVC : Hid (∀ col ∈ cols, VCol l col) := hv.vc
  have hln := hR.hl.len
  have htn := hR.ht.len
  have hxn := hR.hx.len
  rw [List.length_map] at hxn
  have hlb := hv.vl.n
  have htb := hR.ht.bound
  have hxb := hR.hx.bound
  have HY := Lib.hid hY
  have HJ := Lib.hid hJ
  have HJ0 : Hid (J [] W0) := h0
  have HXN : Hid (v.xn = cols.length) := hxn
  have HTN : Hid (v.tn = t.length) := htn
  have HLN : Hid (v.ln = l.length) := hln
  clear hxn htn hln
  clear hY hJ h0 hR hv h1 h2 h3 hKE hW hS1 hS2 hS3
  obtain ⟨W, rfl⟩ : ∃ W, W = W0 := ⟨_, rfl⟩
  obtain ⟨cg, cn, cl, cm⟩ := c
  obtain ⟨la, ln, lp, xa, xn, xp, ta, tn, tp, ba0, bn, bp⟩ := v
  dsimp only at HLN HTN HXN htb hxb
  dsimp only [AV.val, AV.arr] at HF HBE
  obtain ⟨f1, f2, f3, fR, -⟩ := HF.out _ (KeepS.refl _ _)
  obtain ⟨s0, s1, s2, s3, s4, s5, s6, s7, -⟩ := box8 f3
  clear f3
  refine callsIn_of_wp Tryz.func70 rfl trivial ?_ rfl
  simp only [Tryz.ntmps70, List.size_toArray, List.length_cons, List.length_nil, Nat.reduceAdd, Nat.reduceSub, Array.replicate_succ, Array.replicate_zero, List.push_toArray, List.append_toArray, List.nil_append, List.cons_append]
  by_cases hi : i < xn
  · obtain ⟨bX, oX, xr, q, xc, ex, HRW, hvc⟩ : ∃ bX oX xr q xc, xa = some ⟨bX, oX, none⟩ ∧ Hid (∀ V, KeepS S W V → V.cell? ⟨bX, oX + i, none⟩ = some (.slice xr q xc) ∧ Nums S V xr q xc (colI (cmAt cols i))) ∧ VCol l (cmAt cols i) := by
      obtain ⟨x, bX, oX, xr, q, xc, hu, -, ea, hSx, -, hrow, hc0⟩ := fR.hx.row hi
      rw [List.getElem?_map] at hu
      cases hcu : cols[i]? with
      | none => rw [hcu] at hu; cases hu
      | some col =>
        rw [hcu] at hu
        have e1 : x = colI (cmAt cols i) := by unfold cmAt; rw [hcu]; exact (Option.some.inj hu).symm
        subst e1
        exact ⟨bX, oX, xr, q, xc, ea, fun V hV => ⟨hV.cell hSx hc0, hrow.keep rInt_ok hV⟩, HVC.out _ (by unfold cmAt; rw [hcu]; exact List.mem_of_getElem? hcu)⟩
    subst ex
    have HVI := Lib.hid hvc
    clear hvc fR
    by_cases hk : k < tn
    · have hdk : decide ((k : Int) < (tn : Int)) = true := by simpa using hk
      obtain ⟨V1, hV1⟩ : ∃ V1, V1 = besF ⟨cg, cn, cl, cm⟩ l t (cmAt cols i) (some k) l.length := ⟨_, rfl⟩
      obtain ⟨V2, hV2⟩ : ∃ V2, V2 = besF ⟨cg, cn, cl, cm⟩ l t (cmAt cols i) none l.length := ⟨_, rfl⟩
      obtain ⟨V3, hV3⟩ : ∃ V3, V3 = besF ⟨cg, cn, cl, cm⟩ l t (List.replicate l.length none) (some k) l.length := ⟨_, rfl⟩
      have HL : Hid (stL ⟨cg, cn, cl, cm⟩ l t cols i k = [(1, 1, V1), (1, 0, V2), (0, 1, V3)]) := by
        show _ = _
        unfold stL
        have h1 := HXN.out; have h2 := HTN.out; rw [if_pos (by omega), if_pos (by omega), if_pos (by omega), hV1, hV2, hV3]; rfl
      have HV1 := Lib.hid hV1
      have HV2 := Lib.hid hV2
      have HV3 := Lib.hid hV3
      clear hV1 hV2 hV3
      gi_wp2
      obtain ⟨W2, eW2⟩ : ∃ W2, W2 = W := ⟨_, rfl⟩
      have HK2 : Hid (KeepS S W W2.drew) := by rw [eW2]; exact KeepS.below (Below.refl _ _).drew
      have HJ2 : Hid (J ((stL ⟨cg, cn, cl, cm⟩ l t cols i k).attach.take 0) W2.drew) := by rw [eW2]; exact aby_below HJ.out HJ0.out (Below.refl _ _).drew
      rw [← eW2]
      clear f1 f2 s0 s1 s2 s3 s4 s5 s6 s7 eW2
      obtain ⟨X, Wf, hX, hS1, hS2⟩ := family (fun V : World => KeepS S W V) W2.drew HK2.out
      have HS2 := Lib.hid hS2
      have q0 := fun x => (HF.out _ (hS1 x)).1
      have q1 := fun x => (HF.out _ (hS1 x)).2.1
      have qb := fun x => box8 (HF.out _ (hS1 x)).2.2.1
      have q2 := fun x => (qb x).1
      have q3 := fun x => (qb x).2.1
      have q4 := fun x => (qb x).2.2.1
      have q5 := fun x => (qb x).2.2.2.1
      have q6 := fun x => (qb x).2.2.2.2.1
      have q7 := fun x => (qb x).2.2.2.2.2.1
      have q8 := fun x => (qb x).2.2.2.2.2.2.1
      have q9 := fun x => (qb x).2.2.2.2.2.2.2.1
      have hd0 := HK2.out
      clear hS2 qb
      have q10 := fun x => (HRW.out (Wf x) (hS1 x)).1
      clear hS1
      refine wpIn_region_treA (Wf := Wf) 16 (.read 0 (.read 1 (.read 2 (.read 3 (.read 4 (.read 5 (.read 6 (.read 7 (.read 8 (.read 9 (.read 10 (.read 11 (.read 12 (.read 13 (.act 14 (.read 15 .fin)))))))))))))))) (by kernel_rfl) (by kernel_rfl) (HS2.out _ hd0) ?_
      refine wpTreA_read _ rfl (fun K hK => ?_); unfold rOp; go_simp; (refine hK _ ?_; clear hK K)
      refine wpTreA_read _ rfl (fun K hK => ?_); unfold rOp; go_simp; (refine hK _ ?_; clear hK K)
      refine wpTreA_read _ rfl (fun K hK => ?_); unfold rOp; go_simp; (refine hK _ ?_; clear hK K)
      refine wpTreA_read _ rfl (fun K hK => ?_); unfold rOp; go_simp; (refine hK _ ?_; clear hK K)
      refine wpTreA_read _ rfl (fun K hK => ?_); unfold rOp; go_simp; (refine hK _ ?_; clear hK K)
      refine wpTreA_read _ rfl (fun K hK => ?_); unfold rOp; go_simp; (refine hK _ ?_; clear hK K)
      refine wpTreA_read _ rfl (fun K hK => ?_); unfold rOp; go_simp; (refine hK _ ?_; clear hK K)
      refine wpTreA_read _ rfl (fun K hK => ?_); unfold rOp; go_simp; (refine hK _ ?_; clear hK K)
      refine wpTreA_read _ rfl (fun K hK => ?_); unfold rOp; go_simp; (refine hK _ ?_; clear hK K)
      refine wpTreA_read _ rfl (fun K hK => ?_); unfold rOp; go_simp; (refine hK _ ?_; clear hK K)
      refine wpTreA_read _ rfl (fun K hK => ?_); unfold rOp; go_simp; (refine hK _ ?_; clear hK K)
      refine wpTreA_read _ rfl (fun K hK => ?_); unfold rOp; go_simp; (refine hK _ ?_; clear hK K)
      refine wpTreA_read _ rfl (fun K hK => ?_); unfold rOp; go_simp; (refine hK _ ?_; clear hK K)
      refine wpTreA_read _ rfl (fun K hK => ?_); unfold rOp; go_simp; (refine hK _ ?_; clear hK K)
      refine wpTreA_act _ rfl ?_
      clear q10
      clear q0 q1 q2 q3 q4 q5 q6 q7 q8 q9
      generalize W2.drew = WD at *
      have HB1 := Lib.hid (HBE.out WD hd0 (cmAt cols i) (some k) xr q xc S (HRW.out WD hd0).2 HVI.out (fun k' e => by cases e; have := HTN.out; omega))
      rw [← HV1.out] at HB1
      dsimp only [toI] at HB1
      go_wp2_with fail
      refine HB1.out.mono ?_
      rintro e w3 ⟨rfl, hb3⟩
      go_wp2_with fail
      have hk3 : KeepS S W w3 := hd0.trans (KeepS.below hb3)
      have HJ3 := Lib.hid (aby_below HJ.out HJ2.out hb3)
      refine ⟨HS2.out _ hk3, ?_⟩
      refine wpTreA_read _ rfl (fun K hK => ?_); unfold rOp; go_simp; (refine hK _ ?_; clear hK K)
      refine wpTreA_fin ?_
      obtain ⟨y, hy1, hy2⟩ := stp_at (L := stL ⟨cg, cn, cl, cm⟩ l t cols i k) (p := 0) (x := (1, 1, V1)) (by rw [HL.out]; rfl)
      clear HB1
      have HK3 := Lib.hid hk3
      obtain ⟨fn, tmps, assign, body, hyy, hR⟩ := HY.out _ y w3 HJ3.out (by rw [List.length_take]; have := (List.getElem?_eq_some_iff.1 hy1).1; omega)
      rw [take_more hy1] at hR
      dsimp only [stEnc] at hyy
      rw [hy2] at hyy
      change (Instr.yield lo #[.agg #[.int .i64 1, .int .i64 1, .int .i64 _]]).run _ _ = _ at hyy
      have HRR := Lib.hid hR
      clear hR hb3 hk3 hd0 hy1 hy2 HK2 HJ2 HS2 HJ3
      simp only [List.drop_succ_cons, List.drop_zero]
      gi_wp2
      refine ⟨(fun h => by cases h), ?_⟩
      refine HRR.out.mono ?_
      rintro e W4 (⟨rfl, hJ4, hk4⟩ | ⟨rfl, hJx4⟩)
      · skip
        have HKw := Lib.hid (HK3.out.trans hk4)
        have HJw := Lib.hid hJ4
        obtain ⟨f1, f2, f3, -, -⟩ := HF.out W4 HKw.out
        obtain ⟨s0, s1, s2, s3, s4, s5, s6, s7, -⟩ := box8 f3
        clear hJ4 hk4 HK3 HRR hyy f3
        gi_wp2
        obtain ⟨W2, eW2⟩ : ∃ W2, W2 = W4 := ⟨_, rfl⟩
        have HK2 : Hid (KeepS S W W2.drew) := by rw [eW2]; exact HKw.out.trans (KeepS.below (Below.refl _ _).drew)
        have HJ2 : Hid (J ((stL ⟨cg, cn, cl, cm⟩ l t cols i k).attach.take 1) W2.drew) := by rw [eW2]; exact aby_below HJ.out HJw.out (Below.refl _ _).drew
        rw [← eW2]
        clear f1 f2 s0 s1 s2 s3 s4 s5 s6 s7 eW2 HKw HJw
        obtain ⟨X, Wf, hX, hS1, hS2⟩ := family (fun V : World => KeepS S W V) W2.drew HK2.out
        have HS2 := Lib.hid hS2
        have q0 := fun x => (HF.out _ (hS1 x)).1
        have q1 := fun x => (HF.out _ (hS1 x)).2.1
        have qb := fun x => box8 (HF.out _ (hS1 x)).2.2.1
        have q2 := fun x => (qb x).1
        have q3 := fun x => (qb x).2.1
        have q4 := fun x => (qb x).2.2.1
        have q5 := fun x => (qb x).2.2.2.1
        have q6 := fun x => (qb x).2.2.2.2.1
        have q7 := fun x => (qb x).2.2.2.2.2.1
        have q8 := fun x => (qb x).2.2.2.2.2.2.1
        have q9 := fun x => (qb x).2.2.2.2.2.2.2.1
        have hd0 := HK2.out
        clear hS2 qb
        have q10 := fun x => (HRW.out (Wf x) (hS1 x)).1
        clear hS1
        refine wpIn_region_treA (Wf := Wf) 9 (.read 0 (.read 1 (.read 2 (.read 3 (.read 4 (.read 5 (.read 6 (.act 7 (.read 8 .fin))))))))) (by kernel_rfl) (by kernel_rfl) (HS2.out _ hd0) ?_
        refine wpTreA_read _ rfl (fun K hK => ?_); unfold rOp; go_simp; (refine hK _ ?_; clear hK K)
        refine wpTreA_read _ rfl (fun K hK => ?_); unfold rOp; go_simp; (refine hK _ ?_; clear hK K)
        refine wpTreA_read _ rfl (fun K hK => ?_); unfold rOp; go_simp; (refine hK _ ?_; clear hK K)
        refine wpTreA_read _ rfl (fun K hK => ?_); unfold rOp; go_simp; (refine hK _ ?_; clear hK K)
        refine wpTreA_read _ rfl (fun K hK => ?_); unfold rOp; go_simp; (refine hK _ ?_; clear hK K)
        refine wpTreA_read _ rfl (fun K hK => ?_); unfold rOp; go_simp; (refine hK _ ?_; clear hK K)
        refine wpTreA_read _ rfl (fun K hK => ?_); unfold rOp; go_simp; (refine hK _ ?_; clear hK K)
        refine wpTreA_act _ rfl ?_
        clear q10
        clear q0 q1 q2 q3 q4 q5 q6 q7 q8 q9
        generalize W2.drew = WD at *
        have HB1 := Lib.hid (HBE.out WD hd0 (cmAt cols i) none xr q xc S (HRW.out WD hd0).2 HVI.out (fun k' e => by cases e))
        rw [← HV2.out] at HB1
        dsimp only [toI] at HB1
        go_wp2_with fail
        refine HB1.out.mono ?_
        rintro e w3 ⟨rfl, hb3⟩
        go_wp2_with fail
        have hk3 : KeepS S W w3 := hd0.trans (KeepS.below hb3)
        have HJ3 := Lib.hid (aby_below HJ.out HJ2.out hb3)
        refine ⟨HS2.out _ hk3, ?_⟩
        refine wpTreA_read _ rfl (fun K hK => ?_); unfold rOp; go_simp; (refine hK _ ?_; clear hK K)
        refine wpTreA_fin ?_
        obtain ⟨y, hy1, hy2⟩ := stp_at (L := stL ⟨cg, cn, cl, cm⟩ l t cols i k) (p := 1) (x := (1, 0, V2)) (by rw [HL.out]; rfl)
        clear HB1
        have HK3 := Lib.hid hk3
        obtain ⟨fn, tmps, assign, body, hyy, hR⟩ := HY.out _ y w3 HJ3.out (by rw [List.length_take]; have := (List.getElem?_eq_some_iff.1 hy1).1; omega)
        rw [take_more hy1] at hR
        dsimp only [stEnc] at hyy
        rw [hy2] at hyy
        change (Instr.yield lo #[.agg #[.int .i64 1, .int .i64 0, .int .i64 _]]).run _ _ = _ at hyy
        have HRR := Lib.hid hR
        clear hR hb3 hk3 hd0 hy1 hy2 HK2 HJ2 HS2 HJ3
        simp only [List.drop_succ_cons, List.drop_zero]
        gi_wp2
        refine ⟨(fun h => by cases h), ?_⟩
        refine HRR.out.mono ?_
        rintro e W4 (⟨rfl, hJ4, hk4⟩ | ⟨rfl, hJx4⟩)
        · skip
          have HKw := Lib.hid (HK3.out.trans hk4)
          have HJw := Lib.hid hJ4
          obtain ⟨f1, f2, f3, -, -⟩ := HF.out W4 HKw.out
          obtain ⟨s0, s1, s2, s3, s4, s5, s6, s7, -⟩ := box8 f3
          clear hJ4 hk4 HK3 HRR hyy f3
          gi_wp2
          obtain ⟨W2, eW2⟩ : ∃ W2, W2 = W4 := ⟨_, rfl⟩
          have HK2 : Hid (KeepS S W W2.drew) := by rw [eW2]; exact HKw.out.trans (KeepS.below (Below.refl _ _).drew)
          have HJ2 : Hid (J ((stL ⟨cg, cn, cl, cm⟩ l t cols i k).attach.take 2) W2.drew) := by rw [eW2]; exact aby_below HJ.out HJw.out (Below.refl _ _).drew
          rw [← eW2]
          clear f1 f2 s0 s1 s2 s3 s4 s5 s6 s7 eW2 HKw HJw
          obtain ⟨X, Wf, hX, hS1, hS2⟩ := family (fun V : World => KeepS S W V) W2.drew HK2.out
          have HS2 := Lib.hid hS2
          have q0 := fun x => (HF.out _ (hS1 x)).1
          have q1 := fun x => (HF.out _ (hS1 x)).2.1
          have qb := fun x => box8 (HF.out _ (hS1 x)).2.2.1
          have q2 := fun x => (qb x).1
          have q3 := fun x => (qb x).2.1
          have q4 := fun x => (qb x).2.2.1
          have q5 := fun x => (qb x).2.2.2.1
          have q6 := fun x => (qb x).2.2.2.2.1
          have q7 := fun x => (qb x).2.2.2.2.2.1
          have q8 := fun x => (qb x).2.2.2.2.2.2.1
          have q9 := fun x => (qb x).2.2.2.2.2.2.2.1
          have hd0 := HK2.out
          clear hS2 qb
          clear hS1
          refine wpIn_region_treA (Wf := Wf) 10 (.read 0 (.read 1 (.read 3 (.read 4 (.read 5 (.read 7 (.act 2 (.act 6 (.act 8 (.read 9 .fin)))))))))) (by kernel_rfl) (by kernel_rfl) (HS2.out _ hd0) ?_
          refine wpTreA_read _ rfl (fun K hK => ?_); unfold rOp; go_simp; (refine hK _ ?_; clear hK K)
          refine wpTreA_read _ rfl (fun K hK => ?_); unfold rOp; go_simp; (refine hK _ ?_; clear hK K)
          refine wpTreA_read _ rfl (fun K hK => ?_); unfold rOp; go_simp; (refine hK _ ?_; clear hK K)
          refine wpTreA_read _ rfl (fun K hK => ?_); unfold rOp; go_simp; (refine hK _ ?_; clear hK K)
          refine wpTreA_read _ rfl (fun K hK => ?_); unfold rOp; go_simp; (refine hK _ ?_; clear hK K)
          refine wpTreA_read _ rfl (fun K hK => ?_); unfold rOp; go_simp; (refine hK _ ?_; clear hK K)
          refine wpTreA_act _ rfl ?_
          clear q0 q1 q2 q3 q4 q5 q6 q7 q8 q9
          generalize W2.drew = WD at *
          have hal : Below WD.heap.size WD (WD.alloc (.cells #[.int .i64 (-1)] 3)) := (Below.refl _ _).alloc (Nat.le_refl _) _
          have hcb := (one_box (World.alloc_heap_new WD (.cells #[.int .i64 (-1)] 3))).1
          have hkA := hd0.trans (KeepS.below hal)
          have HJA := Lib.hid (aby_below HJ.out HJ2.out hal)
          have HRPA := Lib.hid (rep_any ln WD.heap.size _ (by have := HLN.out; omega) hcb)
          clear hal hcb HJ2 hd0 HK2
          go_wp2_with fail
          generalize WD.alloc (.cells #[.int .i64 (-1)] 3) = WA at *
          refine ⟨HS2.out _ hkA, ?_⟩
          refine wpTreA_act _ rfl ?_
          go_wp2_with fail
          refine HRPA.out.mono ?_
          rintro e w5 ⟨rfl, hNU, hb5⟩
          have hd0 := hkA.trans (KeepS.below hb5)
          have HJ2 := Lib.hid (aby_below HJ.out HJA.out hb5)
          have HK2 := Lib.hid hd0
          have HB1 := Lib.hid (HBE.out w5 hd0 (List.replicate ln none) (some k) _ ln ln (fun _ => True) hNU (by rw [HLN.out]; exact nocol_ok l) (fun k' e => by cases e; have := HTN.out; omega))
          rw [show List.replicate ln (none : Option Nat) = List.replicate l.length none by rw [HLN.out], ← HV3.out] at HB1
          dsimp only [toI] at HB1
          clear hkA HJA HRPA hb5 hNU
          go_wp2_with fail
          refine ⟨HS2.out _ hd0, ?_⟩
          refine wpTreA_act _ rfl ?_
          go_wp2_with fail
          refine HB1.out.mono ?_
          rintro e w3 ⟨rfl, hb3⟩
          go_wp2_with fail
          have hk3 : KeepS S W w3 := hd0.trans (KeepS.below hb3)
          have HJ3 := Lib.hid (aby_below HJ.out HJ2.out hb3)
          refine ⟨HS2.out _ hk3, ?_⟩
          refine wpTreA_read _ rfl (fun K hK => ?_); unfold rOp; go_simp; (refine hK _ ?_; clear hK K)
          refine wpTreA_fin ?_
          clear HB1
          obtain ⟨y, hy1, hy2⟩ := stp_at (L := stL ⟨cg, cn, cl, cm⟩ l t cols i k) (p := 2) (x := (0, 1, V3)) (by rw [HL.out]; rfl)
          have HK3 := Lib.hid hk3
          obtain ⟨fn, tmps, assign, body, hyy, hR⟩ := HY.out _ y w3 HJ3.out (by rw [List.length_take]; have := (List.getElem?_eq_some_iff.1 hy1).1; omega)
          rw [take_more hy1] at hR
          dsimp only [stEnc] at hyy
          rw [hy2] at hyy
          change (Instr.yield lo #[.agg #[.int .i64 0, .int .i64 1, .int .i64 _]]).run _ _ = _ at hyy
          have HRR := Lib.hid hR
          clear hR hb3 hk3 hd0 hy1 hy2 HK2 HJ2 HS2 HJ3
          simp only [List.drop_succ_cons, List.drop_zero]
          gi_wp2
          refine ⟨(fun h => by cases h), ?_⟩
          refine HRR.out.mono ?_
          rintro e W4 (⟨rfl, hJ4, hk4⟩ | ⟨rfl, hJx4⟩)
          · gi_wp2
            go_end0
            exact ⟨⟨_, rfl⟩, .inl ⟨_, rfl, by rw [List.take_of_length_le (by rw [List.length_attach, HL.out]; exact Nat.le_refl _)] at hJ4; exact hJ4⟩⟩
          · gi_wp2
            go_end0
            exact ⟨⟨_, rfl⟩, .inr ⟨_, List.take_prefix _ _, hJx4⟩⟩
        · gi_wp2
          refine bodyPost_ret (results_none rfl _ _ _) rfl ?_
          exact ⟨⟨_, rfl⟩, .inr ⟨_, List.take_prefix _ _, hJx4⟩⟩
      · gi_wp2
        refine bodyPost_ret (results_none rfl _ _ _) rfl ?_
        exact ⟨⟨_, rfl⟩, .inr ⟨_, List.take_prefix _ _, hJx4⟩⟩
    · have hdk : decide ((k : Int) < (tn : Int)) = false := by simpa using hk
      obtain ⟨V2, hV2⟩ : ∃ V2, V2 = besF ⟨cg, cn, cl, cm⟩ l t (cmAt cols i) none l.length := ⟨_, rfl⟩
      have HL : Hid (stL ⟨cg, cn, cl, cm⟩ l t cols i k = [(1, 0, V2)]) := by
        show _ = _
        unfold stL
        have h1 := HXN.out; have h2 := HTN.out; rw [if_pos (by omega), if_neg (by omega), if_neg (by omega), hV2]; rfl
      have HV2 := Lib.hid hV2
      clear hV2
      gi_wp2
      obtain ⟨W2, eW2⟩ : ∃ W2, W2 = W := ⟨_, rfl⟩
      have HK2 : Hid (KeepS S W W2.drew) := by rw [eW2]; exact KeepS.below (Below.refl _ _).drew
      have HJ2 : Hid (J ((stL ⟨cg, cn, cl, cm⟩ l t cols i k).attach.take 0) W2.drew) := by rw [eW2]; exact aby_below HJ.out HJ0.out (Below.refl _ _).drew
      rw [← eW2]
      clear f1 f2 s0 s1 s2 s3 s4 s5 s6 s7 eW2
      obtain ⟨X, Wf, hX, hS1, hS2⟩ := family (fun V : World => KeepS S W V) W2.drew HK2.out
      have HS2 := Lib.hid hS2
      have q0 := fun x => (HF.out _ (hS1 x)).1
      have q1 := fun x => (HF.out _ (hS1 x)).2.1
      have qb := fun x => box8 (HF.out _ (hS1 x)).2.2.1
      have q2 := fun x => (qb x).1
      have q3 := fun x => (qb x).2.1
      have q4 := fun x => (qb x).2.2.1
      have q5 := fun x => (qb x).2.2.2.1
      have q6 := fun x => (qb x).2.2.2.2.1
      have q7 := fun x => (qb x).2.2.2.2.2.1
      have q8 := fun x => (qb x).2.2.2.2.2.2.1
      have q9 := fun x => (qb x).2.2.2.2.2.2.2.1
      have hd0 := HK2.out
      clear hS2 qb
      have q10 := fun x => (HRW.out (Wf x) (hS1 x)).1
      clear hS1
      refine wpIn_region_treA (Wf := Wf) 16 (.read 0 (.read 1 (.read 2 (.read 3 (.read 4 (.read 5 (.read 6 (.read 7 (.read 8 (.read 9 (.read 10 (.read 11 (.read 12 (.read 13 (.act 14 (.read 15 .fin)))))))))))))))) (by kernel_rfl) (by kernel_rfl) (HS2.out _ hd0) ?_
      refine wpTreA_read _ rfl (fun K hK => ?_); unfold rOp; go_simp; (refine hK _ ?_; clear hK K)
      refine wpTreA_read _ rfl (fun K hK => ?_); unfold rOp; go_simp; (refine hK _ ?_; clear hK K)
      refine wpTreA_read _ rfl (fun K hK => ?_); unfold rOp; go_simp; (refine hK _ ?_; clear hK K)
      refine wpTreA_read _ rfl (fun K hK => ?_); unfold rOp; go_simp; (refine hK _ ?_; clear hK K)
      refine wpTreA_read _ rfl (fun K hK => ?_); unfold rOp; go_simp; (refine hK _ ?_; clear hK K)
      refine wpTreA_read _ rfl (fun K hK => ?_); unfold rOp; go_simp; (refine hK _ ?_; clear hK K)
      refine wpTreA_read _ rfl (fun K hK => ?_); unfold rOp; go_simp; (refine hK _ ?_; clear hK K)
      refine wpTreA_read _ rfl (fun K hK => ?_); unfold rOp; go_simp; (refine hK _ ?_; clear hK K)
      refine wpTreA_read _ rfl (fun K hK => ?_); unfold rOp; go_simp; (refine hK _ ?_; clear hK K)
      refine wpTreA_read _ rfl (fun K hK => ?_); unfold rOp; go_simp; (refine hK _ ?_; clear hK K)
      refine wpTreA_read _ rfl (fun K hK => ?_); unfold rOp; go_simp; (refine hK _ ?_; clear hK K)
      refine wpTreA_read _ rfl (fun K hK => ?_); unfold rOp; go_simp; (refine hK _ ?_; clear hK K)
      refine wpTreA_read _ rfl (fun K hK => ?_); unfold rOp; go_simp; (refine hK _ ?_; clear hK K)
      refine wpTreA_read _ rfl (fun K hK => ?_); unfold rOp; go_simp; (refine hK _ ?_; clear hK K)
      refine wpTreA_act _ rfl ?_
      clear q10
      clear q0 q1 q2 q3 q4 q5 q6 q7 q8 q9
      generalize W2.drew = WD at *
      go_wp2_with fail
      refine ⟨HS2.out _ hd0, ?_⟩
      refine wpTreA_read _ rfl (fun K hK => ?_); unfold rOp; go_simp; (refine hK _ ?_; clear hK K)
      refine wpTreA_fin ?_
      simp only [List.drop_succ_cons, List.drop_zero]
      clear HS2 hd0 X Wf hX
      have HKw := HK2
      have HJw := HJ2
      clear HK2 HJ2
      gi_wp2
      repeat (refine ⟨(fun f h => by cases h), ?_⟩; gi_wp2)
      obtain ⟨W2, eW2⟩ : ∃ W2, W2 = WD := ⟨_, rfl⟩
      have HK2 : Hid (KeepS S W W2.drew) := by rw [eW2]; exact HKw.out.trans (KeepS.below (Below.refl _ _).drew)
      have HJ2 : Hid (J ((stL ⟨cg, cn, cl, cm⟩ l t cols i k).attach.take 0) W2.drew) := by rw [eW2]; exact aby_below HJ.out HJw.out (Below.refl _ _).drew
      rw [← eW2]
      clear eW2 HKw HJw
      obtain ⟨X, Wf, hX, hS1, hS2⟩ := family (fun V : World => KeepS S W V) W2.drew HK2.out
      have HS2 := Lib.hid hS2
      have q0 := fun x => (HF.out _ (hS1 x)).1
      have q1 := fun x => (HF.out _ (hS1 x)).2.1
      have qb := fun x => box8 (HF.out _ (hS1 x)).2.2.1
      have q2 := fun x => (qb x).1
      have q3 := fun x => (qb x).2.1
      have q4 := fun x => (qb x).2.2.1
      have q5 := fun x => (qb x).2.2.2.1
      have q6 := fun x => (qb x).2.2.2.2.1
      have q7 := fun x => (qb x).2.2.2.2.2.1
      have q8 := fun x => (qb x).2.2.2.2.2.2.1
      have q9 := fun x => (qb x).2.2.2.2.2.2.2.1
      have hd0 := HK2.out
      clear hS2 qb
      have q10 := fun x => (HRW.out (Wf x) (hS1 x)).1
      clear hS1
      refine wpIn_region_treA (Wf := Wf) 9 (.read 0 (.read 1 (.read 2 (.read 3 (.read 4 (.read 5 (.read 6 (.act 7 (.read 8 .fin))))))))) (by kernel_rfl) (by kernel_rfl) (HS2.out _ hd0) ?_
      refine wpTreA_read _ rfl (fun K hK => ?_); unfold rOp; go_simp; (refine hK _ ?_; clear hK K)
      refine wpTreA_read _ rfl (fun K hK => ?_); unfold rOp; go_simp; (refine hK _ ?_; clear hK K)
      refine wpTreA_read _ rfl (fun K hK => ?_); unfold rOp; go_simp; (refine hK _ ?_; clear hK K)
      refine wpTreA_read _ rfl (fun K hK => ?_); unfold rOp; go_simp; (refine hK _ ?_; clear hK K)
      refine wpTreA_read _ rfl (fun K hK => ?_); unfold rOp; go_simp; (refine hK _ ?_; clear hK K)
      refine wpTreA_read _ rfl (fun K hK => ?_); unfold rOp; go_simp; (refine hK _ ?_; clear hK K)
      refine wpTreA_read _ rfl (fun K hK => ?_); unfold rOp; go_simp; (refine hK _ ?_; clear hK K)
      refine wpTreA_act _ rfl ?_
      clear q10
      clear q0 q1 q2 q3 q4 q5 q6 q7 q8 q9
      generalize W2.drew = WD at *
      have HB1 := Lib.hid (HBE.out WD hd0 (cmAt cols i) none xr q xc S (HRW.out WD hd0).2 HVI.out (fun k' e => by cases e))
      rw [← HV2.out] at HB1
      dsimp only [toI] at HB1
      go_wp2_with fail
      refine HB1.out.mono ?_
      rintro e w3 ⟨rfl, hb3⟩
      go_wp2_with fail
      have hk3 : KeepS S W w3 := hd0.trans (KeepS.below hb3)
      have HJ3 := Lib.hid (aby_below HJ.out HJ2.out hb3)
      refine ⟨HS2.out _ hk3, ?_⟩
      refine wpTreA_read _ rfl (fun K hK => ?_); unfold rOp; go_simp; (refine hK _ ?_; clear hK K)
      refine wpTreA_fin ?_
      obtain ⟨y, hy1, hy2⟩ := stp_at (L := stL ⟨cg, cn, cl, cm⟩ l t cols i k) (p := 0) (x := (1, 0, V2)) (by rw [HL.out]; rfl)
      clear HB1
      have HK3 := Lib.hid hk3
      obtain ⟨fn, tmps, assign, body, hyy, hR⟩ := HY.out _ y w3 HJ3.out (by rw [List.length_take]; have := (List.getElem?_eq_some_iff.1 hy1).1; omega)
      rw [take_more hy1] at hR
      dsimp only [stEnc] at hyy
      rw [hy2] at hyy
      change (Instr.yield lo #[.agg #[.int .i64 1, .int .i64 0, .int .i64 _]]).run _ _ = _ at hyy
      have HRR := Lib.hid hR
      clear hR hb3 hk3 hd0 hy1 hy2 HK2 HJ2 HS2 HJ3
      simp only [List.drop_succ_cons, List.drop_zero]
      gi_wp2
      refine ⟨(fun h => by cases h), ?_⟩
      refine HRR.out.mono ?_
      rintro e W4 (⟨rfl, hJ4, hk4⟩ | ⟨rfl, hJx4⟩)
      · have hJ5 : J (stL ⟨cg, cn, cl, cm⟩ l t cols i k).attach W4 := by rw [List.take_of_length_le (by rw [List.length_attach, HL.out]; exact Nat.le_refl _)] at hJ4; exact hJ4
        have HJ5 := Lib.hid hJ5
        obtain ⟨f1, f2, f3, -, -⟩ := HF.out W4 (HK3.out.trans hk4)
        obtain ⟨s0, s1, s2, s3, s4, s5, s6, s7, -⟩ := box8 f3
        clear hJ4 hJ5 hk4 HK3 HRR hyy f3
        gi_wp2
        go_end0
        exact ⟨⟨_, rfl⟩, .inl ⟨_, rfl, HJ5.out⟩⟩
      · gi_wp2
        refine bodyPost_ret (results_none rfl _ _ _) rfl ?_
        exact ⟨⟨_, rfl⟩, .inr ⟨_, List.take_prefix _ _, hJx4⟩⟩
  · clear fR
    by_cases hk : k < tn
    · obtain ⟨V3, hV3⟩ : ∃ V3, V3 = besF ⟨cg, cn, cl, cm⟩ l t (List.replicate l.length none) (some k) l.length := ⟨_, rfl⟩
      have HL : Hid (stL ⟨cg, cn, cl, cm⟩ l t cols i k = [(0, 1, V3)]) := by
        show _ = _
        unfold stL
        have h1 := HXN.out; have h2 := HTN.out; rw [if_neg (by omega), if_pos (by omega), hV3]; rfl
      have HV3 := Lib.hid hV3
      clear hV3
      gi_wp2
      obtain ⟨W2, eW2⟩ : ∃ W2, W2 = W := ⟨_, rfl⟩
      have HK2 : Hid (KeepS S W W2.drew) := by rw [eW2]; exact KeepS.below (Below.refl _ _).drew
      have HJ2 : Hid (J ((stL ⟨cg, cn, cl, cm⟩ l t cols i k).attach.take 0) W2.drew) := by rw [eW2]; exact aby_below HJ.out HJ0.out (Below.refl _ _).drew
      rw [← eW2]
      clear f1 f2 s0 s1 s2 s3 s4 s5 s6 s7 eW2
      obtain ⟨X, Wf, hX, hS1, hS2⟩ := family (fun V : World => KeepS S W V) W2.drew HK2.out
      have HS2 := Lib.hid hS2
      have q0 := fun x => (HF.out _ (hS1 x)).1
      have q1 := fun x => (HF.out _ (hS1 x)).2.1
      have qb := fun x => box8 (HF.out _ (hS1 x)).2.2.1
      have q2 := fun x => (qb x).1
      have q3 := fun x => (qb x).2.1
      have q4 := fun x => (qb x).2.2.1
      have q5 := fun x => (qb x).2.2.2.1
      have q6 := fun x => (qb x).2.2.2.2.1
      have q7 := fun x => (qb x).2.2.2.2.2.1
      have q8 := fun x => (qb x).2.2.2.2.2.2.1
      have q9 := fun x => (qb x).2.2.2.2.2.2.2.1
      have hd0 := HK2.out
      clear hS2 qb
      clear hS1
      refine wpIn_region_treA (Wf := Wf) 10 (.read 0 (.read 1 (.read 3 (.read 4 (.read 5 (.read 7 (.act 2 (.act 6 (.act 8 (.read 9 .fin)))))))))) (by kernel_rfl) (by kernel_rfl) (HS2.out _ hd0) ?_
      refine wpTreA_read _ rfl (fun K hK => ?_); unfold rOp; go_simp; (refine hK _ ?_; clear hK K)
      refine wpTreA_read _ rfl (fun K hK => ?_); unfold rOp; go_simp; (refine hK _ ?_; clear hK K)
      refine wpTreA_read _ rfl (fun K hK => ?_); unfold rOp; go_simp; (refine hK _ ?_; clear hK K)
      refine wpTreA_read _ rfl (fun K hK => ?_); unfold rOp; go_simp; (refine hK _ ?_; clear hK K)
      refine wpTreA_read _ rfl (fun K hK => ?_); unfold rOp; go_simp; (refine hK _ ?_; clear hK K)
      refine wpTreA_read _ rfl (fun K hK => ?_); unfold rOp; go_simp; (refine hK _ ?_; clear hK K)
      refine wpTreA_act _ rfl ?_
      clear q0 q1 q2 q3 q4 q5 q6 q7 q8 q9
      generalize W2.drew = WD at *
      have hal : Below WD.heap.size WD (WD.alloc (.cells #[.int .i64 (-1)] 3)) := (Below.refl _ _).alloc (Nat.le_refl _) _
      have hcb := (one_box (World.alloc_heap_new WD (.cells #[.int .i64 (-1)] 3))).1
      have hkA := hd0.trans (KeepS.below hal)
      have HJA := Lib.hid (aby_below HJ.out HJ2.out hal)
      have HRPA := Lib.hid (rep_any ln WD.heap.size _ (by have := HLN.out; omega) hcb)
      clear hal hcb HJ2 hd0 HK2
      go_wp2_with fail
      generalize WD.alloc (.cells #[.int .i64 (-1)] 3) = WA at *
      refine ⟨HS2.out _ hkA, ?_⟩
      refine wpTreA_act _ rfl ?_
      go_wp2_with fail
      refine HRPA.out.mono ?_
      rintro e w5 ⟨rfl, hNU, hb5⟩
      have hd0 := hkA.trans (KeepS.below hb5)
      have HJ2 := Lib.hid (aby_below HJ.out HJA.out hb5)
      have HK2 := Lib.hid hd0
      have HB1 := Lib.hid (HBE.out w5 hd0 (List.replicate ln none) (some k) _ ln ln (fun _ => True) hNU (by rw [HLN.out]; exact nocol_ok l) (fun k' e => by cases e; have := HTN.out; omega))
      rw [show List.replicate ln (none : Option Nat) = List.replicate l.length none by rw [HLN.out], ← HV3.out] at HB1
      dsimp only [toI] at HB1
      clear hkA HJA HRPA hb5 hNU
      go_wp2_with fail
      refine ⟨HS2.out _ hd0, ?_⟩
      refine wpTreA_act _ rfl ?_
      go_wp2_with fail
      refine HB1.out.mono ?_
      rintro e w3 ⟨rfl, hb3⟩
      go_wp2_with fail
      have hk3 : KeepS S W w3 := hd0.trans (KeepS.below hb3)
      have HJ3 := Lib.hid (aby_below HJ.out HJ2.out hb3)
      refine ⟨HS2.out _ hk3, ?_⟩
      refine wpTreA_read _ rfl (fun K hK => ?_); unfold rOp; go_simp; (refine hK _ ?_; clear hK K)
      refine wpTreA_fin ?_
      clear HB1
      obtain ⟨y, hy1, hy2⟩ := stp_at (L := stL ⟨cg, cn, cl, cm⟩ l t cols i k) (p := 0) (x := (0, 1, V3)) (by rw [HL.out]; rfl)
      have HK3 := Lib.hid hk3
      obtain ⟨fn, tmps, assign, body, hyy, hR⟩ := HY.out _ y w3 HJ3.out (by rw [List.length_take]; have := (List.getElem?_eq_some_iff.1 hy1).1; omega)
      rw [take_more hy1] at hR
      dsimp only [stEnc] at hyy
      rw [hy2] at hyy
      change (Instr.yield lo #[.agg #[.int .i64 0, .int .i64 1, .int .i64 _]]).run _ _ = _ at hyy
      have HRR := Lib.hid hR
      clear hR hb3 hk3 hd0 hy1 hy2 HK2 HJ2 HS2 HJ3
      simp only [List.drop_succ_cons, List.drop_zero]
      gi_wp2
      refine ⟨(fun h => by cases h), ?_⟩
      refine HRR.out.mono ?_
      rintro e W4 (⟨rfl, hJ4, hk4⟩ | ⟨rfl, hJx4⟩)
      · gi_wp2
        go_end0
        exact ⟨⟨_, rfl⟩, .inl ⟨_, rfl, by rw [List.take_of_length_le (by rw [List.length_attach, HL.out]; exact Nat.le_refl _)] at hJ4; exact hJ4⟩⟩
      · gi_wp2
        go_end0
        exact ⟨⟨_, rfl⟩, .inr ⟨_, List.take_prefix _ _, hJx4⟩⟩
    · have HL : Hid (stL ⟨cg, cn, cl, cm⟩ l t cols i k = []) := by
        show _ = _
        unfold stL
        have h1 := HXN.out; have h2 := HTN.out; rw [if_neg (by omega), if_neg (by omega)]; rfl
      gi_wp2
      go_end0
      exact ⟨⟨_, rfl⟩, .inl ⟨_, rfl, by rw [show (stL ⟨cg, cn, cl, cm⟩ l t cols i k).attach = [] from List.eq_nil_of_length_eq_zero (by rw [List.length_attach, HL.out]; rfl)]; exact HJ0.out⟩⟩
theorem stp_in (mm : Nat) (w : World) (c : Cst) (v : AV) (i k : Nat) : CallsIn Fence.wide mm Tryz.prog 50 #[v.val c, .int .i64 (i : Int), .int .i64 (k : Int)] w fun e w' =>
    e = .returned (.func (.func 70) #[] #[.pointer (some ⟨w.heap.size + 1, 0, none⟩), .pointer (some ⟨w.heap.size, 0, none⟩), .pointer (some ⟨w.heap.size + 2, 0, none⟩)]) ∧ w' = ((w.alloc (.cells (v.arr c) 83)).alloc (.cells #[.int .i64 (i : Int)] 3)).alloc (.cells #[.int .i64 (k : Int)] 3) := by
  obtain ⟨cg, cn, cl, cm⟩ := c
  obtain ⟨la, ln, lp, xa, xn, xp, ta, tn, tp, ba0, bn, bp⟩ := v
  dsimp only [AV.val, AV.arr]
  refine callsIn_of_wp Tryz.func50 rfl trivial ?_ rfl
  simp only [Tryz.ntmps50, List.size_toArray, List.length_cons, List.length_nil, Nat.reduceAdd, Nat.reduceSub, Array.replicate_succ, Array.replicate_zero, List.push_toArray, List.append_toArray, List.nil_append, List.cons_append]
  gi_wp2
  go_ret
  exact ⟨by simp, rfl⟩
end Go.Proofs.YtaelfjlmkgimhaaGreatDoor

set_option linter.unusedVariables false
namespace Go.Proofs.YtaelfjlmkgimhaaGreatDoor

def pB (c : Cst) (l : List (List Tok)) (t : List Tok) (col : Cm) (y : Nat) : Nat := besF c l t col (some y) l.length
def gB (c : Cst) (l : List (List Tok)) (t : List Tok) (col : Cm) : Nat := besF c l t col none l.length
def fB (c : Cst) (l : List (List Tok)) (t : List Tok) (y : Nat) : Nat := besF c l t (List.replicate l.length none) (some y) l.length
def tabB (c : Cst) (l : List (List Tok)) (t : List Tok) (cols : List Cm) (i k : Nat) : Nat := tab (pB c l t) (gB c l t) (fB c l t) cols (List.range t.length) i k
theorem stL_tab {c : Cst} {l : List (List Tok)} {t : List Tok} {cols : List Cm} {T : Nat → Nat → Nat} {i k : Nat} (hi : i ≤ cols.length) (hk : k ≤ t.length) (hne : i < cols.length ∨ k < t.length)
    (h11 : i < cols.length → k < t.length → T (i + 1) (k + 1) = tabB c l t cols (i + 1) (k + 1)) (h10 : i < cols.length → T (i + 1) k = tabB c l t cols (i + 1) k) (h01 : k < t.length → T i (k + 1) = tabB c l t cols i (k + 1)) :
    mvN T i k (stL c l t cols i k) = tabB c l t cols i k := by
  have hcm : ∀ h : i < cols.length, cols[i]? = some (cmAt cols i) := fun h => by unfold cmAt; rw [List.getElem?_eq_getElem h]; rfl
  have hr : k < t.length → (List.range t.length)[k]? = some k := fun h => by simp [h]
  by_cases h1 : i < cols.length
  · by_cases h2 : k < t.length
    · have e : stL c l t cols i k = ([(1, 1, pB c l t (cmAt cols i) k)] ++ [(1, 0, gB c l t (cmAt cols i))]) ++ [(0, 1, fB c l t k)] := by
        unfold stL; rw [if_pos h1, if_pos h2, if_pos h2]; rfl
      rw [e, mvN_snoc (by simp), mvN_snoc (by simp), mvN_one]
      simp only [Nat.add_zero]
      rw [h11 h1 h2, h10 h1, h01 h2]
      unfold tabB
      rw [tab_11 _ _ _ (hcm h1) (hr h2), Nat.min_assoc]
    · have e : stL c l t cols i k = [(1, 0, gB c l t (cmAt cols i))] := by
        unfold stL; rw [if_pos h1, if_neg h2, if_neg h2]; rfl
      rw [e, mvN_one]
      simp only [Nat.add_zero]
      rw [h10 h1]
      unfold tabB
      rw [tab_10 _ _ _ (hcm h1) (by rw [List.length_range]; omega)]
  · have h2 : k < t.length := by omega
    have e : stL c l t cols i k = [(0, 1, fB c l t k)] := by
      unfold stL; rw [if_neg h1, if_pos h2]; rfl
    rw [e, mvN_one]
    simp only [Nat.add_zero]
    rw [h01 h2]
    unfold tabB
    rw [tab_01 _ _ _ (by omega) (hr h2)]
end Go.Proofs.YtaelfjlmkgimhaaGreatDoor

set_option linter.unusedVariables false
set_option linter.unusedSimpArgs false
namespace Go.Proofs.YtaelfjlmkgimhaaGreatDoor
open Go.RowKit

structure Tb2 (w : World) (B g N M : Nat) (rows : Nat → Nat) (T : Nat → Nat → Int) : Prop where
  outer : ∃ cur, w.heap[g]? = some (.cells cur 27 (0, 0)) ∧ ∀ i, i < N → cur[i]? = some (.slice (some ⟨rows i, 0, none⟩) M M)
  inner : ∀ i, i < N → w.heap[rows i]? = some (.cells (rowA (T i) M) 3 (0, 0))
  lo : B ≤ g
  lor : ∀ i, i < N → B ≤ rows i
  ne : ∀ i, i < N → rows i ≠ g
  inj : ∀ i k, i < N → k < N → rows i = rows k → i = k
namespace Tb2
variable {w w' : World} {B g N M : Nat} {rows : Nat → Nat} {T : Nat → Nat → Int}
theorem glt (h : Tb2 w B g N M rows T) : g < w.heap.size := by
  obtain ⟨cur, h1, -⟩ := h.outer
  exact (Array.getElem?_eq_some_iff.1 h1).1
theorem rlt (h : Tb2 w B g N M rows T) {i : Nat} (hi : i < N) : rows i < w.heap.size := (Array.getElem?_eq_some_iff.1 (h.inner i hi)).1
theorem same (h : Tb2 w B g N M rows T) (hg : w'.heap[g]? = w.heap[g]?) (hr : ∀ i, i < N → w'.heap[rows i]? = w.heap[rows i]?) : Tb2 w' B g N M rows T := by
  obtain ⟨cur, h1, h2⟩ := h.outer
  exact ⟨⟨cur, hg.trans h1, h2⟩, fun i hi => (hr i hi).trans (h.inner i hi), h.lo, h.lor, h.ne, h.inj⟩
theorem below (h : Tb2 w B g N M rows T) (hb : Below w.heap.size w w') : Tb2 w' B g N M rows T := h.same (hb.block _ h.glt) fun i hi => hb.block _ (h.rlt hi)
theorem setOther (h : Tb2 w B g N M rows T) {b k : Nat} (hg : b ≠ g) (hr : ∀ i, i < N → b ≠ rows i) (v : Value) : Tb2 (w.setCell ⟨b, k, none⟩ v) B g N M rows T :=
  h.same (heap_setCell_other (Ne.symm hg) v) fun i hi => heap_setCell_other (Ne.symm (hr i hi)) v
theorem cellO (h : Tb2 w B g N M rows T) {i : Nat} (hi : i < N) : w.cell? ⟨g, i, none⟩ = some (.slice (some ⟨rows i, 0, none⟩) M M) := by
  obtain ⟨cur, h1, h2⟩ := h.outer
  rw [cell_row h1, h2 i hi]
theorem cellI (h : Tb2 w B g N M rows T) {i k : Nat} (hi : i < N) (hk : k < M) : w.cell? ⟨rows i, k, none⟩ = some (.int .i64 (T i k)) := by
  rw [cell_row (h.inner i hi), rowA_get hk]
theorem freeI (h : Tb2 w B g N M rows T) {i : Nat} (hi : i < N) (k : Nat) : w.frozen? ⟨rows i, k, none⟩ = false := by simp [World.frozen?, h.inner i hi]
/-- A number is stored. -/
theorem put (h : Tb2 w B g N M rows T) {i : Nat} (hi : i < N) (k : Nat) (v : Int) : Tb2 (w.setCell ⟨rows i, k, none⟩ (.int .i64 v)) B g N M rows (fun i' k' => if i' = i ∧ k' = k then v else T i' k') := by
  obtain ⟨cur, h1, h2⟩ := h.outer
  refine ⟨⟨cur, (heap_setCell_other (Ne.symm (h.ne i hi)) _).trans h1, h2⟩, fun q hq => ?_, h.lo, h.lor, h.ne, h.inj⟩
  by_cases e : q = i
  · subst e
    rw [heap_setCell_self (h.inner q hq), rowA_set]
    congr 2
    refine rowA_congr fun k' _ => ?_
    simp
  · rw [heap_setCell_other (fun x => e (h.inj q i hq hi x)) _, h.inner q hq]
    congr 2
    refine rowA_congr fun k' _ => ?_
    simp [e]
theorem congr {U : Nat → Nat → Int} (h : Tb2 w B g N M rows T) (he : ∀ i k, i < N → k < M → T i k = U i k) : Tb2 w B g N M rows U :=
  ⟨h.outer, fun i hi => by rw [h.inner i hi, rowA_congr fun k hk => he i k hi hk], h.lo, h.lor, h.ne, h.inj⟩
end Tb2
end Go.Proofs.YtaelfjlmkgimhaaGreatDoor

set_option linter.unusedVariables false
set_option linter.unusedSimpArgs false
namespace Go.Proofs.YtaelfjlmkgimhaaGreatDoor
open Go.RowKit

/-- All blocks but some are as they were. -/
structure But (X : Nat → Prop) (w w' : World) : Prop where
  os : w'.os = w.os
  tape : w'.tape = w.tape
  output : w'.output = w.output
  size : w.heap.size ≤ w'.heap.size
  block : ∀ b, b < w.heap.size → ¬ X b → w'.heap[b]? = w.heap[b]?
namespace But
variable {X Y : Nat → Prop} {w w' w'' : World}
theorem refl (X : Nat → Prop) (w : World) : But X w w := ⟨rfl, rfl, rfl, Nat.le_refl _, fun _ _ _ => rfl⟩
theorem trans (h : But X w w') (k : But X w' w'') : But X w w'' :=
  ⟨k.os.trans h.os, k.tape.trans h.tape, k.output.trans h.output, Nat.le_trans h.size k.size, fun b hb hx => (k.block b (Nat.lt_of_lt_of_le hb h.size) hx).trans (h.block b hb hx)⟩
theorem below (h : Below w.heap.size w w') : But X w w' := ⟨h.os, h.tape, h.output, h.size, fun b hb _ => h.block b hb⟩
/-- What differs lies in the second world's new blocks, too. -/
theorem join {Z : Nat → Prop} (h : But X w w') (k : But Z w' w'') (hz : ∀ b, b < w.heap.size → Z b → X b) : But X w w'' :=
  ⟨k.os.trans h.os, k.tape.trans h.tape, k.output.trans h.output, Nat.le_trans h.size k.size, fun b hb hx => (k.block b (Nat.lt_of_lt_of_le hb h.size) (fun z => hx (hz b hb z))).trans (h.block b hb hx)⟩
theorem mono (h : But X w w') (k : ∀ b, b < w.heap.size → X b → Y b) : But Y w w' := ⟨h.os, h.tape, h.output, h.size, fun b hb hy => h.block b hb fun x => hy (k b hb x)⟩
theorem setc (h : But X w w') {b j : Nat} (v : Value) (hb : b < w.heap.size → X b) : But X w (w'.setCell ⟨b, j, none⟩ v) :=
  ⟨h.os, h.tape, h.output, by simpa [World.setCell] using h.size, fun b' hb' hx => by
    rw [Below.heap_setCell _ _ _ _ (by intro e; have e : b' = b := e; exact hx (e ▸ hb (e ▸ hb')))]; exact h.block b' hb' hx⟩
theorem drew (h : But X w w') : But X w w'.drew := ⟨h.os, h.tape, h.output, h.size, h.block⟩
theorem alloc (h : But X w w') (o : Obj) : But X w (w'.alloc o) := h.trans (below ((Below.refl _ _).alloc (Nat.le_refl _) _))
theorem put (h : But X w w') {D : Nat} (o' : Obj) (hD : w.heap.size ≤ D) : But X w (w'.putObj D o') :=
  ⟨h.os, h.tape, h.output, by simpa [World.putObj] using h.size, fun b hb hx => by rw [World.putObj_heap_other (by omega)]; exact h.block b hb hx⟩
theorem grown (h : But X w w') {row : Option Nat} (hg : w'.grownBy w'' row) (hr : ∀ r, row = some r → w.heap.size ≤ r) : But X w w'' :=
  ⟨hg.os.trans h.os, hg.tape.trans h.tape, hg.output.trans h.output, Nat.le_trans h.size hg.size, fun b hb hx =>
    (hg.block b (Nat.lt_of_lt_of_le hb h.size) (fun e => by have := hr b e.symm; omega)).trans (h.block b hb hx)⟩
theorem toBelow {B : Nat} (h : But X w w') (hB : B ≤ w.heap.size) (hX : ∀ b, X b → B ≤ b) : Below B w w' :=
  ⟨h.os, h.tape, h.output, h.size, fun b hb => h.block b (by omega) fun x => by have := hX b x; omega⟩
theorem keepS {S : Nat → Prop} (h : But X w w') (hS : ∀ b, S b → ¬ X b) : KeepS S w w' :=
  ⟨h.size, fun b cs t fr hs hb => by rw [h.block b (Array.getElem?_eq_some_iff.1 hb).1 (hS b hs)]; exact hb⟩
theorem at_ (h : But X w w') {b : Nat} {o : Obj} (hb : w.heap[b]? = some o) (hx : ¬ X b) : w'.heap[b]? = some o := by
  rw [h.block b (Array.getElem?_eq_some_iff.1 hb).1 hx]; exact hb
end But
/-- The library's variables lie below block B, and read as they should. -/
def EnvLo (B : Nat) (w : World) : Prop := ∀ W : World, (∀ b cs t fr, b < B → w.heap[b]? = some (.cells cs t fr) → W.heap[b]? = some (.cells cs t fr)) → Env W
theorem EnvLo.env {B : Nat} {w : World} (h : EnvLo B w) : Env w := h w fun _ _ _ _ _ h => h
theorem EnvLo.keep {B : Nat} {S : Nat → Prop} {w w' : World} (h : EnvLo B w) (hk : KeepS S w w') (hS : ∀ b, b < B → S b) : EnvLo B w' :=
  fun W hW => h W fun b cs t fr hb hc => hW b cs t fr hb (hk.2 b cs t fr (hS b hb) hc)
theorem EnvLo.below {B : Nat} {w w' : World} (h : EnvLo B w) (hb : Below B w w') : EnvLo B w' := h.keep (KeepS.belowB (S := fun b => b < B) hb hb.size fun _ h => h) fun _ h => h
theorem var_cells {P : Program} {w W : World} {n : Nat} (hk : ∀ b cs t fr, b < n → w.heap[b]? = some (.cells cs t fr) → W.heap[b]? = some (.cells cs t fr)) (hn : n = w.heap.size) {name : String} {x : Array Value} (h : w.var? P name = some x) : W.var? P name = some x := by
  unfold World.var? at h ⊢
  cases hg : P.globalNamed name with
  | none => rw [hg] at h; cases h
  | some g =>
    rw [hg] at h
    simp only [Option.bind_some] at h ⊢
    cases ho : w.heap[g]? with
    | none => rw [ho] at h; cases h
    | some o =>
      rw [ho] at h
      cases o with
      | cells cs t fr => rw [hk g cs t fr (by rw [hn]; exact (Array.getElem?_eq_some_iff.1 ho).1) ho]; exact h
      | _ => cases h
theorem Env.lo {w w' : World} (h : Env w) (hb : Below w.heap.size w w') : EnvLo w.heap.size w' := fun W hW => by
  obtain ⟨h1, ⟨t, p, h2⟩, ⟨t', p', h3⟩⟩ := h
  have hk : ∀ b cs t fr, b < w.heap.size → w.heap[b]? = some (.cells cs t fr) → W.heap[b]? = some (.cells cs t fr) := fun b cs t fr hlt hc => hW b cs t fr hlt ((hb.block b hlt).trans hc)
  exact ⟨var_cells hk rfl h1, ⟨t, p, var_cells hk rfl h2⟩, ⟨t', p', var_cells hk rfl h3⟩⟩
theorem RdA.mono {S S' : Nat → Prop} {w : World} {c : Cst} {v : AV} {l : List (List Tok)} {t : List Tok} {cols : List Cm} (h : RdA S w c v l t cols) (k : ∀ b, S b → b < w.heap.size → S' b) : RdA S' w c v l t cols :=
  ⟨h.hl.mono (rSl_ok rTok_ok) k, h.ht.mono rTok_ok k, h.hx.mono (rSl_ok rInt_ok) k⟩
/-- A table of numbers, with one of them changed. -/
def updN (T : Nat → Nat → Nat) (i k v : Nat) : Nat → Nat → Nat := fun i' k' => if i' = i ∧ k' = k then v else T i' k'
theorem updN_self {T : Nat → Nat → Nat} {i k v : Nat} : updN T i k v i k = v := by simp [updN]
theorem updN_ne {T : Nat → Nat → Nat} {i k v i' k' : Nat} (h : ¬ (i' = i ∧ k' = k)) : updN T i k v i' k' = T i' k' := by simp only [updN, if_neg h]
theorem updN_id {T : Nat → Nat → Nat} {i k i' k' : Nat} : updN T i k (T i k) i' k' = T i' k' := by
  unfold updN; split
  · rename_i e; rw [e.1, e.2]
  · rfl
theorem Tb2.own {W W' : World} {B n g N M : Nat} {rows : Nat → Nat} {T : Nat → Nat → Int} {row : Option Nat} (h : Tb2 W B g N M rows T) (hg : W.grownBy W' row) (hr : ∀ r, row = some r → n ≤ r ∧ ∃ o : Obj, W.heap[r]? = some o ∧ o.isCells = false) : Tb2 W' B g N M rows T := by
  refine h.same ?_ fun i hi => ?_
  · obtain ⟨cur, h1, -⟩ := h.outer
    rw [cells_own h1 hg hr, h1]
  · rw [cells_own (h.inner i hi) hg hr, h.inner i hi]
/-- What an entry becomes. -/
def entN (T : Nat → Nat → Nat) (i k : Nat) (L : List S3) : Nat := if L = [] then T i k else mvN T i k L
theorem stL_mem {c : Cst} {l : List (List Tok)} {t : List Tok} {cols : List Cm} {i k : Nat} {x : S3} (h : x ∈ stL c l t cols i k) :
    ((x.1 = 1 ∧ x.2.1 = 1 ∧ i < cols.length ∧ k < t.length) ∨ (x.1 = 1 ∧ x.2.1 = 0 ∧ i < cols.length) ∨ (x.1 = 0 ∧ x.2.1 = 1 ∧ k < t.length)) ∧ (c.ok → x.2.2 ≤ 1000 * l.length) := by
  unfold stL at h
  have hb := fun (hc : c.ok) col ko => besF_le hc l t col ko l.length
  by_cases h1 : i < cols.length <;> by_cases h2 : k < t.length
  · rw [if_pos h1, if_pos h2, if_pos h2] at h
    simp only [List.cons_append, List.nil_append, List.mem_cons, List.not_mem_nil, or_false] at h
    rcases h with rfl | rfl | rfl
    · exact ⟨.inl ⟨rfl, rfl, h1, h2⟩, fun hc => hb hc _ _⟩
    · exact ⟨.inr (.inl ⟨rfl, rfl, h1⟩), fun hc => hb hc _ _⟩
    · exact ⟨.inr (.inr ⟨rfl, rfl, h2⟩), fun hc => hb hc _ _⟩
  · rw [if_pos h1, if_neg h2, if_neg h2] at h
    simp only [List.append_nil, List.nil_append, List.mem_cons, List.not_mem_nil, or_false] at h
    subst h
    exact ⟨.inr (.inl ⟨rfl, rfl, h1⟩), fun hc => hb hc _ _⟩
  · rw [if_neg h1, if_pos h2] at h
    simp only [List.append_nil, List.nil_append, List.mem_cons, List.not_mem_nil, or_false] at h
    subst h
    exact ⟨.inr (.inr ⟨rfl, rfl, h2⟩), fun hc => hb hc _ _⟩
  · rw [if_neg h1, if_neg h2] at h
    simp at h
/-- A loop over an iterator whose assignment makes a box for what it is given. -/
theorem iter_box {α : Type} {n : Nat} {g : Operand} {ps : Array Tmp} {assign body : Code} {Q : Exit → Act → World → Prop} {a : Act} {w : World}
    (hn : 3 ≤ n) {gf : Nat} {lb : Array Value} (hg : a.eval g = .func (.func gf) #[] lb) (eg : ∀ args w, (callFunc gf args).run Tryz.prog w = .ok (.enter gf args) w)
    {encs : α → Array Value} {Kp : World → World → Prop} {S Sp : List α → Prop} {N : Nat} (hseq : SeqStopsK Fence.wide (n - 1) Tryz.prog gf lb encs Kp S Sp N w)
    (hKt : ∀ {A B C : World}, Kp A B → Kp B C → Kp A C) (hKb : ∀ (W : World) (l : Nat) (o o' : Obj), w.heap.size ≤ l → W.heap[l]? = some o → o.isCells = false → o.isWalk = false → Kp W (W.putObj l o')) (hps : ∀ x, (encs x).size = ps.size)
    (I : List α → World → Prop) (Ix : Code → List α → World → Prop) (hI : OwnFrom w.heap.size I) (hIx : ∀ c, OwnFrom w.heap.size (Ix c)) (h0 : I [] w) (cs : α → Array Value) (ty : TypeId)
    (hround : ∀ (l : Nat) (pre0 : List α) (x : α) (W : World) (K : Act → World → Prop), I pre0 W → (∀ (a' : Act) (W' : World) (b : Nat), KeepsFrom w.heap.size W W' → Kp W W' → I pre0 W' → W'.heap[b]? = some (.cells (cs x) ty (0, 0)) →
        (∀ (lv : Nat) (pre : List α) (W : World), W.heap[b]? = some (.cells (cs x) ty (0, 0)) → I pre W → pre.length < N → body.wpIn (Fence.wide.inRound lv) (n - 1 - 1) Tryz.prog (ownPostG w.heap.size Kp I Ix (pre ++ [x]) W) a' W) → K a' W') →
      assign.wpIn (Fence.wide.inRound l) (n - 1 - 1) Tryz.prog (Exit.then K (fun _ _ _ => False)) { tmps := (ps.zip (encs x)).foldl (fun t (p, v) => t.setIfInBounds p v) a.tmps, defers := [] } W)
    (hdone : ∀ (D : Nat) (xs : List α) (W : World), w.heap.size ≤ D → S xs → I xs W → W.heap[D]? = some (.deferred (some [])) → Q .normal { a with defers := { target := .collected D, args := #[] } :: a.defers } W)
    (hstop : ∀ (D : Nat) (c : Code) (pre : List α) (W : World), w.heap.size ≤ D → Sp pre → Ix c pre W → W.heap[D]? = some (.deferred (some [])) → c.wpIn Fence.wide n Tryz.prog Q { a with defers := { target := .collected D, args := #[] } :: a.defers } W) :
    (Code.rangeFunc g ps assign body).wpIn Fence.wide n Tryz.prog Q a w :=
  wpIn_rangeFunc_ownH (α := α) (n := n) (F := Fence.wide) rfl (by omega) hg trivial eg hseq hKt hKb (Below.refl _ _) hps I Ix hI hIx h0
    (fun x a' W => ∃ b, W.heap[b]? = some (.cells (cs x) ty (0, 0)) ∧ ∀ (lv : Nat) (pre : List α) (W : World), W.heap[b]? = some (.cells (cs x) ty (0, 0)) → I pre W → pre.length < N → body.wpIn (Fence.wide.inRound lv) (n - 1 - 1) Tryz.prog (ownPostG w.heap.size Kp I Ix (pre ++ [x]) W) a' W)
    (fun x a' _ W W' row ⟨b, h1, h2⟩ hg hr => ⟨b, cells_own h1 hg hr, h2⟩)
    (fun l pre x W K hi hK => hround l pre x W K hi fun a' W' b h1 h2 h3 h4 h5 => hK a' W' h1 h2 h3 ⟨b, h4, h5⟩)
    (fun l pre x a' W _ _ hi ⟨b, h1, h2⟩ hlt => h2 l pre W h1 hi hlt) hdone hstop
end Go.Proofs.YtaelfjlmkgimhaaGreatDoor

set_option linter.unusedVariables false
set_option linter.unusedSimpArgs false
namespace Go.Proofs.YtaelfjlmkgimhaaGreatDoor
open Go.RowKit Go.Shelf
attribute [local go_sem] Oper.semAt_some

theorem boxes3b (w : World) (A B C : Array Value) (ta tb tc : TypeId) : (((w.alloc (.cells A ta)).alloc (.cells B tb)).alloc (.cells C tc)).heap[w.heap.size]? = some (.cells A ta (0, 0)) ∧ (((w.alloc (.cells A ta)).alloc (.cells B tb)).alloc (.cells C tc)).heap[w.heap.size + 1]? = some (.cells B tb (0, 0)) ∧ (((w.alloc (.cells A ta)).alloc (.cells B tb)).alloc (.cells C tc)).heap[w.heap.size + 2]? = some (.cells C tc (0, 0)) := by
  refine ⟨?_, ?_, ?_⟩
  · rw [Below.heap_alloc _ _ _ (by simp; omega), Below.heap_alloc _ _ _ (by simp)]; exact World.alloc_heap_new _ _
  · rw [Below.heap_alloc _ _ _ (by simp)]; simpa using World.alloc_heap_new (w.alloc (.cells A ta)) (.cells B tb)
  · simpa using World.alloc_heap_new ((w.alloc (.cells A ta)).alloc (.cells B tb)) (.cells C tc)
theorem box3s {W : World} {b : Nat} {c0 c1 c2 : Value} {t : TypeId} (h : W.heap[b]? = some (.cells #[c0, c1, c2] t (0, 0))) : W.cell? ⟨b, 0, none⟩ = some c0 ∧ W.cell? ⟨b, 1, none⟩ = some c1 ∧ W.cell? ⟨b, 2, none⟩ = some c2 :=
  ⟨by rw [cell_row h]; rfl, by rw [cell_row h]; rfl, by rw [cell_row h]; rfl⟩
set_option maxRecDepth 100000 in
set_option maxHeartbeats 8000000 in
theorem fil_any (c : Cst) (v : AV) (l : List (List Tok)) (t : List Tok) (cols : List Cm) (bq ba g B i k : Nat) (rows : Nat → Nat) (T : Nat → Nat → Nat) (w : World) (hR : RdA (fun b => b < B) w c v l t cols) (hv : VdA c l t cols)
    (hT : Tb2 w B g (cols.length + 1) (t.length + 1) rows (fun i k => (T i k : Int))) (hTb : ∀ i k, T i k ≤ 1000000000) (h1 : w.heap[ba]? = some (.cells (v.arr c) 83 (0, 0))) (hvb : v.ba = some ⟨g, 0, none⟩ ∧ v.bn = cols.length + 1)
    (h2 : w.heap[bq]? = some (.cells #[.pointer (some ⟨ba, 0, none⟩)] 81 (0, 0))) (hi : i ≤ cols.length) (hk : k ≤ t.length) (hne : ∀ i, i ≤ cols.length → rows i ≠ ba ∧ rows i ≠ bq) (hcl : cols.length ≤ 1000) (hE : EnvLo B w) (hB : B ≤ w.heap.size) :
    Calls Tryz.prog 69 #[.int .i64 (i : Int), .int .i64 (k : Int), .pointer (some ⟨bq, 0, none⟩)] w fun e w' => (∃ u, e = .returned u) ∧
      Tb2 w' B g (cols.length + 1) (t.length + 1) rows (fun i' k' => (updN T i k (entN T i k (stL c l t cols i k)) i' k' : Int)) ∧ But (fun b => b = rows i) w w' := by
  obtain ⟨N, hN⟩ : ∃ N, N = cols.length + 1 := ⟨_, rfl⟩
  obtain ⟨M, hM⟩ : ∃ M, M = t.length + 1 := ⟨_, rfl⟩
  have hiN : i < N := by omega
  have hkM : k < M := by omega
  have htb := hR.ht.bound
  have hMb : M ≤ 2000000000000 := by have := hR.ht.len; omega
  have HLB : Hid (∀ x ∈ stL c l t cols i k, x.2.2 ≤ 32000) := fun x hx => by have := (stL_mem hx).2 hv.ok; have := hv.vl.n; omega
  have HLM : Hid (∀ x ∈ stL c l t cols i k, i + x.1 < N ∧ k + x.2.1 < M ∧ ¬ (i + x.1 = i ∧ k + x.2.1 = k)) := fun x hx => by have := (stL_mem hx).1; omega
  have HST := Lib.hid (fun (S : Nat → Prop) (bi bA bk : Nat) (W : World) (hRW : RdA S W c v l t cols) (e1 : W.heap[bi]? = some (.cells #[.int .i64 (i : Int)] 3 (0, 0))) (e2 : W.heap[bA]? = some (.cells (v.arr c) 83 (0, 0))) (e3 : W.heap[bk]? = some (.cells #[.int .i64 (k : Int)] 3 (0, 0))) s1 s2 s3 hKE => stp_stops 9 S c v l t cols bi bA bk i k W hRW hv e1 e2 e3 s1 s2 s3 hKE)
  rw [← hN, ← hM] at hT
  rw [← hN] at hvb
  rw [← hN, ← hM]
  have hne' : ∀ i, i < N → rows i ≠ ba ∧ rows i ≠ bq := fun i h => hne i (by omega)
  clear hne
  obtain ⟨L, hL⟩ : ∃ L, L = stL c l t cols i k := ⟨_, rfl⟩
  rw [← hL] at HLB HLM HST ⊢
  have HLE := Lib.hid hL
  have HNB : Hid (N ≤ 1001) := by show N ≤ 1001; omega
  clear hL hN hM hi hk htb hcl
  refine (callsIn_wide (n := 10)).1 ?_
  refine callsIn_of_wp_marks Tryz.func69 rfl trivial ?_ rfl
  simp only [Tryz.ntmps69, List.size_toArray, List.length_cons, List.length_nil, Nat.reduceAdd, Nat.reduceSub, Array.replicate_succ, Array.replicate_zero, List.push_toArray, List.append_toArray, List.nil_append, List.cons_append]
  gi_wp2
  have hb3 : Below w.heap.size w (((w.alloc (.cells #[.int .i64 (i : Int)] 3)).alloc (.cells #[.int .i64 (k : Int)] 3)).alloc (.cells #[.bool true] 4)) := (((Below.refl _ _).alloc (Nat.le_refl _) _).alloc (by simp) _).alloc (by simp; omega) _
  obtain ⟨b1, b2, b3⟩ := boxes3b w #[.int .i64 (i : Int)] #[.int .i64 (k : Int)] #[.bool true] 3 3 4
  have hs3 : ((((w.alloc (.cells #[.int .i64 (i : Int)] 3)).alloc (.cells #[.int .i64 (k : Int)] 3)).alloc (.cells #[.bool true] 4))).heap.size = w.heap.size + 3 := by simp
  generalize (((w.alloc (.cells #[.int .i64 (i : Int)] 3)).alloc (.cells #[.int .i64 (k : Int)] 3)).alloc (.cells #[.bool true] 4)) = W3 at *
  have hbqs : bq < w.heap.size := (Array.getElem?_eq_some_iff.1 h2).1
  have hbas : ba < w.heap.size := (Array.getElem?_eq_some_iff.1 h1).1
  have hrs : ∀ i, i < N → rows i < w.heap.size := fun i h => hT.rlt h
  have hgs : g < w.heap.size := hT.glt
  have hdw : Below w.heap.size w W3.drew := hb3.drew
  have g1 : W3.drew.heap[ba]? = _ := (hb3.block _ hbas).trans h1
  have g2 : W3.drew.heap[bq]? = _ := (hb3.block _ hbqs).trans h2
  have m0 := (one_box ((hb3.block _ hbqs).trans h2)).1
  have m1 := (one_box b1).1
  have m2 := (one_box b2).1
  replace b1 : W3.drew.heap[w.heap.size]? = _ := b1
  replace b2 : W3.drew.heap[w.heap.size + 1]? = _ := b2
  replace b3 : W3.drew.heap[w.heap.size + 2]? = _ := b3
  replace hs3 : W3.drew.heap.size = w.heap.size + 3 := hs3
  have HRW := Lib.hid ((hR.keep (KeepS.below hdw)))
  have HEW := Lib.hid (hE.below (hdw.mono hB))
  have HTW := Lib.hid (hT.below hdw)
  have HT0 := Lib.hid hT
  have HG := Lib.hid (And.intro g1 (And.intro g2 (And.intro b1 (And.intro b2 b3))))
  have HN := Lib.hid (And.intro hs3 (And.intro hbqs (And.intro hbas (And.intro hrs (And.intro hgs (And.intro hne' hB))))))
  have HDW := Lib.hid hdw
  have HTB := Lib.hid hTb
  have s := (hb3.block _ hbas).trans h1
  clear hR hv hT hTb hE g1 g2 b1 b2 b3 hs3 hbqs hbas hrs hgs hne' hB hdw h1 h2
  obtain ⟨cg, cn, cl, cm⟩ := c
  obtain ⟨la, ln, lp, xa, xn, xp, ta, tn, tp, ba0, bn, bp⟩ := v
  obtain ⟨e1, e2⟩ := hvb
  dsimp only at e1 e2
  subst e1
  obtain rfl := e2.symm
  dsimp only [AV.arr] at s
  obtain ⟨s0, s1, s2, s3, s4, s5, s6, s7, -⟩ := box8 s
  clear s
  obtain ⟨X, Wf, hX, hS1, hS2⟩ := family (fun V => Below W3.heap.size W3 V) W3 (Below.refl _ _)
  have HS2 := Lib.hid hS2
  have q_m0 := fun x => cell_later (hS1 x) m0
  have q_m1 := fun x => cell_later (hS1 x) m1
  have q_m2 := fun x => cell_later (hS1 x) m2
  have q_s0 := fun x => cell_later (hS1 x) s0
  have q_s1 := fun x => cell_later (hS1 x) s1
  have q_s2 := fun x => cell_later (hS1 x) s2
  have q_s3 := fun x => cell_later (hS1 x) s3
  have q_s4 := fun x => cell_later (hS1 x) s4
  have q_s5 := fun x => cell_later (hS1 x) s5
  have q_s6 := fun x => cell_later (hS1 x) s6
  have q_s7 := fun x => cell_later (hS1 x) s7
  clear hS1 hS2
  have hd0 : Below W3.heap.size W3 W3.drew := (Below.refl _ _).drew
  clear hb3
  refine wpIn_region_treA (Wf := Wf) 5 (.read 0 (.read 1 (.read 2 (.read 3 (.read 4 .fin))))) (by kernel_rfl) (by kernel_rfl) (HS2.out _ hd0) ?_
  refine wpTreA_read _ rfl (fun K hK => ?_); unfold rOp; go_simp; (refine hK _ ?_; clear hK K)
  refine wpTreA_read _ rfl (fun K hK => ?_); unfold rOp; go_simp; (refine hK _ ?_; clear hK K)
  refine wpTreA_read _ rfl (fun K hK => ?_); unfold rOp; go_simp; (refine hK _ ?_; clear hK K)
  refine wpTreA_read _ rfl (fun K hK => ?_); unfold rOp; go_simp; (refine hK _ ?_; clear hK K)
  refine wpTreA_read _ rfl (fun K hK => ?_); unfold rOp; go_simp; (refine hK _ ?_; clear hK K)
  refine wpTreA_fin ?_
  clear q_m0 q_m1 q_m2 q_s0 q_s1 q_s2 q_s3 q_s4 q_s5 q_s6 q_s7 m0 m1 m2 s0 s1 s2 s3 s4 s5 s6 s7 HS2 hX hd0
  clear X Wf
  generalize W3.drew = wd at *
  simp only [List.drop_succ_cons, List.drop_zero]
  gi_wp2_with (fail)
  refine ⟨trivial, ?_⟩
  refine (stp_in _ wd ⟨cg, cn, cl, cm⟩ ⟨la, ln, lp, xa, xn, xp, ta, tn, tp, some ⟨g, 0, none⟩, N, bp⟩ i k).mono ?_
  rintro e w5 ⟨rfl, hw5⟩
  gi_wp2_with (fail)
  have hb5 : Below wd.heap.size wd w5 := by rw [hw5]; exact (((Below.refl _ _).alloc (Nat.le_refl _) _).alloc (by simp) _).alloc (by simp; omega) _
  obtain ⟨c1, c2, c3⟩ := boxes3b wd (AV.arr ⟨la, ln, lp, xa, xn, xp, ta, tn, tp, some ⟨g, 0, none⟩, N, bp⟩ ⟨cg, cn, cl, cm⟩) #[.int .i64 (i : Int)] #[.int .i64 (k : Int)] 83 3 3
  have hs5 : w5.heap.size = wd.heap.size + 3 := by rw [hw5]; simp
  rw [← hw5] at c1 c2 c3
  rw [← hw5]
  clear hw5
  have HB5 := Lib.hid hb5
  have HC := Lib.hid (And.intro c1 (And.intro c2 c3))
  have HS5 := Lib.hid hs5
  clear hb5 c1 c2 c3 hs5
  have hIo : OwnFrom w5.heap.size (fun (pre : List (Stp L)) (W : World) => ∃ (vv : Nat) (fl : Bool), ((pre = [] → vv = T i k ∧ fl = true) ∧ (pre ≠ [] → vv = mvN T i k (pre.map (·.1)) ∧ fl = false)) ∧ Tb2 W B g N M rows (fun i' k' => (updN T i k vv i' k' : Int)) ∧
      W.heap[w.heap.size + 2]? = some (.cells #[.bool fl] 4 (0, 0)) ∧ But (fun b => b = rows i ∨ b = w.heap.size + 2) w5 W) := by
    rintro pre W W' row ⟨vv, fl, g1, g2, g3, g4⟩ hg hr
    exact ⟨vv, fl, g1, g2.own hg hr, cells_own g3 hg hr, g4.grown hg (fun r e => (hr r e).1)⟩
  have hHI := Lib.hid hIo
  have hri := HN.out.2.2.2.1 i hiN
  have HRI := Lib.hid hri
  have hKE : ∀ V, KeepS (fun b => b ≠ rows i ∧ b ≠ w.heap.size + 2) w5 V → Env V := fun V hV =>
    ((HEW.out.keep (KeepS.below HB5.out) (S := fun _ => True) (fun _ _ => trivial)).keep hV (fun b hb => by have := HTW.out.lor i hiN; have := HN.out.2.2.2.2.2.2; omega)).env
  refine iter_box (α := Stp L) (n := 10) (by omega) rfl (enters_of Tryz.func70 (by kernel_rfl) rfl)
    (HST.out (fun b => b ≠ rows i ∧ b ≠ w.heap.size + 2) (wd.heap.size + 1) wd.heap.size (wd.heap.size + 2) w5 ((HRW.out.keep (KeepS.below HB5.out)).mono (fun b hb _ => by have := HTW.out.lor i hiN; have := HN.out.2.2.2.2.2.2; omega))
      HC.out.2.1 HC.out.1 HC.out.2.2 (by have := HN.out.1; omega) (by have := HN.out.1; omega) (by have := HN.out.1; omega) hKE)
    KeepS.trans (fun W z o o' _ ho hc _ => KeepS.putObj W ho hc o') (fun _ => rfl) _ (fun _ _ _ => False) hIo ?hIx
    ⟨T i k, true, ⟨fun _ => ⟨rfl, rfl⟩, fun h => absurd rfl h⟩, ((HTW.out.below HB5.out).congr fun i' k' _ _ => by rw [updN_id]), (HB5.out.block _ (by have := HN.out.1; omega)).trans HG.out.2.2.2.2, But.refl _ _⟩
    (fun x => #[.int .i64 (x.1.1 : Int), .int .i64 (x.1.2.1 : Int), .int .i64 (x.1.2.2 : Int)]) 88 ?round ?done ?stop
  all_goals clear hIo hKE
  case hIx => rintro c' pre W W' row h; exact h.elim
  case stop => rintro D c' pre W hD hp h; exact h.elim
  case round =>
    rintro lv pre0 ⟨⟨di, dk, cst⟩, hx⟩ W K hI0 hK
    dsimp only [stEnc]
    gi_wp2
    refine hK _ _ W.heap.size (keepsFrom_below ((Below.refl _ _).alloc (Nat.le_refl _) _)) (KeepS.alloc _ _ _) (hHI.out.alloc _ hI0) (World.alloc_heap_new _ _) ?_
    clear hK hI0 hHI
    generalize W.heap.size = bs at *
    clear W
    rintro lv2 pre W hbs ⟨vv, fl, g1, g2, g3, g4⟩ hlt
    obtain ⟨y1, y2, y3⟩ := HLM.out _ hx
    have y4 := HLB.out _ hx
    dsimp only at y1 y2 y3 y4
    obtain ⟨I2, hI2⟩ : ∃ I2, I2 = i + di := ⟨_, rfl⟩
    obtain ⟨K2, hK2⟩ : ∃ K2, K2 = k + dk := ⟨_, rfl⟩
    rw [← hI2, ← hK2] at y3
    rw [← hI2] at y1
    rw [← hK2] at y2
    have r1 := g2.cellI y1 y2
    rw [updN_ne y3] at r1
    have o1 := g2.cellO y1
    obtain ⟨tv, htv⟩ : ∃ tv, tv = T I2 K2 := ⟨_, rfl⟩
    have htb := HTB.out I2 K2
    rw [← htv] at r1 htb
    obtain ⟨Zx, hZx⟩ : ∃ Zx, Zx = cst + tv := ⟨_, rfl⟩
    have hzi : (cst : Int) + (tv : Int) = (Zx : Int) := by omega
    have hzw : IntKind.i64.wrap (Zx : Int) = (Zx : Int) := by rw [IntKind.wrap_i64]; omega
    have hii : (i : Int) + (di : Int) = (I2 : Int) := by omega
    have hiw : IntKind.i64.wrap (I2 : Int) = (I2 : Int) := by rw [IntKind.wrap_i64]; have := HRW.out.hx.bound; have := HRW.out.hx.len; have := HNB.out; omega
    have hki : (k : Int) + (dk : Int) = (K2 : Int) := by omega
    have hkw : IntKind.i64.wrap (K2 : Int) = (K2 : Int) := by rw [IntKind.wrap_i64]; omega
    have HM1 : Hid (mvN T i k [(⟨di, dk, cst⟩ : S3)] = Zx) := by
      show mvN T i k [(⟨di, dk, cst⟩ : S3)] = Zx
      rw [mvN_one, hZx, htv, hI2, hK2]
    have HMS : Hid (pre ≠ [] → mvN T i k ((pre ++ [(⟨(di, dk, cst), hx⟩ : Stp L)]).map (fun x => x.1)) = min (mvN T i k (pre.map (fun x => x.1))) Zx) := fun hp => by
      rw [List.map_append, List.map_singleton, mvN_snoc (by simpa using hp), hZx, htv, hI2, hK2]
    obtain ⟨x0, x1, x2⟩ := box3s hbs
    have AT : ∀ (b : Nat) (o : Obj), b ≠ rows i → b ≠ w.heap.size + 2 → wd.heap[b]? = some o → W.heap[b]? = some o := fun b o h1 h2 h =>
      g4.at_ ((HB5.out.block _ (Array.getElem?_eq_some_iff.1 h).1).trans h) (by rintro (e | e) <;> contradiction)
    obtain ⟨n1, n2, n3, n4, n5, n6, n7⟩ := HN.out
    have n8 := n6 i hiN
    have m0 := (one_box (AT bq _ n8.2.symm (by omega) HG.out.2.1)).1
    have m1 := (one_box (AT w.heap.size _ (by have := HRI.out; omega) (by omega) HG.out.2.2.1)).1
    have m2 := (one_box (AT (w.heap.size + 1) _ (by have := HRI.out; omega) (by omega) HG.out.2.2.2.1)).1
    have m3 : W.cell? ⟨w.heap.size + 1 + 1, 0, none⟩ = some (.bool fl) := (one_box g3).1
    have s7 := (box8 (AT ba _ n8.1.symm (by omega) HG.out.1)).2.2.2.2.2.2.2.1
    have o2 := g2.cellO hiN
    have r2 := g2.cellI hiN hkM
    rw [updN_self] at r2
    have HI := Lib.hid (And.intro g1 (And.intro g2 (And.intro g3 g4)))
    have hsg : w.heap.size + 2 < w5.heap.size ∧ rows i < w5.heap.size := by have := HRI.out; have := HS5.out; omega
    have HSG := Lib.hid hsg
    have HZ := Lib.hid hZx
    have HT1 := Lib.hid (And.intro htv (And.intro hI2 hK2))
    clear g1 g2 g3 g4 AT n1 n2 n3 n4 n5 n6 n7 n8 hsg hbs hZx htv htb hI2 hK2 y3 y4 hlt
    gi_wp2_with (fail)
    obtain ⟨X, Wf, hX, hS1, hS2⟩ := family (fun V => Below W.heap.size W V) W (Below.refl _ _)
    have HS2 := Lib.hid hS2
    have q_m0 := fun x => cell_later (hS1 x) m0
    have q_m1 := fun x => cell_later (hS1 x) m1
    have q_m2 := fun x => cell_later (hS1 x) m2
    have q_s7 := fun x => cell_later (hS1 x) s7
    have q_x0 := fun x => cell_later (hS1 x) x0
    have q_x1 := fun x => cell_later (hS1 x) x1
    have q_x2 := fun x => cell_later (hS1 x) x2
    have q_o1 := fun x => cell_later (hS1 x) o1
    have q_r1 := fun x => cell_later (hS1 x) r1
    clear hS1 hS2
    have hd0 : Below W.heap.size W W.drew := (Below.refl _ _).drew
    refine wpIn_region_round (by kernel_rfl) (by kernel_rfl) (fun _ _ h => h) (wpAny_tree (Wf := Wf) 19 (.read 0 (.read 1 (.read 2 (.read 3 (.read 4 (.read 5 (.read 6 (.read 7 (.read 8 (.read 9 (.read 10 (.read 11 (.read 12 (.read 13 (.read 14 (.read 15 (.read 16 (.read 17 (.read 18 .fin))))))))))))))))))) (by kernel_rfl) (fun _ _ d _ _ h => by cases d <;> exact h) (HS2.out _ hd0) ?_)
    refine wpTree_read _ rfl (fun K hK => ?_); unfold rOp; go_simp; (refine hK _ ?_; clear hK K)
    refine wpTree_read _ rfl (fun K hK => ?_); unfold rOp; go_simp; (refine hK _ ?_; clear hK K)
    refine wpTree_read _ rfl (fun K hK => ?_); unfold rOp; go_simp; (refine hK _ ?_; clear hK K)
    refine wpTree_read _ rfl (fun K hK => ?_); unfold rOp; go_simp; (refine hK _ ?_; clear hK K)
    refine wpTree_read _ rfl (fun K hK => ?_); unfold rOp; go_simp; (refine hK _ ?_; clear hK K)
    refine wpTree_read _ rfl (fun K hK => ?_); unfold rOp; go_simp; (refine hK _ ?_; clear hK K)
    refine wpTree_read _ rfl (fun K hK => ?_); unfold rOp; go_simp; (refine hK _ ?_; clear hK K)
    refine wpTree_read _ rfl (fun K hK => ?_); unfold rOp; go_simp; (refine hK _ ?_; clear hK K)
    refine wpTree_read _ rfl (fun K hK => ?_); unfold rOp; go_simp; (refine hK _ ?_; clear hK K)
    refine wpTree_read _ rfl (fun K hK => ?_); unfold rOp; go_simp; (refine hK _ ?_; clear hK K)
    refine wpTree_read _ rfl (fun K hK => ?_); unfold rOp; go_simp; (refine hK _ ?_; clear hK K)
    refine wpTree_read _ rfl (fun K hK => ?_); unfold rOp; go_simp; (refine hK _ ?_; clear hK K)
    refine wpTree_read _ rfl (fun K hK => ?_); unfold rOp; go_simp; (refine hK _ ?_; clear hK K)
    refine wpTree_read _ rfl (fun K hK => ?_); unfold rOp; go_simp; (refine hK _ ?_; clear hK K)
    refine wpTree_read _ rfl (fun K hK => ?_); unfold rOp; go_simp; (refine hK _ ?_; clear hK K)
    refine wpTree_read _ rfl (fun K hK => ?_); unfold rOp; go_simp; (refine hK _ ?_; clear hK K)
    refine wpTree_read _ rfl (fun K hK => ?_); unfold rOp; go_simp; (refine hK _ ?_; clear hK K)
    refine wpTree_read _ rfl (fun K hK => ?_); unfold rOp; go_simp; (refine hK _ ?_; clear hK K)
    refine wpTree_read _ rfl (fun K hK => ?_); unfold rOp; go_simp; (refine hK _ ?_; clear hK K)
    refine wpTree_fin ?_
    clear q_m0 q_m1 q_m2 q_s7 q_x0 q_x1 q_x2 q_o1 q_r1 HS2 hX
    clear X Wf
    have hw1 : W.heap.size ≤ W.drew.heap.size := Nat.le_refl _
    replace m0 := cell_later hd0 m0
    replace m1 := cell_later hd0 m1
    replace m2 := cell_later hd0 m2
    replace m3 := cell_later hd0 m3
    replace s7 := cell_later hd0 s7
    replace o2 := cell_later hd0 o2
    replace r2 := cell_later hd0 r2
    have HW1 := Lib.hid hd0
    clear x0 x1 x2 o1 r1 hd0 hw1
    generalize W.drew = W1 at *
    go_wp2_with fail
    gi_wp2_with (fail)
    have HW0 : Hid (KeepsFrom w5.heap.size W W1 ∧ KeepS (fun b => b ≠ rows i ∧ b ≠ w.heap.size + 2) W W1 ∧ W.heap.size ≤ W1.heap.size ∧ Below W.heap.size W W1) := ⟨keepsFrom_below HW1.out, KeepS.below HW1.out, HW1.out.size, HW1.out⟩
    clear HW1
    by_cases hp : pre = []
    · obtain ⟨hvv, hfl⟩ := HI.out.1.1 hp
      have HVN : Hid (Zx = mvN T i k ((pre ++ [(⟨(di, dk, cst), hx⟩ : Stp L)]).map (fun x => x.1))) := by
        show _ = _
        rw [hp]; exact HM1.out.symm
      subst hfl
      clear hvv hp
      obtain ⟨X, Wf, hX, hS1, hS2⟩ := family (fun V => Below W1.heap.size W1 V) W1 (Below.refl _ _)
      have HS2 := Lib.hid hS2
      have q_m0 := fun x => cell_later (hS1 x) m0
      have q_m1 := fun x => cell_later (hS1 x) m1
      have q_m2 := fun x => cell_later (hS1 x) m2
      have q_m3 := fun x => cell_later (hS1 x) m3
      have q_s7 := fun x => cell_later (hS1 x) s7
      have q_o2 := fun x => cell_later (hS1 x) o2
      have q_r2 := fun x => cell_later (hS1 x) r2
      clear hS1 hS2
      have hd0 : Below W1.heap.size W1 W1.drew := (Below.refl _ _).drew
      refine wpIn_region_round (by kernel_rfl) (by kernel_rfl) (fun _ _ h => h) (wpAny_tree (Wf := Wf) 14 (.read 0 (.read 1 (.read 2 (.read 3 (.read 4 (.read 5 (.read 6 (.read 7 (.read 8 (.read 9 (.read 10 (.read 11 (.read 12 (.read 13 .fin)))))))))))))) (by kernel_rfl) (fun _ _ d _ _ h => by cases d <;> exact h) (HS2.out _ hd0) ?_)
      refine wpTree_read _ rfl (fun K hK => ?_); unfold rOp; go_simp; (refine hK _ ?_; clear hK K)
      refine wpTree_read _ rfl (fun K hK => ?_); unfold rOp; go_simp; (refine hK _ ?_; clear hK K)
      refine wpTree_read _ rfl (fun K hK => ?_); unfold rOp; go_simp; (refine hK _ ?_; clear hK K)
      refine wpTree_read _ rfl (fun K hK => ?_); unfold rOp; go_simp; (refine hK _ ?_; clear hK K)
      refine wpTree_read _ rfl (fun K hK => ?_); unfold rOp; go_simp; (refine hK _ ?_; clear hK K)
      refine wpTree_read _ rfl (fun K hK => ?_); unfold rOp; go_simp; (refine hK _ ?_; clear hK K)
      refine wpTree_read _ rfl (fun K hK => ?_); unfold rOp; go_simp; (refine hK _ ?_; clear hK K)
      refine wpTree_read _ rfl (fun K hK => ?_); unfold rOp; go_simp; (refine hK _ ?_; clear hK K)
      refine wpTree_read _ rfl (fun K hK => ?_); unfold rOp; go_simp; (refine hK _ ?_; clear hK K)
      refine wpTree_read _ rfl (fun K hK => ?_); unfold rOp; go_simp; (refine hK _ ?_; clear hK K)
      refine wpTree_read _ rfl (fun K hK => ?_); unfold rOp; go_simp; (refine hK _ ?_; clear hK K)
      refine wpTree_read _ rfl (fun K hK => ?_); unfold rOp; go_simp; (refine hK _ ?_; clear hK K)
      refine wpTree_read _ rfl (fun K hK => ?_); unfold rOp; go_simp; (refine hK _ ?_; clear hK K)
      refine wpTree_read _ rfl (fun K hK => ?_); unfold rOp; go_simp; (refine hK _ ?_; clear hK K)
      refine wpTree_fin ?_
      clear q_m0 q_m1 q_m2 q_m3 q_s7 q_o2 q_r2 HS2 hX
      clear X Wf
      replace m0 := cell_later hd0 m0
      replace m1 := cell_later hd0 m1
      replace m2 := cell_later hd0 m2
      replace m3 := cell_later hd0 m3
      replace s7 := cell_later hd0 s7
      replace o2 := cell_later hd0 o2
      replace r2 := cell_later hd0 r2
      have HW2 := Lib.hid hd0
      clear hd0
      generalize W1.drew = W2 at *
      go_wp2_with fail
      gi_wp2_with (fail)
      obtain ⟨X, Wf, hX, hS1, hS2⟩ := family (fun V => Below W2.heap.size W2 V) W2 (Below.refl _ _)
      have HS2 := Lib.hid hS2
      have q_m0 := fun x => cell_later (hS1 x) m0
      have q_m1 := fun x => cell_later (hS1 x) m1
      have q_m2 := fun x => cell_later (hS1 x) m2
      have q_s7 := fun x => cell_later (hS1 x) s7
      have q_o2 := fun x => cell_later (hS1 x) o2
      clear hS1 hS2
      have hd0 : Below W2.heap.size W2 W2.drew := (Below.refl _ _).drew
      refine wpIn_region_round (by kernel_rfl) (by kernel_rfl) (fun _ _ h => h) (wpAny_tree (Wf := Wf) 10 (.read 0 (.read 1 (.read 2 (.read 3 (.read 4 (.read 5 (.read 6 (.read 7 (.read 8 (.read 9 .fin)))))))))) (by kernel_rfl) (fun _ _ d _ _ h => by cases d <;> exact h) (HS2.out _ hd0) ?_)
      refine wpTree_read _ rfl (fun K hK => ?_); unfold rOp; go_simp; (refine hK _ ?_; clear hK K)
      refine wpTree_read _ rfl (fun K hK => ?_); unfold rOp; go_simp; (refine hK _ ?_; clear hK K)
      refine wpTree_read _ rfl (fun K hK => ?_); unfold rOp; go_simp; (refine hK _ ?_; clear hK K)
      refine wpTree_read _ rfl (fun K hK => ?_); unfold rOp; go_simp; (refine hK _ ?_; clear hK K)
      refine wpTree_read _ rfl (fun K hK => ?_); unfold rOp; go_simp; (refine hK _ ?_; clear hK K)
      refine wpTree_read _ rfl (fun K hK => ?_); unfold rOp; go_simp; (refine hK _ ?_; clear hK K)
      refine wpTree_read _ rfl (fun K hK => ?_); unfold rOp; go_simp; (refine hK _ ?_; clear hK K)
      refine wpTree_read _ rfl (fun K hK => ?_); unfold rOp; go_simp; (refine hK _ ?_; clear hK K)
      refine wpTree_read _ rfl (fun K hK => ?_); unfold rOp; go_simp; (refine hK _ ?_; clear hK K)
      refine wpTree_read _ rfl (fun K hK => ?_); unfold rOp; go_simp; (refine hK _ ?_; clear hK K)
      refine wpTree_fin ?_
      clear q_m0 q_m1 q_m2 q_s7 q_o2 HS2 hX
      clear X Wf
      replace m3 := cell_later hd0 m3
      replace r2 := cell_later hd0 r2
      clear m0 m1 m2 s7 o2
      obtain ⟨g1, g2, g3, g4⟩ := HI.out
      have hb3 : Below W.heap.size W W2.drew := (HW0.out.2.2.2.trans (HW2.out.mono HW0.out.2.2.1)).trans (hd0.mono (Nat.le_trans HW0.out.2.2.1 HW2.out.size))
      replace g2 := g2.below hb3
      replace g3 := (hb3.block _ (Array.getElem?_eq_some_iff.1 g3).1).trans g3
      replace g4 : But (fun b => b = rows i ∨ b = w.heap.size + 2) w5 W2.drew := g4.join (But.below hb3 (X := fun _ => False)) (fun b _ h => h.elim)
      clear hd0
      generalize W2.drew = W3 at *
      have f3 := g2.freeI hiN k
      have hri0 : rows i ≠ w.heap.size + 2 := by have := HRI.out; omega
      have f4 : (W3.setCell ⟨rows i, k, none⟩ (.int .i64 (Zx : Int))).frozen? ⟨w.heap.size + 1 + 1, 0, none⟩ = false := (one_box ((heap_setCell_other hri0.symm _).trans g3)).2
      have m4 : (W3.setCell ⟨rows i, k, none⟩ (.int .i64 (Zx : Int))).cell? ⟨w.heap.size + 1 + 1, 0, none⟩ = some (.bool _) := (one_box ((heap_setCell_other hri0.symm _).trans g3)).1
      have e2 := (g2.put hiN k (Zx : Int)).setOther (b := w.heap.size + 2) (k := 0) (by have := HN.out.2.2.2.2.1; omega) (fun i' h' => by have := HN.out.2.2.2.1 i' h'; omega) (.bool false)
      have e3 := one_set ((heap_setCell_other (j := k) hri0.symm (.int .i64 (Zx : Int))).trans g3) (.bool false)
      have e4 := (g4.setc (b := rows i) (j := k) (.int .i64 (Zx : Int)) (fun _ => .inl rfl)).setc (b := w.heap.size + 2) (j := 0) (.bool false) (fun _ => .inr rfl)
      have e5 : KeepsFrom w5.heap.size W ((W3.setCell ⟨rows i, k, none⟩ (.int .i64 (Zx : Int))).setCell ⟨w.heap.size + 2, 0, none⟩ (.bool false)) := keepsFrom_setc (keepsFrom_setc (keepsFrom_below hb3) HSG.out.2 _) HSG.out.1 _
      have e6 : KeepS (fun b => b ≠ rows i ∧ b ≠ w.heap.size + 2) W ((W3.setCell ⟨rows i, k, none⟩ (.int .i64 (Zx : Int))).setCell ⟨w.heap.size + 2, 0, none⟩ (.bool false)) := ((KeepS.below hb3).trans (KeepS.setCell _ (by simp) _)).trans (KeepS.setCell _ (by simp) _)
      have HEND := Lib.hid (And.intro e2 (And.intro e3 (And.intro e4 (And.intro e5 e6))))
      clear e2 e3 e4 e5 e6 g1 g2 g3 g4 hb3
      go_wp2_with fail
      obtain ⟨z2, z3, z4, z5, z6⟩ := HEND.out
      exact ⟨z5, z6, Zx, false, ⟨fun h => by simp at h, fun _ => ⟨HVN.out, rfl⟩⟩, z2.congr (fun i' k' _ _ => by by_cases e : i' = i ∧ k' = k <;> simp [updN, e]), z3, z4⟩
    · obtain ⟨hvv, hfl⟩ := HI.out.1.2 hp
      subst hfl
      by_cases hlt : Zx < vv
      · have HVN : Hid (Zx = mvN T i k ((pre ++ [(⟨(di, dk, cst), hx⟩ : Stp L)]).map (fun x => x.1))) := by
          show _ = _
          rw [HMS.out hp, ← hvv]; omega
        have d1 : decide ((Zx : Int) < (vv : Int)) = true := decide_eq_true (by omega)
        have d2 : decide (Zx < vv) = true := decide_eq_true hlt
        clear hvv hp hlt
        obtain ⟨X, Wf, hX, hS1, hS2⟩ := family (fun V => Below W1.heap.size W1 V) W1 (Below.refl _ _)
        have HS2 := Lib.hid hS2
        have q_m0 := fun x => cell_later (hS1 x) m0
        have q_m1 := fun x => cell_later (hS1 x) m1
        have q_m2 := fun x => cell_later (hS1 x) m2
        have q_m3 := fun x => cell_later (hS1 x) m3
        have q_s7 := fun x => cell_later (hS1 x) s7
        have q_o2 := fun x => cell_later (hS1 x) o2
        have q_r2 := fun x => cell_later (hS1 x) r2
        clear hS1 hS2
        have hd0 : Below W1.heap.size W1 W1.drew := (Below.refl _ _).drew
        refine wpIn_region_round (by kernel_rfl) (by kernel_rfl) (fun _ _ h => h) (wpAny_tree (Wf := Wf) 14 (.read 0 (.read 1 (.read 2 (.read 3 (.read 4 (.read 5 (.read 6 (.read 7 (.read 8 (.read 9 (.read 10 (.read 11 (.read 12 (.read 13 .fin)))))))))))))) (by kernel_rfl) (fun _ _ d _ _ h => by cases d <;> exact h) (HS2.out _ hd0) ?_)
        refine wpTree_read _ rfl (fun K hK => ?_); unfold rOp; go_simp; (refine hK _ ?_; clear hK K)
        refine wpTree_read _ rfl (fun K hK => ?_); unfold rOp; go_simp; (refine hK _ ?_; clear hK K)
        refine wpTree_read _ rfl (fun K hK => ?_); unfold rOp; go_simp; (refine hK _ ?_; clear hK K)
        refine wpTree_read _ rfl (fun K hK => ?_); unfold rOp; go_simp; (refine hK _ ?_; clear hK K)
        refine wpTree_read _ rfl (fun K hK => ?_); unfold rOp; go_simp; (refine hK _ ?_; clear hK K)
        refine wpTree_read _ rfl (fun K hK => ?_); unfold rOp; go_simp; (refine hK _ ?_; clear hK K)
        refine wpTree_read _ rfl (fun K hK => ?_); unfold rOp; go_simp; (refine hK _ ?_; clear hK K)
        refine wpTree_read _ rfl (fun K hK => ?_); unfold rOp; go_simp; (refine hK _ ?_; clear hK K)
        refine wpTree_read _ rfl (fun K hK => ?_); unfold rOp; go_simp; (refine hK _ ?_; clear hK K)
        refine wpTree_read _ rfl (fun K hK => ?_); unfold rOp; go_simp; (refine hK _ ?_; clear hK K)
        refine wpTree_read _ rfl (fun K hK => ?_); unfold rOp; go_simp; (refine hK _ ?_; clear hK K)
        refine wpTree_read _ rfl (fun K hK => ?_); unfold rOp; go_simp; (refine hK _ ?_; clear hK K)
        refine wpTree_read _ rfl (fun K hK => ?_); unfold rOp; go_simp; (refine hK _ ?_; clear hK K)
        refine wpTree_read _ rfl (fun K hK => ?_); unfold rOp; go_simp; (refine hK _ ?_; clear hK K)
        refine wpTree_fin ?_
        clear q_m0 q_m1 q_m2 q_m3 q_s7 q_o2 q_r2 HS2 hX
        clear X Wf
        replace m0 := cell_later hd0 m0
        replace m1 := cell_later hd0 m1
        replace m2 := cell_later hd0 m2
        replace m3 := cell_later hd0 m3
        replace s7 := cell_later hd0 s7
        replace o2 := cell_later hd0 o2
        replace r2 := cell_later hd0 r2
        have HW2 := Lib.hid hd0
        clear hd0
        generalize W1.drew = W2 at *
        go_wp2_with fail
        gi_wp2_with (fail)
        obtain ⟨X, Wf, hX, hS1, hS2⟩ := family (fun V => Below W2.heap.size W2 V) W2 (Below.refl _ _)
        have HS2 := Lib.hid hS2
        have q_m0 := fun x => cell_later (hS1 x) m0
        have q_m1 := fun x => cell_later (hS1 x) m1
        have q_m2 := fun x => cell_later (hS1 x) m2
        have q_s7 := fun x => cell_later (hS1 x) s7
        have q_o2 := fun x => cell_later (hS1 x) o2
        clear hS1 hS2
        have hd0 : Below W2.heap.size W2 W2.drew := (Below.refl _ _).drew
        refine wpIn_region_round (by kernel_rfl) (by kernel_rfl) (fun _ _ h => h) (wpAny_tree (Wf := Wf) 10 (.read 0 (.read 1 (.read 2 (.read 3 (.read 4 (.read 5 (.read 6 (.read 7 (.read 8 (.read 9 .fin)))))))))) (by kernel_rfl) (fun _ _ d _ _ h => by cases d <;> exact h) (HS2.out _ hd0) ?_)
        refine wpTree_read _ rfl (fun K hK => ?_); unfold rOp; go_simp; (refine hK _ ?_; clear hK K)
        refine wpTree_read _ rfl (fun K hK => ?_); unfold rOp; go_simp; (refine hK _ ?_; clear hK K)
        refine wpTree_read _ rfl (fun K hK => ?_); unfold rOp; go_simp; (refine hK _ ?_; clear hK K)
        refine wpTree_read _ rfl (fun K hK => ?_); unfold rOp; go_simp; (refine hK _ ?_; clear hK K)
        refine wpTree_read _ rfl (fun K hK => ?_); unfold rOp; go_simp; (refine hK _ ?_; clear hK K)
        refine wpTree_read _ rfl (fun K hK => ?_); unfold rOp; go_simp; (refine hK _ ?_; clear hK K)
        refine wpTree_read _ rfl (fun K hK => ?_); unfold rOp; go_simp; (refine hK _ ?_; clear hK K)
        refine wpTree_read _ rfl (fun K hK => ?_); unfold rOp; go_simp; (refine hK _ ?_; clear hK K)
        refine wpTree_read _ rfl (fun K hK => ?_); unfold rOp; go_simp; (refine hK _ ?_; clear hK K)
        refine wpTree_read _ rfl (fun K hK => ?_); unfold rOp; go_simp; (refine hK _ ?_; clear hK K)
        refine wpTree_fin ?_
        clear q_m0 q_m1 q_m2 q_s7 q_o2 HS2 hX
        clear X Wf
        replace m3 := cell_later hd0 m3
        replace r2 := cell_later hd0 r2
        clear m0 m1 m2 s7 o2
        obtain ⟨g1, g2, g3, g4⟩ := HI.out
        have hb3 : Below W.heap.size W W2.drew := (HW0.out.2.2.2.trans (HW2.out.mono HW0.out.2.2.1)).trans (hd0.mono (Nat.le_trans HW0.out.2.2.1 HW2.out.size))
        replace g2 := g2.below hb3
        replace g3 := (hb3.block _ (Array.getElem?_eq_some_iff.1 g3).1).trans g3
        replace g4 : But (fun b => b = rows i ∨ b = w.heap.size + 2) w5 W2.drew := g4.join (But.below hb3 (X := fun _ => False)) (fun b _ h => h.elim)
        clear hd0
        generalize W2.drew = W3 at *
        have f3 := g2.freeI hiN k
        have hri0 : rows i ≠ w.heap.size + 2 := by have := HRI.out; omega
        have f4 : (W3.setCell ⟨rows i, k, none⟩ (.int .i64 (Zx : Int))).frozen? ⟨w.heap.size + 1 + 1, 0, none⟩ = false := (one_box ((heap_setCell_other hri0.symm _).trans g3)).2
        have m4 : (W3.setCell ⟨rows i, k, none⟩ (.int .i64 (Zx : Int))).cell? ⟨w.heap.size + 1 + 1, 0, none⟩ = some (.bool _) := (one_box ((heap_setCell_other hri0.symm _).trans g3)).1
        have e2 := (g2.put hiN k (Zx : Int)).setOther (b := w.heap.size + 2) (k := 0) (by have := HN.out.2.2.2.2.1; omega) (fun i' h' => by have := HN.out.2.2.2.1 i' h'; omega) (.bool false)
        have e3 := one_set ((heap_setCell_other (j := k) hri0.symm (.int .i64 (Zx : Int))).trans g3) (.bool false)
        have e4 := (g4.setc (b := rows i) (j := k) (.int .i64 (Zx : Int)) (fun _ => .inl rfl)).setc (b := w.heap.size + 2) (j := 0) (.bool false) (fun _ => .inr rfl)
        have e5 : KeepsFrom w5.heap.size W ((W3.setCell ⟨rows i, k, none⟩ (.int .i64 (Zx : Int))).setCell ⟨w.heap.size + 2, 0, none⟩ (.bool false)) := keepsFrom_setc (keepsFrom_setc (keepsFrom_below hb3) HSG.out.2 _) HSG.out.1 _
        have e6 : KeepS (fun b => b ≠ rows i ∧ b ≠ w.heap.size + 2) W ((W3.setCell ⟨rows i, k, none⟩ (.int .i64 (Zx : Int))).setCell ⟨w.heap.size + 2, 0, none⟩ (.bool false)) := ((KeepS.below hb3).trans (KeepS.setCell _ (by simp) _)).trans (KeepS.setCell _ (by simp) _)
        have HEND := Lib.hid (And.intro e2 (And.intro e3 (And.intro e4 (And.intro e5 e6))))
        clear e2 e3 e4 e5 e6 g1 g2 g3 g4 hb3
        go_wp2_with fail
        obtain ⟨z2, z3, z4, z5, z6⟩ := HEND.out
        exact ⟨z5, z6, Zx, false, ⟨fun h => by simp at h, fun _ => ⟨HVN.out, rfl⟩⟩, z2.congr (fun i' k' _ _ => by by_cases e : i' = i ∧ k' = k <;> simp [updN, e]), z3, z4⟩
      · have HVN : Hid (vv = mvN T i k ((pre ++ [(⟨(di, dk, cst), hx⟩ : Stp L)]).map (fun x => x.1))) := by
          show _ = _
          rw [HMS.out hp, ← hvv]; omega
        have d1 : decide ((Zx : Int) < (vv : Int)) = false := decide_eq_false (by omega)
        have d2 : decide (Zx < vv) = false := decide_eq_false hlt
        clear hvv hp hlt
        obtain ⟨X, Wf, hX, hS1, hS2⟩ := family (fun V => Below W1.heap.size W1 V) W1 (Below.refl _ _)
        have HS2 := Lib.hid hS2
        have q_m0 := fun x => cell_later (hS1 x) m0
        have q_m1 := fun x => cell_later (hS1 x) m1
        have q_m2 := fun x => cell_later (hS1 x) m2
        have q_m3 := fun x => cell_later (hS1 x) m3
        have q_s7 := fun x => cell_later (hS1 x) s7
        have q_o2 := fun x => cell_later (hS1 x) o2
        have q_r2 := fun x => cell_later (hS1 x) r2
        clear hS1 hS2
        have hd0 : Below W1.heap.size W1 W1.drew := (Below.refl _ _).drew
        refine wpIn_region_round (by kernel_rfl) (by kernel_rfl) (fun _ _ h => h) (wpAny_tree (Wf := Wf) 14 (.read 0 (.read 1 (.read 2 (.read 3 (.read 4 (.read 5 (.read 6 (.read 7 (.read 8 (.read 9 (.read 10 (.read 11 (.read 12 (.read 13 .fin)))))))))))))) (by kernel_rfl) (fun _ _ d _ _ h => by cases d <;> exact h) (HS2.out _ hd0) ?_)
        refine wpTree_read _ rfl (fun K hK => ?_); unfold rOp; go_simp; (refine hK _ ?_; clear hK K)
        refine wpTree_read _ rfl (fun K hK => ?_); unfold rOp; go_simp; (refine hK _ ?_; clear hK K)
        refine wpTree_read _ rfl (fun K hK => ?_); unfold rOp; go_simp; (refine hK _ ?_; clear hK K)
        refine wpTree_read _ rfl (fun K hK => ?_); unfold rOp; go_simp; (refine hK _ ?_; clear hK K)
        refine wpTree_read _ rfl (fun K hK => ?_); unfold rOp; go_simp; (refine hK _ ?_; clear hK K)
        refine wpTree_read _ rfl (fun K hK => ?_); unfold rOp; go_simp; (refine hK _ ?_; clear hK K)
        refine wpTree_read _ rfl (fun K hK => ?_); unfold rOp; go_simp; (refine hK _ ?_; clear hK K)
        refine wpTree_read _ rfl (fun K hK => ?_); unfold rOp; go_simp; (refine hK _ ?_; clear hK K)
        refine wpTree_read _ rfl (fun K hK => ?_); unfold rOp; go_simp; (refine hK _ ?_; clear hK K)
        refine wpTree_read _ rfl (fun K hK => ?_); unfold rOp; go_simp; (refine hK _ ?_; clear hK K)
        refine wpTree_read _ rfl (fun K hK => ?_); unfold rOp; go_simp; (refine hK _ ?_; clear hK K)
        refine wpTree_read _ rfl (fun K hK => ?_); unfold rOp; go_simp; (refine hK _ ?_; clear hK K)
        refine wpTree_read _ rfl (fun K hK => ?_); unfold rOp; go_simp; (refine hK _ ?_; clear hK K)
        refine wpTree_read _ rfl (fun K hK => ?_); unfold rOp; go_simp; (refine hK _ ?_; clear hK K)
        refine wpTree_fin ?_
        clear q_m0 q_m1 q_m2 q_m3 q_s7 q_o2 q_r2 HS2 hX
        clear X Wf
        replace m0 := cell_later hd0 m0
        replace m1 := cell_later hd0 m1
        replace m2 := cell_later hd0 m2
        replace m3 := cell_later hd0 m3
        replace s7 := cell_later hd0 s7
        replace o2 := cell_later hd0 o2
        replace r2 := cell_later hd0 r2
        have HW2 := Lib.hid hd0
        clear hd0
        generalize W1.drew = W2 at *
        go_wp2_with fail
        gi_wp2_with (fail)
        obtain ⟨g1, g2, g3, g4⟩ := HI.out
        have hb2 : Below W.heap.size W W2 := HW0.out.2.2.2.trans (HW2.out.mono HW0.out.2.2.1)
        exact ⟨keepsFrom_below hb2, KeepS.below hb2, vv, false, ⟨fun h => by simp at h, fun _ => ⟨HVN.out, rfl⟩⟩, g2.below hb2, (hb2.block _ (Array.getElem?_eq_some_iff.1 g3).1).trans g3, g4.join (X := fun b => b = rows i ∨ b = w.heap.size + 2) (But.below hb2) (fun b _ h => h)⟩
  case done =>
    rintro D xs W hD rfl ⟨vv, fl, g1, g2, g3, g4⟩ hd
    have hv : vv = entN T i k L := by
      unfold entN
      by_cases hL : L = []
      · rw [if_pos hL]; exact (g1.1 (by subst hL; rfl)).1
      · rw [if_neg hL]
        have := (g1.2 (by simpa using hL)).1
        rwa [show L.attach.map (fun x => x.1) = L from List.attach_map_subtype_val _] at this
    rw [hv] at g2
    have hbw : But (fun b => b = rows i) w W := ((But.below (X := fun b => b = rows i) HDW.out).trans (But.below ((Below.refl _ _).trans HB5.out))).join g4 (fun b hb h => by rcases h with h | h; exact h; omega)
    have HDN := Lib.hid (And.intro g2 hbw)
    clear g1 g2 g3 g4 hbw hv
    gi_wp2
    refine leaves_marks (hi := w5.heap.size) (by simp) (Φ := fun W => Tb2 W B g N M rows (fun i' k' => (updN T i k (entN T i k L) i' k' : Int)) ∧ But (fun b => b = rows i) w W) ?_ ?_ _ _ (Marks.one hD hd) HDN.out
    · rintro W D ⟨h1, h2⟩ hD hd
      have hlw : w.heap.size ≤ w5.heap.size := by have := HS5.out; have := HN.out.1; omega
      exact ⟨h1.own (grownBy_putObj' W D _) (n := w5.heap.size) (fun r e => by cases e; exact ⟨hD, _, hd, rfl⟩), h2.put _ (Nat.le_trans hlw hD)⟩
    · rintro W ⟨h1, h2⟩
      exact ⟨_, results_none rfl _ _ _, ⟨_, rfl⟩, h1, h2⟩
end Go.Proofs.YtaelfjlmkgimhaaGreatDoor

set_option linter.unusedVariables false
set_option linter.unusedSimpArgs false
namespace Go.Proofs.YtaelfjlmkgimhaaGreatDoor
open Go.RowKit Go.Shelf

/-- A row of the table, as a cell. -/
def encT (M r : Nat) : List Value := [.slice (some ⟨r, 0, none⟩) M M]
theorem encT_len (M : Nat) : ∀ r, (encT M r).length = 1 := fun _ => rfl
theorem encT_one (M : Nat) : ∀ r, ∀ v ∈ encT M r, v.oneCell' = true := fun r v h => by rw [List.mem_singleton.1 h]; rfl
/-- Rows of nothing, in a slice that is appended to. -/
structure Rws (W : World) (B1 M : Nat) (a : Option Addr) (j cap : Nat) (rs : List Nat) : Prop where
  own : OwnQ 27 1 (encT M) W B1 a j cap rs
  row : ∀ r ∈ rs, W.heap[r]? = some (.cells (rowA (fun _ => 0) M) 3 (0, 0)) ∧ B1 ≤ r
  nd : rs.Nodup
  ap : ∀ x, a = some x → x.block ∉ rs
theorem Rws.nil (W : World) (B1 M : Nat) : Rws W B1 M none 0 0 [] := ⟨OwnQ.nil _ _ _ _ _, fun r h => by simp at h, List.nodup_nil, fun x h => by cases h⟩
theorem Rws.step {W V V2 : World} {B1 M j cap r c5 : Nat} {a a5 : Option Addr} {rs : List Nat} (h : Rws W B1 M a j cap rs) (hk : Below W.heap.size W V) (hr : V.heap[r]? = some (.cells (rowA (fun _ => 0) M) 3 (0, 0))) (hfr : W.heap.size ≤ r) (hB : B1 ≤ W.heap.size)
    (hO2 : OwnQ 27 1 (encT M) V2 B1 a5 (j + 1) c5 (rs ++ [r])) (hg : V.grownBy V2 (Value.slice a j cap).ownBlock) (hz : (Value.slice a5 (j + 1) c5).ownBlock = (Value.slice a j cap).ownBlock ∨ (Value.slice a5 (j + 1) c5).ownBlock = some V.heap.size) : Rws V2 B1 M a5 (j + 1) c5 (rs ++ [r]) := by
  have hlt : ∀ r' ∈ rs, r' < W.heap.size := fun r' h' => (Array.getElem?_eq_some_iff.1 (h.row r' h').1).1
  have hrl : r < V.heap.size := (Array.getElem?_eq_some_iff.1 hr).1
  have hal : ∀ x, a = some x → x.block < W.heap.size := fun x e => (h.own.lt x e).2
  refine ⟨hO2, fun r' h' => ?_, List.nodup_append.2 ⟨h.nd, by simp, fun x hx y hy e => ?_⟩, fun x hx hm => ?_⟩
  · rcases List.mem_append.1 h' with h' | h'
    · refine ⟨?_, (h.row r' h').2⟩
      rw [hg.block r' (by have := hlt r' h'; have := hk.size; omega) (fun e => ?_), hk.block r' (hlt r' h')]
      · exact (h.row r' h').1
      · cases a with
        | none => cases e
        | some x => exact h.ap x rfl (by have e2 := Option.some.inj e; rw [← e2]; exact h')
    · rw [List.mem_singleton] at h'
      subst h'
      refine ⟨?_, by omega⟩
      rw [hg.block r' hrl (fun e => ?_)]
      · exact hr
      · cases a with
        | none => cases e
        | some x => have e2 : r' = x.block := Option.some.inj e; have := hal x rfl; omega
  · rw [List.mem_singleton] at hy
    subst hy
    have := hlt x hx
    omega
  · subst hx
    have hb : (∃ y, a = some y ∧ x.block = y.block) ∨ x.block = V.heap.size := by
      rcases hz with e | e
      · cases a with
        | none => cases e
        | some y => exact .inl ⟨y, rfl, Option.some.inj e⟩
      · exact .inr (Option.some.inj e)
    rcases List.mem_append.1 hm with hm | hm
    · rcases hb with ⟨y, hy, e⟩ | e
      · rw [e] at hm; exact h.ap y hy hm
      · have := hlt _ hm; have := hk.size; omega
    · rw [List.mem_singleton] at hm
      rcases hb with ⟨y, hy, e⟩ | e
      · have := hal y hy; omega
      · omega
theorem Rws.tb2 {W : World} {B1 M N cap : Nat} {a : Option Addr} {rs : List Nat} (h : Rws W B1 M a N cap rs) (hN : 0 < N) : ∃ g, a = some ⟨g, 0, none⟩ ∧ Tb2 W B1 g N M (fun i => (rs[i]?).getD 0) (fun _ _ => 0) := by
  obtain ⟨x, g, -, -, rfl, hB, hlt, -, -⟩ := h.own.at_ (encT_len M) hN
  have hlen := h.own.len
  have hget : ∀ i, i < N → ∃ r, rs[i]? = some r ∧ r ∈ rs ∧ (rs[i]?).getD 0 = r := fun i hi => ⟨rs[i]'(by omega), List.getElem?_eq_getElem (by omega), List.getElem_mem _, by rw [List.getElem?_eq_getElem (by omega)]; rfl⟩
  refine ⟨g, rfl, ?_, fun i hi => ?_, hB, fun i hi => ?_, fun i hi => ?_, fun i k hi hk e => ?_⟩
  · rcases h.own.2.2 with ⟨_, h0⟩ | ⟨g', cap', cur, hv, hb, hg, -⟩
    · omega
    · cases hv
      refine ⟨cur, hg, fun i hi => ?_⟩
      obtain ⟨r, g2, h1, -, e2, -, -, -, h5⟩ := h.own.at_ (encT_len M) hi
      cases e2
      have := h5 0 _ rfl
      rw [Nat.mul_one, Nat.add_zero, cell_row hg] at this
      rw [this, h1]; rfl
  · obtain ⟨r, h1, h2, h3⟩ := hget i hi
    rw [h3]; exact (h.row r h2).1
  · obtain ⟨r, h1, h2, h3⟩ := hget i hi
    rw [h3]; exact (h.row r h2).2
  · obtain ⟨r, h1, h2, h3⟩ := hget i hi
    rw [h3]; exact fun e => h.ap _ rfl (by rw [← e]; exact h2)
  · rw [List.getElem?_eq_getElem (by omega), List.getElem?_eq_getElem (by omega)] at e
    exact (List.getElem_inj h.nd).1 e
theorem Tb2.mono {w : World} {B B' g N M : Nat} {rows : Nat → Nat} {T : Nat → Nat → Int} (h : Tb2 w B g N M rows T) (hB : B' ≤ B) : Tb2 w B' g N M rows T :=
  ⟨h.outer, h.inner, Nat.le_trans hB h.lo, fun i hi => Nat.le_trans hB (h.lor i hi), h.ne, h.inj⟩
theorem stL_nil {c : Cst} {l : List (List Tok)} {t : List Tok} {cols : List Cm} {i k : Nat} : stL c l t cols i k = [] ↔ ¬ i < cols.length ∧ ¬ k < t.length := by
  unfold stL
  by_cases h1 : i < cols.length <;> by_cases h2 : k < t.length <;> simp [h1, h2]
/-- The table, filled from a place on. -/
def tabP (c : Cst) (l : List (List Tok)) (t : List Tok) (cols : List Cm) (i0 k0 i k : Nat) : Nat := if i0 < i ∨ (i = i0 ∧ k0 ≤ k) then tabB c l t cols i k else 0
theorem tabB_le {c : Cst} (hc : c.ok) (l : List (List Tok)) (t : List Tok) (cols : List Cm) (i k : Nat) : tabB c l t cols i k ≤ 1000 * l.length * (cols.length + t.length) := by
  unfold tabB
  have := tab_bound (pB c l t) (gB c l t) (fB c l t) (a := cols) (b := List.range t.length) (M := 1000 * l.length) (fun x y => besF_le hc _ _ _ _ _) (fun x => besF_le hc _ _ _ _ _) (fun y => besF_le hc _ _ _ _ _) i k
  rwa [List.length_range] at this
theorem tabP_step {c : Cst} {l : List (List Tok)} {t : List Tok} {cols : List Cm} {i k i' k' : Nat} (hi : i ≤ cols.length) (hk : k ≤ t.length) :
    updN (tabP c l t cols i (k + 1)) i k (entN (tabP c l t cols i (k + 1)) i k (stL c l t cols i k)) i' k' = tabP c l t cols i k i' k' := by
  have hT : ∀ a b, (i < a ∨ (a = i ∧ k + 1 ≤ b)) → tabP c l t cols i (k + 1) a b = tabB c l t cols a b := fun a b h => by unfold tabP; rw [if_pos h]
  by_cases e : i' = i ∧ k' = k
  · obtain ⟨rfl, rfl⟩ := e
    rw [updN_self]
    have e2 : tabP c l t cols i' k' i' k' = tabB c l t cols i' k' := by unfold tabP; rw [if_pos (.inr ⟨rfl, Nat.le_refl _⟩)]
    rw [e2]
    unfold entN
    by_cases hn : stL c l t cols i' k' = []
    · rw [if_pos hn]
      obtain ⟨h1, h2⟩ := stL_nil.1 hn
      have : tabB c l t cols i' k' = 0 := by unfold tabB; exact tab_00 _ _ _ (by omega) (by rw [List.length_range]; omega)
      rw [this]
      unfold tabP; rw [if_neg (by omega)]
    · rw [if_neg hn]
      have hn2 : i' < cols.length ∨ k' < t.length := by
        rcases Nat.lt_or_ge i' cols.length with h1 | h1
        · exact .inl h1
        · rcases Nat.lt_or_ge k' t.length with h2 | h2
          · exact .inr h2
          · exact absurd (stL_nil.2 ⟨by omega, by omega⟩) hn
      exact stL_tab hi hk hn2 (fun _ _ => hT _ _ (by omega)) (fun _ => hT _ _ (by omega)) (fun _ => hT _ _ (by omega))
  · rw [updN_ne e]
    unfold tabP
    by_cases h1 : i < i' ∨ (i' = i ∧ k + 1 ≤ k')
    · rw [if_pos h1, if_pos (by omega)]
    · rw [if_neg h1, if_neg (by omega)]
end Go.Proofs.YtaelfjlmkgimhaaGreatDoor

set_option linter.unusedVariables false
set_option linter.unusedSimpArgs false
namespace Go.Proofs.YtaelfjlmkgimhaaGreatDoor
open Go.RowKit Go.Shelf

theorem But.low {X : Nat → Prop} {n : Nat} {w w' w'' : World} (h : But X w w') (k : Below n w' w'') (hn : w.heap.size ≤ n) : But X w w'' :=
  ⟨k.os.trans h.os, k.tape.trans h.tape, k.output.trans h.output, Nat.le_trans h.size k.size, fun b hb hx => (k.block b (by omega)).trans (h.block b hb hx)⟩
theorem Rws.other {W : World} {B1 M : Nat} {a : Option Addr} {j cap : Nat} {rs : List Nat} (h : Rws W B1 M a j cap rs) {b : Nat} (hb : b < B1) (q : Nat) (v : Value) : Rws (W.setCell ⟨b, q, none⟩ v) B1 M a j cap rs :=
  ⟨h.own.setOther (fun x hx => by have := (h.own.lt x hx).1; omega) v, fun r hr => ⟨(heap_setCell_other (by have := (h.row r hr).2; omega) v).trans (h.row r hr).1, (h.row r hr).2⟩, h.nd, h.ap⟩
/-- The table, its last rows filled. -/
def tabQ (c : Cst) (l : List (List Tok)) (t : List Tok) (cols : List Cm) (i0 i k : Nat) : Nat := if i0 ≤ i then tabB c l t cols i k else 0
set_option maxRecDepth 100000 in
set_option maxHeartbeats 8000000 in
theorem fill_any (c : Cst) (la xa ta : Option Addr) (ln lp xn xp tn tp : Nat) (l : List (List Tok)) (t : List Tok) (cols : List Cm) (ba B : Nat) (w : World) (hR : RdA (fun b => b < B) w c ⟨la, ln, lp, xa, xn, xp, ta, tn, tp, none, 0, 0⟩ l t cols) (hv : VdA c l t cols)
    (h1 : w.heap[ba]? = some (.cells (AV.arr ⟨la, ln, lp, xa, xn, xp, ta, tn, tp, none, 0, 0⟩ c) 83 (0, 0))) (hba : B ≤ ba) (hB : B ≤ w.heap.size) (hcl : cols.length ≤ 1000) (htl : t.length ≤ 1000) (hE : EnvLo B w) :
    Calls Tryz.prog 49 #[.pointer (some ⟨ba, 0, none⟩)] w fun e w' => (∃ u, e = .returned u) ∧ ∃ (g N bp : Nat) (rows : Nat → Nat), N = cols.length + 1 ∧ w'.heap[ba]? = some (.cells (AV.arr ⟨la, ln, lp, xa, xn, xp, ta, tn, tp, some ⟨g, 0, none⟩, N, bp⟩ c) 83 (0, 0)) ∧ (w.heap.size ≤ g ∧ ∀ i, i < N → w.heap.size ≤ rows i) ∧
      Tb2 w' B g N (t.length + 1) rows (fun i k => (tabB c l t cols i k : Int)) ∧ But (fun b => b = ba) w w' := by
  obtain ⟨N, hN⟩ : ∃ N, N = cols.length + 1 := ⟨_, rfl⟩
  obtain ⟨M, hM⟩ : ∃ M, M = t.length + 1 := ⟨_, rfl⟩
  have hN0 : 0 < N := by omega
  have hNb : N ≤ 1001 := by omega
  have hMb : M ≤ 1001 := by omega
  have hxn : xn = cols.length := by have := hR.hx.len; rwa [List.length_map] at this
  have htn : tn = t.length := hR.ht.len
  have hNN : (xn : Int) + 1 = (N : Int) := by omega
  have hMM : (tn : Int) + 1 = (M : Int) := by omega
  have hNw : IntKind.i64.wrap (N : Int) = (N : Int) := by rw [IntKind.wrap_i64]; omega
  have hMw : IntKind.i64.wrap (M : Int) = (M : Int) := by rw [IntKind.wrap_i64]; omega
  have hba' : ba < w.heap.size := (Array.getElem?_eq_some_iff.1 h1).1
  have HTB : Hid (∀ i k, tabB c l t cols i k ≤ 1000000000) := fun i k => by
    have h2 := tabB_le hv.ok l t cols i k
    have h3 : 1000 * l.length * (cols.length + t.length) ≤ 32000 * 2000 := Nat.mul_le_mul (by have := hv.vl.n; omega) (by omega)
    omega
  have HFA := Lib.hid (fun (W : World) (g N' bp bq i k : Nat) (rows : Nat → Nat) (T : Nat → Nat → Nat) (hW : But (fun b => b = ba) w W) (hT : Tb2 W B g (cols.length + 1) (t.length + 1) rows (fun i k => (T i k : Int))) (hTb : ∀ i k, T i k ≤ 1000000000)
      (h1 : W.heap[ba]? = some (.cells (AV.arr ⟨la, ln, lp, xa, xn, xp, ta, tn, tp, some ⟨g, 0, none⟩, cols.length + 1, bp⟩ c) 83 (0, 0))) (h2 : W.heap[bq]? = some (.cells #[.pointer (some ⟨ba, 0, none⟩)] 81 (0, 0))) (hi : i ≤ cols.length) (hk : k ≤ t.length) (hne : ∀ i, i ≤ cols.length → rows i ≠ ba ∧ rows i ≠ bq) =>
    fil_any c ⟨la, ln, lp, xa, xn, xp, ta, tn, tp, some ⟨g, 0, none⟩, cols.length + 1, bp⟩ l t cols bq ba g B i k rows T W
      (by have hb := hW.toBelow hB (fun b e => by omega); exact ⟨(hR.keep (KeepS.belowB hb hb.size fun _ h => h)).hl, (hR.keep (KeepS.belowB hb hb.size fun _ h => h)).ht, (hR.keep (KeepS.belowB hb hb.size fun _ h => h)).hx⟩) hv hT hTb h1 ⟨rfl, rfl⟩ h2 hi hk hne hcl (hE.below (hW.toBelow hB (fun b e => by omega))) (Nat.le_trans hB hW.size))
  rw [← hN, ← hM] at HFA
  rw [← hM]
  have HNM := Lib.hid (And.intro hN (And.intro hM (And.intro hxn (And.intro htn (And.intro hba hB)))))
  have hBQ : Below w.heap.size w (w.alloc (.cells #[.pointer (some ⟨ba, 0, none⟩)] 81)) := (Below.refl _ _).alloc (Nat.le_refl _) _
  have hXQ := World.alloc_heap_new w (.cells #[.pointer (some ⟨ba, 0, none⟩)] 81)
  have hSQ : (w.alloc (.cells #[.pointer (some ⟨ba, 0, none⟩)] 81)).heap.size = w.heap.size + 1 := by simp
  obtain ⟨i1, ki, kz0, kz1, kz2⟩ := info_parts Tryz.infoInt
  clear hR hv hE hcl htl hba hB hN hM hxn htn
  obtain ⟨cg, cn, cl, cm⟩ := c
  dsimp only [AV.arr] at h1
  obtain ⟨s0, s1, s2, s3, s4, s5, s6, s7, -⟩ := box8 ((hBQ.block _ hba').trans h1)
  have m0 := (one_box hXQ).1
  go_enter Tryz.func49, Tryz.ntmps49
  go_wp2_with fail
  have hst0 : Hid (Rws (w.alloc (.cells #[.pointer (some ⟨ba, 0, none⟩)] 81)) (w.heap.size + 1) M none 0 0 [] ∧ (w.alloc (.cells #[.pointer (some ⟨ba, 0, none⟩)] 81)).heap[ba]? = some (.cells #[.int .i64 cg, .int .i64 cn, .int .i64 cl, .int .i64 cm, .slice la ln lp, .slice xa xn xp, .slice ta tn tp, .slice none 0 0] 83 (0, 0)) ∧ (w.alloc (.cells #[.pointer (some ⟨ba, 0, none⟩)] 81)).heap[w.heap.size]? = some (.cells #[.pointer (some ⟨ba, 0, none⟩)] 81 (0, 0)) ∧ But (fun b => b = ba) w (w.alloc (.cells #[.pointer (some ⟨ba, 0, none⟩)] 81)) ∧ w.heap.size + 1 ≤ (w.alloc (.cells #[.pointer (some ⟨ba, 0, none⟩)] 81)).heap.size) :=
    ⟨Rws.nil _ _ _, (hBQ.block _ hba').trans h1, hXQ, But.below hBQ, Nat.le_of_eq hSQ.symm⟩
  clear hXQ hBQ hSQ s0 s1 s2 s3 s4 s5 s6 s7 m0 h1
  generalize w.alloc (.cells #[.pointer (some ⟨ba, 0, none⟩)] 81) = WA at *
  go_loopw [11] (fun iv wr => ∃ (j : Nat) (a : Option Addr) (cap : Nat) (rs : List Nat), iv = .int .i64 (j : Int) ∧ j ≤ N ∧ Hid (Rws wr (w.heap.size + 1) M a j cap rs ∧ wr.heap[ba]? = some (.cells #[.int .i64 cg, .int .i64 cn, .int .i64 cl, .int .i64 cm, .slice la ln lp, .slice xa xn xp, .slice ta tn tp, .slice a j cap] 83 (0, 0)) ∧ wr.heap[w.heap.size]? = some (.cells #[.pointer (some ⟨ba, 0, none⟩)] 81 (0, 0)) ∧ But (fun b => b = ba) w wr ∧ w.heap.size + 1 ≤ wr.heap.size)) (fun iv _ => N - (intOf iv).toNat)
  case atStart => exact ⟨0, none, 0, [], rfl, Nat.zero_le _, hst0⟩
  case round =>
    clear hst0 WA
    obtain ⟨j, a, cap, rs, rfl, hj, hst⟩ := hrel
    by_cases hjN : j < N
    · obtain ⟨hRw, hA, hQ, hbut, hsz⟩ := hst.out
      clear hst
      obtain ⟨X, Wf, hX2, hS1, hS2⟩ := family (fun V : World => V.heap[w.heap.size]? = some (.cells #[.pointer (some ⟨ba, 0, none⟩)] 81 (0, 0)) ∧ V.heap[ba]? = some (.cells #[.int .i64 cg, .int .i64 cn, .int .i64 cl, .int .i64 cm, .slice la ln lp, .slice xa xn xp, .slice ta tn tp, .slice a j cap] 83 (0, 0))) wr.drew ⟨hQ, hA⟩
      have HS2 := Lib.hid hS2
      have q4 := fun x => (one_box (hS1 x).1).1
      have q6 := fun x => (box8 (hS1 x).2).2.2.2.2.2.2.1
      have q7 := fun x => (box8 (hS1 x).2).2.2.2.2.2.2.2.1
      have hS0 := HS2.out wr.drew ⟨hQ, hA⟩
      have HRW := Lib.hid hRw
      have HBT := Lib.hid hbut.drew
      have HWD : Hid (Below wr.heap.size wr wr.drew) := (Below.refl _ _).drew
      have hQ1 : wr.drew.heap[w.heap.size]? = some (.cells #[.pointer (some ⟨ba, 0, none⟩)] 81 (0, 0)) := hQ
      have hA1 : wr.drew.heap[ba]? = some (.cells #[.int .i64 cg, .int .i64 cn, .int .i64 cl, .int .i64 cm, .slice la ln lp, .slice xa xn xp, .slice ta tn tp, .slice a j cap] 83 (0, 0)) := hA
      have hsz1 : wr.heap.size ≤ wr.drew.heap.size := Nat.le_refl _
      clear hS1 hS2 hRw hA hQ hbut
      go_wp2_with fail
      refine wp_region_treAN (Wf := Wf) 16 (.read 0 (.read 1 (.read 2 (.read 3 (.read 4 (.read 5 (.read 6 (.read 7 (.read 8 (.read 9 (.read 10 (.act 11 (.act 12 (.act 13 (.read 14 (.read 15 .fin)))))))))))))))) (by kernel_rfl) (by kernel_rfl) hS0 ?_
      refine wpTreA_read _ rfl (fun K hK => ?_); unfold rOp; go_simp; (refine hK _ ?_; clear hK K)
      refine wpTreA_read _ rfl (fun K hK => ?_); unfold rOp; go_simp; (refine hK _ ?_; clear hK K)
      refine wpTreA_read _ rfl (fun K hK => ?_); unfold rOp; go_simp; (refine hK _ ?_; clear hK K)
      refine wpTreA_read _ rfl (fun K hK => ?_); unfold rOp; go_simp; (refine hK _ ?_; clear hK K)
      refine wpTreA_read _ rfl (fun K hK => ?_); unfold rOp; go_simp; (refine hK _ ?_; clear hK K)
      refine wpTreA_read _ rfl (fun K hK => ?_); unfold rOp; go_simp; (refine hK _ ?_; clear hK K)
      refine wpTreA_read _ rfl (fun K hK => ?_); unfold rOp; go_simp; (refine hK _ ?_; clear hK K)
      refine wpTreA_read _ rfl (fun K hK => ?_); unfold rOp; go_simp; (refine hK _ ?_; clear hK K)
      refine wpTreA_read _ rfl (fun K hK => ?_); unfold rOp; go_simp; (refine hK _ ?_; clear hK K)
      refine wpTreA_read _ rfl (fun K hK => ?_); unfold rOp; go_simp; (refine hK _ ?_; clear hK K)
      refine wpTreA_read _ rfl (fun K hK => ?_); unfold rOp; go_simp; (refine hK _ ?_; clear hK K)
      clear q4 q6 q7 hS0
      generalize wr.drew = V at *
      refine wpTreA_act (k := 11) _ rfl ?_
      refine wpList_make_full V rfl _ _ 27 rfl V.heap.size 3 i1 (.int .i64 0) 1 Tryz.underlying27 ki kz0 kz1 .i64 .i64 M M M rfl rfl rfl rfl (by rw [kz2]; omega) (by unfold maxLen; omega) (Nat.le_refl _) ?_
      intro V1 hrow hg
      have hst : Below V.heap.size V V1 := (Below.refl _ _).grown hg (Nat.le_refl _) (by simp)
      have F1 := made_row hrow
      have hQ2 := (hst.block _ (Array.getElem?_eq_some_iff.1 hQ1).1).trans hQ1
      have hA2 := (hst.block _ (Array.getElem?_eq_some_iff.1 hA1).1).trans hA1
      have HW1 := Lib.hid (HWD.out.trans (hst.mono hsz1))
      have HB1 := Lib.hid (HBT.out.trans (But.below hst))
      have hsz2 : wr.heap.size ≤ V1.heap.size := Nat.le_trans hsz1 hst.size
      clear hrow hg hst hQ1 hA1 HWD HBT
      go_wp2_with fail
      refine ⟨HS2.out _ ⟨hQ2, hA2⟩, ?_⟩
      generalize V.heap.size = r at *
      have hrs : wr.heap.size ≤ r := hsz1
      clear hsz1 V
      refine wpTreA_act (k := 12) _ rfl ?_
      have hst : Below V1.heap.size V1 (V1.alloc (.cells #[.slice (some ⟨r, 0, none⟩) M M] 27)) := (Below.refl _ _).alloc (Nat.le_refl _) _
      have hLo := World.alloc_heap_new V1 (.cells #[.slice (some ⟨r, 0, none⟩) M M] 27)
      have hQ3 := (hst.block _ (Array.getElem?_eq_some_iff.1 hQ2).1).trans hQ2
      have hA3 := (hst.block _ (Array.getElem?_eq_some_iff.1 hA2).1).trans hA2
      have F2 := (hst.block _ (Array.getElem?_eq_some_iff.1 F1).1).trans F1
      have HW2 := Lib.hid (HW1.out.trans (hst.mono hsz2))
      have HB2 := Lib.hid (HB1.out.trans (But.below hst))
      have hsz3 : wr.heap.size ≤ (V1.alloc (.cells #[.slice (some ⟨r, 0, none⟩) M M] 27)).heap.size := Nat.le_trans hsz2 hst.size
      clear hst hQ2 hA2 F1 HW1 HB1
      go_wp2_with fail
      refine ⟨HS2.out _ ⟨hQ3, hA3⟩, ?_⟩
      generalize V1.heap.size = bl at *
      generalize V1.alloc (.cells #[.slice (some ⟨r, 0, none⟩) M M] 27) = V2 at *
      clear hsz2 V1
      refine wpTreA_act (k := 13) _ rfl ?_
      have HO := Lib.hid (HRW.out.own.below HW2.out)
      have HV : Hid (∀ q u, (([r] : List Nat).flatMap (encT M))[q]? = some u → V2.cell? ((⟨bl, 0, none⟩ : Addr).add q) = some u) := fun q u hq => by
        cases q with
        | zero => cases hq; exact (one_box hLo).1
        | succ q => simp [encT] at hq
      have hB9 : w.heap.size + 1 ≤ V2.heap.size := Nat.le_trans hsz hsz3
      go_wp2_with (at_builtin; refine wpList_appQ (w0 := V2) (l := rs) (ys := [r]) Tryz.infoInts Tryz.underlying31 rfl (by omega) (encT_len M) (encT_one M) rfl _ _ rfl rfl rfl HO.out rfl HV.out (by unfold maxLen; omega) (by omega) hB9 (Below.refl _ _) ?_; intro a5 c5 V3 hO5 hb5 hg5 hz5)
      have hQ4 := (hb5.block w.heap.size (by omega)).trans hQ3
      have hA4 := (hb5.block ba (by omega)).trans hA3
      have hR5 := HRW.out.step HW2.out F2 hrs hsz hO5 hg5 hz5
      have hBT5 : But (fun b => b = ba) w V3 := HB2.out.low hb5 (by omega)
      have hs5 := Nat.le_trans hB9 hb5.size
      clear HO HV HRW HW2 F2 hrs hO5 hb5 hg5 hz5 HB2 hQ3 hA3 hLo hsz3 hB9
      clear V2
      refine ⟨HS2.out _ ⟨hQ4, hA4⟩, ?_⟩
      clear HS2
      refine wpTreA_read _ rfl (fun K hK => ?_); unfold rOp; go_simp; (refine hK _ ?_; clear hK K)
      refine wpTreA_read _ rfl (fun K hK => ?_); unfold rOp; go_simp; (refine hK _ ?_; clear hK K)
      refine wpTreA_fin ?_
      clear hX2
      clear X Wf
      have c7 := (box8 hA4).2.2.2.2.2.2.2.1
      have f7 : V3.frozen? ⟨ba, 7, none⟩ = false := by simp [World.frozen?, hA4]
      have HEND : Hid (Rws (V3.setCell ⟨ba, 7, none⟩ (.slice a5 (j + 1) c5)) (w.heap.size + 1) M a5 (j + 1) c5 (rs ++ [r]) ∧ (V3.setCell ⟨ba, 7, none⟩ (.slice a5 (j + 1) c5)).heap[ba]? = some (.cells #[.int .i64 cg, .int .i64 cn, .int .i64 cl, .int .i64 cm, .slice la ln lp, .slice xa xn xp, .slice ta tn tp, .slice a5 (j + 1) c5] 83 (0, 0)) ∧ (V3.setCell ⟨ba, 7, none⟩ (.slice a5 (j + 1) c5)).heap[w.heap.size]? = some (.cells #[.pointer (some ⟨ba, 0, none⟩)] 81 (0, 0)) ∧ But (fun b => b = ba) w (V3.setCell ⟨ba, 7, none⟩ (.slice a5 (j + 1) c5)) ∧ w.heap.size + 1 ≤ (V3.setCell ⟨ba, 7, none⟩ (.slice a5 (j + 1) c5)).heap.size) :=
        ⟨hR5.other (by omega) _ _, heap_setCell_self hA4 _, (heap_setCell_other (by omega) _).trans hQ4, hBT5.setc _ (fun _ => rfl), by simpa [World.setCell] using hs5⟩
      clear hR5 hBT5 hs5 hQ4 hA4
      go_wp2_with fail
      clear c7 f7
      rw [noPanic_normal]
      go_wp2_with fail
      go_roundw
      case rel => exact ⟨j + 1, a5, c5, rs ++ [r], by first | rfl | go_num, by omega, HEND⟩
      case measure => simp [intOf]; omega
    · have hje : N = j := by omega
      subst hje
      obtain ⟨bp, rfl⟩ : ∃ bp : Nat, bp = cap := ⟨_, rfl⟩
      obtain ⟨hRw, hA, hQ, hbut, hsz⟩ := hst.out
      clear hst
      obtain ⟨g, rfl, hT0⟩ := hRw.tb2 hN0
      have hlo := hT0.lo
      have hlor := hT0.lor
      have HLR : Hid (∀ i, i < N → w.heap.size + 1 ≤ (rs[i]?).getD 0) := hlor
      clear hRw hlor
      generalize hrows : (fun i : Nat => (rs[i]?).getD 0) = rows at *
      have HLO : Hid (w.heap.size + 1 ≤ g ∧ ∀ i, i < N → w.heap.size + 1 ≤ rows i) := ⟨hlo, fun i hi => by have := HLR.out i hi; rw [← hrows]; exact this⟩
      clear HLR hrows hlo
      have HST : Hid (Tb2 wr B g N M rows (fun i k => (tabQ ⟨cg, cn, cl, cm⟩ l t cols N i k : Int)) ∧ wr.heap[ba]? = some (.cells #[.int .i64 cg, .int .i64 cn, .int .i64 cl, .int .i64 cm, .slice la ln lp, .slice xa xn xp, .slice ta tn tp, .slice (some ⟨g, 0, none⟩) N bp] 83 (0, 0)) ∧ wr.heap[w.heap.size]? = some (.cells #[.pointer (some ⟨ba, 0, none⟩)] 81 (0, 0)) ∧ But (fun b => b = ba) w wr) :=
        ⟨(hT0.mono (by have := HNM.out.2.2.2.2.2; omega)).congr fun i k hi hk => by unfold tabQ; rw [if_neg (by omega)]; rfl, hA, hQ, hbut⟩
      obtain ⟨s0, s1, s2, s3, s4, s5, s6, s7, -⟩ := box8 hA
      have m0 := (one_box hQ).1
      clear hT0 hA hQ hbut hsz
      go_wp2_with fail
      clear s0 s1 s2 s3 s4 s5 s6 s7 m0
      obtain ⟨wz, rfl⟩ : ∃ wz : World, wz = wr := ⟨_, rfl⟩
      go_loopw [3] (fun iv wr => ∃ (i0 : Nat) (I : Int), iv = .int .i64 I ∧ I = (i0 : Int) - 1 ∧ i0 ≤ N ∧ Hid (Tb2 wr B g N M rows (fun i k => (tabQ ⟨cg, cn, cl, cm⟩ l t cols i0 i k : Int)) ∧ wr.heap[ba]? = some (.cells #[.int .i64 cg, .int .i64 cn, .int .i64 cl, .int .i64 cm, .slice la ln lp, .slice xa xn xp, .slice ta tn tp, .slice (some ⟨g, 0, none⟩) N bp] 83 (0, 0)) ∧ wr.heap[w.heap.size]? = some (.cells #[.pointer (some ⟨ba, 0, none⟩)] 81 (0, 0)) ∧ But (fun b => b = ba) w wr)) (fun iv _ => (intOf iv + 1).toNat)
      case atStart => exact ⟨N, xn, rfl, by omega, Nat.le_refl _, HST⟩
      case round =>
        clear HST
        obtain ⟨i0, I, rfl, hI, hi0, hst⟩ := hrel
        by_cases hz : 1 ≤ i0
        · obtain ⟨i, rfl⟩ : ∃ i, i0 = i + 1 := ⟨i0 - 1, by omega⟩
          obtain rfl : I = (i : Int) := by omega
          clear hI
          obtain ⟨hT, hA, hQ, hbut⟩ := hst.out
          have HST : Hid (Tb2 wr B g N M rows (fun i' k' => (tabP ⟨cg, cn, cl, cm⟩ l t cols i M i' k' : Int)) ∧ wr.heap[ba]? = some (.cells #[.int .i64 cg, .int .i64 cn, .int .i64 cl, .int .i64 cm, .slice la ln lp, .slice xa xn xp, .slice ta tn tp, .slice (some ⟨g, 0, none⟩) N bp] 83 (0, 0)) ∧ wr.heap[w.heap.size]? = some (.cells #[.pointer (some ⟨ba, 0, none⟩)] 81 (0, 0)) ∧ But (fun b => b = ba) w wr) :=
            ⟨hT.congr (fun i' k' hi' hk' => by
              unfold tabQ tabP
              by_cases e : i + 1 ≤ i'
              · rw [if_pos e, if_pos (by omega)]
              · rw [if_neg e, if_neg (by omega)]), hA, hQ, hbut⟩
          obtain ⟨s0, s1, s2, s3, s4, s5, s6, s7, -⟩ := box8 hA
          have m0 := (one_box hQ).1
          clear hst hT hA hQ hbut
          obtain ⟨wo, rfl⟩ : ∃ wo : World, wo = wr := ⟨_, rfl⟩
          go_wp2_with fail
          clear s0 s1 s2 s3 s4 s5 s6 s7 m0
          go_loopw [4] (fun kv wr => ∃ (k0 : Nat) (K : Int), kv = .int .i64 K ∧ K = (k0 : Int) - 1 ∧ k0 ≤ M ∧ Hid (Tb2 wr B g N M rows (fun i' k' => (tabP ⟨cg, cn, cl, cm⟩ l t cols i k0 i' k' : Int)) ∧ wr.heap[ba]? = some (.cells #[.int .i64 cg, .int .i64 cn, .int .i64 cl, .int .i64 cm, .slice la ln lp, .slice xa xn xp, .slice ta tn tp, .slice (some ⟨g, 0, none⟩) N bp] 83 (0, 0)) ∧ wr.heap[w.heap.size]? = some (.cells #[.pointer (some ⟨ba, 0, none⟩)] 81 (0, 0)) ∧ But (fun b => b = ba) w wr)) (fun kv _ => (intOf kv + 1).toNat)
          case atStart => exact ⟨M, tn, rfl, by omega, Nat.le_refl _, HST⟩
          case round =>
            clear HST
            obtain ⟨k0, K, rfl, hK, hk0, hst⟩ := hrel
            by_cases hz2 : 1 ≤ k0
            · obtain ⟨k, rfl⟩ : ∃ k, k0 = k + 1 := ⟨k0 - 1, by omega⟩
              obtain rfl : K = (k : Int) := by omega
              clear hK
              have HCL := Lib.hid (HFA.out wr g N bp w.heap.size i k rows (tabP ⟨cg, cn, cl, cm⟩ l t cols i (k + 1)) hst.out.2.2.2 hst.out.1 (fun i' k' => by
                unfold tabP; split
                · exact HTB.out _ _
                · omega) hst.out.2.1 hst.out.2.2.1 (by have := HNM.out; omega) (by have := HNM.out; omega) (fun i' hi' => by have := HLO.out.2 i' (by have := HNM.out; omega); omega))
              have hk00 : (0 : Int) ≤ (k : Int) := by omega
              go_wp2_with (go_at_call 69; refine HCL.out.mono ?_; rintro e w5 ⟨⟨u, rfl⟩, hT5, hB5⟩)
              obtain ⟨-, hA, hQ, hbut⟩ := hst.out
              have hHI : i ≤ cols.length ∧ k ≤ t.length ∧ i < N := by have := HNM.out; omega
              have hlo := HLO.out.2 i hHI.2.2
              have HEND : Hid (Tb2 w5 B g N M rows (fun i' k' => (tabP ⟨cg, cn, cl, cm⟩ l t cols i k i' k' : Int)) ∧ w5.heap[ba]? = some (.cells #[.int .i64 cg, .int .i64 cn, .int .i64 cl, .int .i64 cm, .slice la ln lp, .slice xa xn xp, .slice ta tn tp, .slice (some ⟨g, 0, none⟩) N bp] 83 (0, 0)) ∧ w5.heap[w.heap.size]? = some (.cells #[.pointer (some ⟨ba, 0, none⟩)] 81 (0, 0)) ∧ But (fun b => b = ba) w w5) :=
                ⟨hT5.congr (fun i' k' _ _ => by rw [tabP_step hHI.1 hHI.2.1]), hB5.at_ hA (by omega), hB5.at_ hQ (by omega), hbut.join hB5 (fun b hb e => by have e : b = rows i := e; omega)⟩
              exact ⟨⟨k, (k : Int) - 1, rfl, rfl, by omega, HEND⟩, by simp [intOf]⟩
            · have hk00 : k0 = 0 := by omega
              subst hk00
              have hKneg : K < 0 := by omega
              have HEND : Hid (Tb2 wr B g N M rows (fun i' k' => (tabQ ⟨cg, cn, cl, cm⟩ l t cols i i' k' : Int)) ∧ wr.heap[ba]? = some (.cells #[.int .i64 cg, .int .i64 cn, .int .i64 cl, .int .i64 cm, .slice la ln lp, .slice xa xn xp, .slice ta tn tp, .slice (some ⟨g, 0, none⟩) N bp] 83 (0, 0)) ∧ wr.heap[w.heap.size]? = some (.cells #[.pointer (some ⟨ba, 0, none⟩)] 81 (0, 0)) ∧ But (fun b => b = ba) w wr) :=
                ⟨hst.out.1.congr (fun i' k' _ _ => by
                  unfold tabQ tabP
                  by_cases e : i ≤ i'
                  · rw [if_pos e, if_pos (by omega)]
                  · rw [if_neg e, if_neg (by omega)]), hst.out.2⟩
              clear hK hst
              go_wp2_with fail
              exact ⟨⟨i, (i : Int) - 1, rfl, rfl, by omega, HEND⟩, by simp [intOf]⟩
        · have hi00 : i0 = 0 := by omega
          subst hi00
          have hIneg : I < 0 := by omega
          obtain ⟨hT, hA, hQ, hbut⟩ := hst.out
          have HEND := Lib.hid (And.intro hA (And.intro hT hbut))
          clear hI hst hT hA hQ hbut
          go_wp2_with fail
          go_end0
          exact ⟨⟨_, rfl⟩, g, N, bp, rows, HNM.out.1, HEND.out.1, ⟨by have := HLO.out.1; omega, fun i hi => by have := HLO.out.2 i hi; omega⟩, HEND.out.2.1.congr (fun i' k' _ _ => by unfold tabQ; rw [if_pos (Nat.zero_le _)]), HEND.out.2.2⟩
end Go.Proofs.YtaelfjlmkgimhaaGreatDoor

set_option linter.unusedVariables false
set_option linter.unusedSimpArgs false
namespace Go.Proofs.YtaelfjlmkgimhaaGreatDoor
open Go.RowKit Go.Shelf

theorem wpListIn_of {P : Program} {ops : Array Oper} {Q : Exit → Act → World → Prop} {n l : Nat} (hQO : ∀ a w, ¬ Q .outgrown a w) : ∀ (L : List Oper) (a : Act) (w : World), noDeferB L = true → wpList P ops Q L a w → wpListIn (Fence.wide.inRound l) n P ops Q L a w
  | [], _, _, _, h => h
  | o :: L, a, w, hnd, h => by
    have hL : noDeferB L = true := by
      unfold noDeferB at hnd ⊢
      rw [List.all_cons, Bool.and_eq_true] at hnd
      exact hnd.2
    unfold wpList at h
    unfold wpListIn
    split
    · rename_i hw
      rw [if_pos hw] at h
      rcases h with h | ⟨_, h2⟩
      · exact wpOpIn_of hQO (noDeferB_spec hnd List.mem_cons_self) (fun a w h => wpListIn_of hQO L a w hL h) h
      · exact absurd h2 (fun ⟨a, w, hq⟩ => hQO a w hq)
    · rename_i hw
      rw [if_neg hw] at h
      exact ⟨fun _ _ => trivial, wpListIn_of hQO L _ w hL h⟩
theorem OwnQ.isC {α : Type} {e size : Nat} {enc : α → List Value} {w : World} {B : Nat} {a : Option Addr} {n cap : Nat} {l : List α} (h : OwnQ e size enc w B a n cap l) {x : Addr} (hx : a = some x) {o : Obj} (ho : w.heap[x.block]? = some o) : o.isCells = true := by
  rcases h.2.2 with ⟨hv, _⟩ | ⟨g, cap', cur, hv, hb, hg, _⟩
  · subst hx; cases hv
  · subst hx; cases hv; rw [hg] at ho; cases ho; rfl
theorem ownq_of {w : World} {B g n : Nat} {L : List Int} (h : w.heap[g]? = some (.cells (L.map (Value.int .i64)).toArray 3 (0, 0))) (hB : B ≤ g) (hn : n = L.length) (hb : n ≤ 1000000) : OwnQ 3 1 encI w B (some ⟨g, 0, none⟩) n n L := by
  have e : L.flatMap encI = L.map (Value.int .i64) := flat_one (v := Value.int .i64)
  refine ⟨hn, ?_⟩
  rw [e]
  have hs : (L.map (Value.int .i64)).length = n := by rw [List.length_map, hn]
  exact ⟨by rw [hs, Nat.mul_one], Or.inr ⟨g, n, (L.map (Value.int .i64)).toArray, rfl, hB, h, Nat.le_refl _, by unfold maxLen; omega, by simp [hn], by rw [List.take_of_length_le]; rw [hs, Nat.mul_one]; exact Nat.le_refl _⟩⟩
theorem OwnQ.ty {α : Type} {e size : Nat} {enc : α → List Value} {w : World} {B : Nat} {a : Option Addr} {n cap : Nat} {l : List α} (h : OwnQ e size enc w B a n cap l) {x : Addr} (hx : a = some x) : ∃ cur, w.heap[x.block]? = some (.cells cur e (0, 0)) := by
  rcases h.2.2 with ⟨hv, _⟩ | ⟨g, cap', cur, hv, hb, hg, _⟩
  · subst hx; cases hv
  · subst hx; cases hv; exact ⟨cur, hg⟩
theorem own_ne {oa : Option Addr} {on oc b : Nat} (hb : ∀ x, oa = some x → x.block ≠ b) : some b ≠ (Value.slice oa on oc).ownBlock := fun e => by
  cases oa with
  | none => cases e
  | some x => exact hb x rfl (Option.some.inj e).symm
theorem own_eq {oa : Option Addr} {on oc b : Nat} (e : (Value.slice oa on oc).ownBlock = some b) : ∃ x, oa = some x ∧ x.block = b := by
  cases oa with
  | none => cases e
  | some x => exact ⟨x, rfl, Option.some.inj e⟩
theorem nums_src {S : Nat → Prop} {w : World} {a : Option Addr} {n c : Nat} {L : List Int} (h : Nums S w a n c L) (h0 : 0 < L.length) : ∃ ad, a = some ad ∧ ∀ j v, (L.map (Value.int .i64))[j]? = some v → w.cell? (ad.add j) = some v := by
  have hn := h.len
  obtain ⟨x0, b, off, -, -, rfl, -, -, -, -⟩ := h.int (j := 0) (by omega)
  refine ⟨⟨b, off, none⟩, rfl, fun j v hj => ?_⟩
  rw [List.getElem?_map] at hj
  obtain ⟨x, hx, rfl⟩ := Option.map_eq_some_iff.1 hj
  obtain ⟨y, b2, off2, hy, -, e, -, -, -, hc⟩ := h.int (j := j) (by have := (List.getElem?_eq_some_iff.1 hx).1; omega)
  cases e
  rw [hx] at hy
  cases hy
  rw [Addr.add_lit]; exact hc
theorem ko_below {w w' : World} (h : Below w.heap.size w w') : KeepsOthers w w' := ⟨h.size, fun k o hk _ => by rw [h.block k (Array.getElem?_eq_some_iff.1 hk).1]; exact hk⟩
/-- A column with an entry more. -/
theorem col_ext {ln : Nat} {o : Option Cm} {ko : Option Nat} : colI (ext ln (o, ko)) = colI (o.getD (List.replicate ln none)) ++ [toI ko] := by
  unfold ext colI
  rw [List.map_append]; rfl
theorem splice_col {n1 ln : Nat} {L : List Int} (hn : n1 = ln + 1) (hL : L.length = ln) : splice (List.replicate n1 (Value.int .i64 (-1))) 0 (L.map (Value.int .i64)) = (L ++ [-1]).map (Value.int .i64) := by
  subst hn
  unfold splice
  rw [List.take_zero, List.nil_append, List.length_map, hL, Nat.zero_add, List.map_append, List.drop_replicate]
  simp
theorem set_last_map {ln : Nat} {L : List Int} (x y : Int) (hL : L.length = ln) : ((L ++ [x]).map (Value.int .i64)).toArray.setIfInBounds ln (.int .i64 y) = ((L ++ [y]).map (Value.int .i64)).toArray := by
  subst hL
  simp [List.setIfInBounds_toArray, List.set_append]
/-- The columns so far: a slice of rows, in a box. -/
structure OutS (W : World) (s4 bo : Nat) (oa : Option Addr) (on oc : Nat) (ps : List (Row × List Int)) : Prop where
  box : W.heap[bo]? = some (.cells #[.slice oa on oc] 31 (0, 0))
  own : OwnQ 27 1 encR W s4 oa on oc (ps.map (·.1))
  rows : RowsP 3 1 encI W s4 ps
  ap : ∀ p ∈ ps, Apart p.1.1 oa
/-- None of it lies in a block. -/
def Avd (oa : Option Addr) (ps : List (Row × List Int)) (b : Nat) : Prop := (∀ x, oa = some x → x.block ≠ b) ∧ ∀ p ∈ ps, ∀ x, p.1.1 = some x → x.block ≠ b
namespace OutS
variable {W V V2 : World} {s4 bo on oc : Nat} {oa : Option Addr} {ps : List (Row × List Int)}
theorem below (h : OutS W s4 bo oa on oc ps) (hb : Below W.heap.size W V) : OutS V s4 bo oa on oc ps :=
  ⟨(hb.block _ (Array.getElem?_eq_some_iff.1 h.box).1).trans h.box, h.own.below hb, h.rows.below hb, h.ap⟩
theorem fresh (h : OutS W s4 bo oa on oc ps) {b : Nat} (hb : W.heap.size ≤ b) : Avd oa ps b :=
  ⟨fun x hx => by have := (h.own.lt x hx).2; omega, fun p hp x hx => by have := (h.rows.lt hp x hx).2; omega⟩
theorem low (h : OutS W s4 bo oa on oc ps) {b : Nat} (hb : b < s4) : Avd oa ps b :=
  ⟨fun x hx => by have := (h.own.lt x hx).1; omega, fun p hp x hx => by have := (h.rows.lt hp x hx).1; omega⟩
theorem set (h : OutS W s4 bo oa on oc ps) {b j : Nat} (hb : b ≠ bo) (ha : Avd oa ps b) (v : Value) : OutS (W.setCell ⟨b, j, none⟩ v) s4 bo oa on oc ps :=
  ⟨(heap_setCell_other hb.symm v).trans h.box, h.own.setOther ha.1 v, h.rows.setOther ha.2 v, h.ap⟩
theorem kept (h : OutS W s4 bo oa on oc ps) {n : Nat} {row : Option Nat} (hg : W.grownBy V row) (hr : ∀ r, row = some r → n ≤ r ∧ ∃ o : Obj, W.heap[r]? = some o ∧ o.isCells = false) : OutS V s4 bo oa on oc ps := by
  refine ⟨cells_own h.box hg hr, h.own.kept hg fun x hx e => ?_, h.rows.kept hg fun p hp x hx e => ?_, h.ap⟩
  · obtain ⟨-, o, ho, hc⟩ := hr _ e.symm
    rw [h.own.isC hx ho] at hc; cases hc
  · obtain ⟨-, o, ho, hc⟩ := hr _ e.symm
    rw [(h.rows.1 p hp).isC hx ho] at hc; cases hc
theorem app (h : OutS W s4 bo oa on oc ps) {bc n c5 : Nat} {a5 : Option Addr} {L : List Int} (hbo : bo < s4) (hs4 : s4 ≤ W.heap.size) (hk : Below W.heap.size W V) (hbc : W.heap.size ≤ bc) (hcol : OwnQ 3 1 encI V s4 (some ⟨bc, 0, none⟩) n n L)
    (hO2 : OwnQ 27 1 encR V2 s4 a5 (on + 1) c5 (ps.map (·.1) ++ [(some ⟨bc, 0, none⟩, n, n)])) (hg : V.grownBy V2 (Value.slice oa on oc).ownBlock) (hz : (Value.slice a5 (on + 1) c5).ownBlock = (Value.slice oa on oc).ownBlock ∨ (Value.slice a5 (on + 1) c5).ownBlock = some V.heap.size) :
    OutS (V2.setCell ⟨bo, 0, none⟩ (.slice a5 (on + 1) c5)) s4 bo a5 (on + 1) c5 (ps ++ [((some ⟨bc, 0, none⟩, n, n), L)]) ∧ (∀ b, b < W.heap.size → Avd oa ps b → Avd a5 (ps ++ [((some ⟨bc, 0, none⟩, n, n), L)]) b) := by
  have hal : ∀ x, oa = some x → x.block < W.heap.size := fun x e => (h.own.lt x e).2
  have hbl : bc < V.heap.size := (hcol.lt _ rfl).2
  have hne : ∀ b, (∀ x, oa = some x → x.block ≠ b) → some b ≠ (Value.slice oa on oc).ownBlock := fun b hb e => by
    cases oa with
    | none => cases e
    | some x => exact hb x rfl (Option.some.inj e).symm
  have ha5 : ∀ x, a5 = some x → (∃ y, oa = some y ∧ x.block = y.block) ∨ x.block = V.heap.size := fun x hx => by
    subst hx
    rcases hz with e | e
    · cases oa with
      | none => cases e
      | some y => exact .inl ⟨y, rfl, Option.some.inj e⟩
    · exact .inr (Option.some.inj e)
  have hcol2 : OwnQ 3 1 encI V2 s4 (some ⟨bc, 0, none⟩) n n L := hcol.kept hg fun x hx => by
    cases hx
    exact hne bc fun x hx => by have := hal x hx; omega
  have hrows2 : RowsP 3 1 encI V2 s4 ps := (h.rows.below hk).kept hg fun p hp x hx => hne _ fun y hy e => h.ap p hp x y hx hy e.symm
  have hbox2 : V2.heap[bo]? = some (.cells #[.slice oa on oc] 31 (0, 0)) := by
    rw [hg.block bo (by have := hk.size; omega) (hne bo fun x hx => by have := (h.own.lt x hx).1; omega)]
    exact (h.below hk).box
  have hrw : RowsP 3 1 encI V2 s4 (ps ++ [((some ⟨bc, 0, none⟩, n, n), L)]) := hrows2.app hcol2 fun q hq x y hx hy => by
    cases hy
    have := (h.rows.lt hq x hx).2
    intro e
    have e : x.block = bc := e
    omega
  refine ⟨⟨?_, ?_, ?_, ?_⟩, fun b hb ha => ⟨fun x hx => ?_, fun p hp x hx => ?_⟩⟩
  · exact one_set hbox2 _
  · rw [List.map_append]
    exact hO2.setOther (fun x hx => by have := (hO2.lt x hx).1; omega) _
  · exact hrw.setOther (fun p hp x hx => by have := (hrw.lt hp x hx).1; omega) _
  · intro p hp x y hx hy e
    rcases List.mem_append.1 hp with hp | hp
    · rcases ha5 y hy with ⟨z, hz, e2⟩ | e2
      · exact h.ap p hp x z hx hz (e.trans e2)
      · have := (h.rows.lt hp x hx).2; have := hk.size; omega
    · rw [List.mem_singleton] at hp
      subst hp
      cases hx
      have e : bc = y.block := e
      rcases ha5 y hy with ⟨z, hz, e2⟩ | e2
      · have := hal z hz; omega
      · omega
  · rcases ha5 x hx with ⟨z, hz, e2⟩ | e2
    · rw [e2]; exact ha.1 z hz
    · have := hk.size; omega
  · rcases List.mem_append.1 hp with hp | hp
    · exact ha.2 p hp x hx
    · rw [List.mem_singleton] at hp
      subst hp
      cases hx
      show bc ≠ b
      omega
end OutS

theorem Marks.keep {hi : Nat} {A B : World} : ∀ {ds : List Deferred}, Marks hi ds A → (∀ D, hi ≤ D → A.heap[D]? = some (.deferred (some [])) → B.heap[D]? = some (.deferred (some []))) → Marks hi ds B
  | [], _, _ => trivial
  | _ :: _, ⟨D, e, h1, h2, h3, h4⟩, h => ⟨D, e, h1, h D h1 h2, h3, Marks.keep h4 h⟩
theorem Marks.lt {hi : Nat} {A : World} : ∀ {ds : List Deferred}, Marks hi ds A → ∀ D, { target := .collected D, args := #[] } ∈ ds → D < A.heap.size
  | [], _, _, h => by cases h
  | d :: ds, ⟨D', e, _, h2, _, h4⟩, D, h => by
    rcases List.mem_cons.1 h with h | h
    · rw [e] at h
      simp only [Deferred.mk.injEq, Target.collected.injEq, and_true] at h
      rw [h]; exact (Array.getElem?_eq_some_iff.1 h2).1
    · exact Marks.lt h4 D h
theorem Marks.cons {hi D : Nat} {A : World} {ds : List Deferred} (h : Marks hi ds A) (h1 : hi ≤ D) (h2 : A.heap[D]? = some (.deferred (some []))) (hne : { target := .collected D, args := #[] } ∉ ds) : Marks hi ({ target := .collected D, args := #[] } :: ds) A :=
  ⟨D, rfl, h1, h2, fun _ hd e => hne (e ▸ hd), h⟩
/-- A step that the least costs allow. -/
def Mt (c : Cst) (l : List (List Tok)) (t : List Tok) (cols : List Cm) (i k : Nat) (x : S3) : Prop := x.2.2 + tabB c l t cols (i + x.1) (k + x.2.1) = tabB c l t cols i k
def wayB (c : Cst) (l : List (List Tok)) (t : List Tok) (cols : List Cm) (i k : Nat) : List (Cln Cm Nat) := wayF (pB c l t) (gB c l t) (fB c l t) (a := cols) (b := List.range t.length) i k
theorem cm_get {cols : List Cm} {i : Nat} (h : i < cols.length) : cols[i]? = some (cmAt cols i) := by unfold cmAt; rw [List.getElem?_eq_getElem h]; rfl
theorem rg_get {m k : Nat} (h : k < m) : (List.range m)[k]? = some k := by simp [h]
theorem pre_cases {α : Type} {pr : List α} {x : α} {L : List α} (h : pr ++ [x] <+: L) : ∃ j, pr = L.take j ∧ L[j]? = some x := by
  obtain ⟨r, hr⟩ := h
  refine ⟨pr.length, ?_, ?_⟩
  · rw [← hr]; simp
  · rw [← hr]; simp
theorem way_step {c : Cst} {l : List (List Tok)} {t : List Tok} {cols : List Cm} {i k : Nat} {pr : List S3} {x : S3} (h : pr ++ [x] <+: stL c l t cols i k) (hno : ∀ y ∈ pr, ¬ Mt c l t cols i k y) (hyes : Mt c l t cols i k x) :
    wayB c l t cols i k = (if x.1 = 1 then some (cmAt cols i) else none, if x.2.1 = 1 then some k else none) :: wayB c l t cols (i + x.1) (k + x.2.1) := by
  obtain ⟨j, hj, hx⟩ := pre_cases h
  unfold Mt tabB at hno hyes
  unfold wayB
  by_cases h1 : i < cols.length
  · by_cases h2 : k < t.length
    · have e : stL c l t cols i k = [(1, 1, pB c l t (cmAt cols i) k), (1, 0, gB c l t (cmAt cols i)), (0, 1, fB c l t k)] := by
        unfold stL; rw [if_pos h1, if_pos h2, if_pos h2]; rfl
      rw [e] at hj hx
      match j, hj, hx with
      | 0, hj, hx =>
        cases hx
        exact way_at1 _ _ _ (cm_get h1) (rg_get h2) hyes
      | 1, hj, hx =>
        cases hx
        refine way_at2 _ _ _ (cm_get h1) (fun y hy => ?_) hyes
        rw [rg_get h2] at hy; cases hy
        exact hno (1, 1, pB c l t (cmAt cols i) k) (by rw [hj]; simp)
      | 2, hj, hx =>
        cases hx
        refine (way_at3 _ _ _ (rg_get h2) (fun y hy => ?_)).1
        rw [cm_get h1] at hy; cases hy
        exact ⟨hno (1, 1, pB c l t (cmAt cols i) k) (by rw [hj]; simp), hno (1, 0, gB c l t (cmAt cols i)) (by rw [hj]; simp)⟩
      | j + 3, hj, hx => cases hx
    · have e : stL c l t cols i k = [(1, 0, gB c l t (cmAt cols i))] := by
        unfold stL; rw [if_pos h1, if_neg h2, if_neg h2]; rfl
      rw [e] at hj hx
      match j, hj, hx with
      | 0, hj, hx =>
        cases hx
        refine way_at2 _ _ _ (cm_get h1) (fun y hy => ?_) hyes
        have := (List.getElem?_eq_some_iff.1 hy).1
        rw [List.length_range] at this
        omega
      | j + 1, hj, hx => cases hx
  · by_cases h2 : k < t.length
    · have e : stL c l t cols i k = [(0, 1, fB c l t k)] := by
        unfold stL; rw [if_neg h1, if_pos h2]; rfl
      rw [e] at hj hx
      match j, hj, hx with
      | 0, hj, hx =>
        cases hx
        refine (way_at3 _ _ _ (rg_get h2) (fun y hy => ?_)).1
        have := (List.getElem?_eq_some_iff.1 hy).1
        omega
      | j + 1, hj, hx => cases hx
    · have e : stL c l t cols i k = [] := stL_nil.2 ⟨h1, h2⟩
      rw [e] at hx
      cases hx
theorem way_some {c : Cst} {l : List (List Tok)} {t : List Tok} {cols : List Cm} {i k : Nat} (hno : ∀ y ∈ stL c l t cols i k, ¬ Mt c l t cols i k y) : ¬ (i < cols.length ∨ k < t.length) := by
  intro h
  unfold Mt tabB at hno
  by_cases h1 : i < cols.length
  · by_cases h2 : k < t.length
    · have e : stL c l t cols i k = [(1, 1, pB c l t (cmAt cols i) k), (1, 0, gB c l t (cmAt cols i)), (0, 1, fB c l t k)] := by
        unfold stL; rw [if_pos h1, if_pos h2, if_pos h2]; rfl
      rw [e] at hno
      have a1 := hno _ (by simp : ((1, 1, pB c l t (cmAt cols i) k) : S3) ∈ _)
      have a2 := hno _ (by simp : ((1, 0, gB c l t (cmAt cols i)) : S3) ∈ _)
      have a3 := hno _ (by simp : ((0, 1, fB c l t k) : S3) ∈ _)
      have := tab_11 (pB c l t) (gB c l t) (fB c l t) (cm_get h1) (rg_get h2)
      dsimp only [Nat.add_zero] at a1 a2 a3
      omega
    · have e : stL c l t cols i k = [(1, 0, gB c l t (cmAt cols i))] := by
        unfold stL; rw [if_pos h1, if_neg h2, if_neg h2]; rfl
      rw [e] at hno
      have a2 := hno _ (by simp : ((1, 0, gB c l t (cmAt cols i)) : S3) ∈ _)
      have := tab_10 (pB c l t) (gB c l t) (fB c l t) (b := List.range t.length) (k := k) (cm_get h1) (by rw [List.length_range]; omega)
      dsimp only [Nat.add_zero] at a2
      omega
  · have h2 : k < t.length := by omega
    have e : stL c l t cols i k = [(0, 1, fB c l t k)] := by
      unfold stL; rw [if_neg h1, if_pos h2]; rfl
    rw [e] at hno
    have a3 := hno _ (by simp : ((0, 1, fB c l t k) : S3) ∈ _)
    have := tab_01 (pB c l t) (gB c l t) (fB c l t) (a := cols) (i := i) (by omega) (rg_get h2)
    dsimp only [Nat.add_zero] at a3
    omega
theorem wayB_zero (c : Cst) (l : List (List Tok)) (t : List Tok) (cols : List Cm) : wayB c l t cols 0 0 = way (pB c l t) (gB c l t) (fB c l t) cols (List.range t.length) := rfl
theorem numss_i64 {S : Nat → Prop} {w : World} {a : Option Addr} {n c : Nat} {L : List (List Int)} (h : Numss S w a n c L) : ∀ r ∈ L, ∀ x ∈ r, I64 x := fun r hr x hx => by
  obtain ⟨j, hj, e⟩ := List.mem_iff_getElem.1 hr
  obtain ⟨u, b, off, a', n', c', hu, -, -, -, -, hrow, -⟩ := h.row (j := j) (by rw [h.len]; exact hj)
  rw [List.getElem?_eq_getElem hj, e] at hu
  cases hu
  obtain ⟨q, hq, e2⟩ := List.mem_iff_getElem.1 hx
  obtain ⟨y, b2, off2, hy, -, -, -, -, hi, -⟩ := hrow.int (j := q) (by rw [hrow.len]; exact hq)
  rw [List.getElem?_eq_getElem hq, e2] at hy
  cases hy
  exact hi
theorem wayB_ok {c : Cst} {l : List (List Tok)} {t : List Tok} {cols : List Cm} {ln : Nat} (hv : ∀ col ∈ cols, VCol l col) (hi : ∀ col ∈ cols, ∀ x ∈ colI col, I64 x) (hln : ln = l.length) (htl : t.length ≤ 1000) :
    ∀ y ∈ wayB c l t cols 0 0, (colI (ext ln y)).length = ln + 1 ∧ ∀ x ∈ colI (ext ln y), I64 x := by
  rintro ⟨o, ko⟩ hy
  rw [wayB_zero] at hy
  obtain ⟨w1, w2, -, -⟩ := way_ok (pB c l t) (gB c l t) (fB c l t) _ cols (List.range t.length) (Nat.le_refl _)
  rw [col_ext, List.length_append, List.length_singleton]
  have hko : I64 (toI ko) := by
    cases ko with
    | none => exact ⟨by decide, by decide⟩
    | some k =>
      have hm : k ∈ List.range t.length := by rw [← w2]; exact List.mem_filterMap.2 ⟨_, hy, rfl⟩
      have := List.mem_range.1 hm
      exact I64.small (show -1073741824 ≤ (k : Int) by omega) (show (k : Int) ≤ 1099511627776 by omega)
  cases o with
  | none =>
    refine ⟨by simp [colI], fun x hx => ?_⟩
    rcases List.mem_append.1 hx with hx | hx
    · obtain ⟨z, hz, rfl⟩ := List.mem_map.1 hx
      rw [Option.getD_none, List.mem_replicate] at hz
      rw [hz.2]; exact ⟨by decide, by decide⟩
    · rw [List.mem_singleton.1 hx]; exact hko
  | some col =>
    have hm : col ∈ cols := by rw [← w1]; exact List.mem_filterMap.2 ⟨_, hy, rfl⟩
    refine ⟨?_, fun x hx => ?_⟩
    · rw [Option.getD_some, colI, List.length_map, (hv col hm).1, hln]
    · rcases List.mem_append.1 hx with hx | hx
      · exact hi col hm x hx
      · rw [List.mem_singleton.1 hx]; exact hko
end Go.Proofs.YtaelfjlmkgimhaaGreatDoor
