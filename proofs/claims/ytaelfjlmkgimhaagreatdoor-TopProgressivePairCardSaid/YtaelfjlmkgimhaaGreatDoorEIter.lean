/- A slice of anything, of the call's own: appended to, read, handed on. -/
import Derived.Test.YtaelfjlmkgimhaaGreatDoorEDat
import Derived.Maps.AppendAt
import Derived.Maps.OwnIn
import Derived.Laws.AppendOwnNone
import Derived.RangeFuncNested
import Derived.RangeFuncBound
import Derived.RangeFuncCalls
import Derived.RangeFuncLeaves
import Derived.Shelf.Abstract
import Derived.OwnWalkIn
import Derived.TacticsInMore
import Derived.LoopNIn
import Derived.LoopIn
import Derived.OneCell
import Derived.Sort.LoopGhostIn
set_option linter.unusedVariables false
set_option linter.unusedSimpArgs false
namespace Go.Proofs.YtaelfjlmkgimhaaGreatDoor
open Go.RowKit

theorem flat_get {α : Type} {enc : α → List Value} {size : Nat} (henc : ∀ x, (enc x).length = size) : ∀ (l : List α) (j : Nat) (x : α) (i : Nat), l[j]? = some x → i < size → (l.flatMap enc)[j * size + i]? = (enc x)[i]?
  | [], j, x, i, h, _ => by simp at h
  | u :: l, 0, x, i, h, hi => by
    simp at h; subst h
    rw [List.flatMap_cons, Nat.zero_mul, Nat.zero_add, List.getElem?_append_left (by rw [henc]; exact hi)]
  | u :: l, j + 1, x, i, h, hi => by
    have e : (j + 1) * size = size + j * size := by rw [Nat.add_mul, Nat.one_mul, Nat.add_comm]
    rw [List.flatMap_cons, e, List.getElem?_append_right (by rw [henc]; omega)]
    rw [henc, show size + j * size + i - size = j * size + i by omega]
    exact flat_get henc l j x i (by simpa using h) hi
theorem flat_len {α : Type} {enc : α → List Value} {size : Nat} (henc : ∀ x, (enc x).length = size) : ∀ l : List α, (l.flatMap enc).length = l.length * size
  | [] => by simp
  | u :: l => by rw [List.flatMap_cons, List.length_append, henc, flat_len henc l, List.length_cons, Nat.add_mul, Nat.one_mul, Nat.add_comm]

/-- The slice value 'a n cap' is the call's own, and reads as l. -/
def OwnQ {α : Type} (e size : Nat) (enc : α → List Value) (w : World) (B : Nat) (a : Option Addr) (n cap : Nat) (l : List α) : Prop :=
  n = l.length ∧ w.ownsRow B e size (.slice a n cap) n (l.flatMap enc)
namespace OwnQ
variable {α : Type} {e size : Nat} {enc : α → List Value} {w w' : World} {B : Nat} {a : Option Addr} {n cap : Nat} {l : List α}
theorem nil (e size : Nat) (enc : α → List Value) (w : World) (B : Nat) : OwnQ e size enc w B none 0 0 [] := ⟨rfl, World.ownsRow_nil _ _ _ _⟩
/-- The empty slice at the head of a new block. -/
theorem lit0 (e size : Nat) (enc : α → List Value) (w : World) (B : Nat) (hB : B ≤ w.heap.size) : OwnQ e size enc (w.alloc (.cells #[] e)) B (some ⟨w.heap.size, 0, none⟩) 0 0 [] :=
  ⟨rfl, World.ownsRow_made w #[] 0 hB (Nat.zero_le _) (Nat.zero_mul _).symm⟩
theorem len (h : OwnQ e size enc w B a n cap l) : n = l.length := h.1
theorem below (h : OwnQ e size enc w B a n cap l) (hb : Below w.heap.size w w') : OwnQ e size enc w' B a n cap l := ⟨h.1, ownsRow_below h.2 hb⟩
theorem drewN (h : OwnQ e size enc w B a n cap l) (q : Nat) : OwnQ e size enc (w.drewN q) B a n cap l := h
theorem alloc (h : OwnQ e size enc w B a n cap l) (o : Obj) : OwnQ e size enc (w.alloc o) B a n cap l := h.below ((Below.refl _ _).alloc (Nat.le_refl _) _)
theorem lt (h : OwnQ e size enc w B a n cap l) : ∀ x, a = some x → B ≤ x.block ∧ x.block < w.heap.size := fun x hx => h.2.lt x.block (by rw [hx]; rfl)
theorem kept {row : Option Nat} (h : OwnQ e size enc w B a n cap l) (hg : w.grownBy w' row) (hr : ∀ x, a = some x → some x.block ≠ row) : OwnQ e size enc w' B a n cap l := by
  refine ⟨h.1, h.2.kept hg ?_⟩
  cases a with
  | none => exact .inl rfl
  | some x => exact .inr (hr x rfl)
theorem same (h : OwnQ e size enc w B a n cap l) (hs : ∀ x, a = some x → w'.heap[x.block]? = w.heap[x.block]?) : OwnQ e size enc w' B a n cap l := by
  refine ⟨h.1, h.2.1, ?_⟩
  rcases h.2.2 with h0 | ⟨g, cap', cur, hv, hB, hg, hrest⟩
  · exact .inl h0
  · cases hv
    exact .inr ⟨g, _, cur, rfl, hB, by rw [hs _ rfl]; exact hg, hrest⟩
theorem keepS {S : Nat → Prop} (h : OwnQ e size enc w B a n cap l) (k : KeepS S w w') (hs : ∀ x, a = some x → S x.block) : OwnQ e size enc w' B a n cap l := by
  refine ⟨h.1, h.2.1, ?_⟩
  rcases h.2.2 with h0 | ⟨g, cap', cur, hv, hB, hg, hrest⟩
  · exact .inl h0
  · cases hv
    exact .inr ⟨g, _, cur, rfl, hB, k.2 g cur e _ (hs _ rfl) hg, hrest⟩
theorem mono {B' : Nat} (h : OwnQ e size enc w B a n cap l) (hB : B' ≤ B) : OwnQ e size enc w B' a n cap l := by
  refine ⟨h.1, h.2.1, ?_⟩
  rcases h.2.2 with h0 | ⟨g, cap', cur, hv, hb, hrest⟩
  · exact .inl h0
  · exact .inr ⟨g, cap', cur, hv, Nat.le_trans hB hb, hrest⟩
theorem cap_le (h : OwnQ e size enc w B a n cap l) : n ≤ cap := by
  rcases h.2.2 with ⟨hv, h0⟩ | ⟨g, cap', cur, hv, hb, hg, hc, _⟩
  · omega
  · cases hv; exact hc
/-- Element j: where it lies. -/
theorem at_ (h : OwnQ e size enc w B a n cap l) (henc : ∀ x, (enc x).length = size) {j : Nat} (hj : j < n) : ∃ x g, l[j]? = some x ∧ x ∈ l ∧ a = some ⟨g, 0, none⟩ ∧ B ≤ g ∧ g < w.heap.size ∧ (∀ k, w.frozen? ⟨g, k, none⟩ = false) ∧ AtC w g (j * size) (enc x) := by
  have hl : j < l.length := by rw [← h.1]; exact hj
  have ej := List.getElem?_eq_getElem hl
  rcases h.2.2 with ⟨_, h0⟩ | ⟨g, cap', cur, hv, hb, hg, hc, hm, hs, ht⟩
  · omega
  · cases hv
    refine ⟨l[j], g, ej, List.getElem_mem hl, rfl, hb, (Array.getElem?_eq_some_iff.1 hg).1, fun k => by simp [World.frozen?, hg], fun i x hx => ?_⟩
    have hi : i < size := by rw [← henc l[j]]; exact (List.getElem?_eq_some_iff.1 hx).1
    rw [cell_row hg, ← hx, ← flat_get henc l j _ i ej hi, ← ht, List.getElem?_take, if_pos, Array.getElem?_toList]
    have : (j + 1) * size ≤ n * size := Nat.mul_le_mul_right _ hj
    rw [Nat.add_mul, Nat.one_mul] at this
    omega
theorem sq {R : Rel α} {S : Nat → Prop} {s : Nat} (h : OwnQ e size enc w B a n cap l) (henc : ∀ x, (enc x).length = size) (hn : n * s ≤ 140737488355328) (hS : ∀ x, a = some x → S x.block) (hR : ∀ x ∈ l, R S w (enc x) x) : Sq R size s S w a n cap l := by
  refine ⟨h.1, h.cap_le, hn, fun j x hj => ?_⟩
  obtain ⟨y, g, h1, h2, rfl, h3, h4, -, h5⟩ := h.at_ henc (j := j) (by rw [h.1]; exact (List.getElem?_eq_some_iff.1 hj).1)
  rw [hj] at h1; cases h1
  exact ⟨g, 0, enc x, rfl, hS _ rfl, h4, henc x, by rw [Nat.zero_add]; exact h5, hR x h2⟩
theorem frozenAt {g : Nat} (h : OwnQ e size enc w B (some ⟨g, 0, none⟩) n cap l) (j : Nat) : w.frozen? ⟨g, j, none⟩ = false := h.2.frozenAt j
/-- Behind an append. -/
theorem appended {v : Value} {ys : List α} {m : Nat} (h : w.ownsRow B e size v (n + m) (l.flatMap enc ++ ys.flatMap enc)) (hn : n = l.length) (hm : m = ys.length) : ∃ a' cap', v = .slice a' (n + m) cap' ∧ OwnQ e size enc w B a' (n + m) cap' (l ++ ys) := by
  have h' := h
  rcases h.2 with ⟨rfl, h0⟩ | ⟨g, cap', cur, rfl, _⟩
  · refine ⟨none, 0, by rw [h0], by simp [hn, hm], ?_⟩
    rw [List.flatMap_append]; rw [h0]; rw [h0] at h'; exact h'
  · exact ⟨_, _, rfl, by simp [hn, hm], by rw [List.flatMap_append]; exact h'⟩
/-- A literal. -/
theorem lit {cs : Array Value} (w : World) (B : Nat) (hB : B ≤ w.heap.size) (hcs : cs.toList = l.flatMap enc) (henc : ∀ x, (enc x).length = size) (hn : l.length ≤ 1000000) : OwnQ e size enc (w.alloc (.cells cs e)) B (some ⟨w.heap.size, 0, none⟩) l.length l.length l := by
  refine ⟨rfl, ?_⟩
  have hsz : cs.size = l.length * size := by rw [← Array.length_toList, hcs, flat_len henc]
  have := World.ownsRow_lit (e := e) (size := size) w cs l.length hB (by unfold maxLen; omega) hsz
  rw [hcs] at this
  exact this
end OwnQ

section
variable {α : Type} {e st size bytes : Nat} {z : Value} {enc : α → List Value} {ops : Array Oper} {rest : List Oper} {o : Oper} {act : Act} {Q : Exit → Act → World → Prop} {w w0 : World} {B : Nat} {a : Option Addr} {n cap m c : Nat} {l ys : List α} {ad : Addr}
theorem below_ownQ (ho : OwnQ e size enc w B a n cap l) {w' : World} (hb : Below B w0 w) (hs : B ≤ w.heap.size) (hg : w.grownBy w' (Value.slice a n cap).ownBlock) : Below B w0 w' :=
  hb.grown hg hs (fun j hj => (ho.2.lt j hj).1)
theorem wpList_appQ (hi : (Tryz.prog.info? e).map (fun i => (i.zero, i.size, i.bytes)) = some (some z, size, bytes)) (hu : Tryz.prog.underlying st = some (.slice e)) (hzs : z.cells.size = size) (hs0 : 0 < size) (hen : ∀ x, (enc x).length = size) (hone : ∀ x, ∀ v ∈ enc x, v.oneCell' = true)
    (hgd : o.guard = none) (s x : Operand) (ho : o.op = .call { callee := .builtin .append, args := #[s, x], argTypes := #[st, st] })
    (hs : act.eval s = .slice a n cap) (hx : act.eval x = .slice (some ad) m c) (hown : OwnQ e size enc w B a n cap l) (hm : m = ys.length) (hy : ∀ j u, (ys.flatMap enc)[j]? = some u → w.cell? (ad.add j) = some u)
    (h63 : n + m ≤ maxLen) (hby : (n + m) * bytes ≤ 140737488355328) (hB : B ≤ w.heap.size) (hb : Below B w0 w)
    (h : ∀ a' c' w', OwnQ e size enc w' B a' (n + m) c' (l ++ ys) → Below B w0 w' → w.grownBy w' (Value.slice a n cap).ownBlock → ((Value.slice a' (n + m) c').ownBlock = (Value.slice a n cap).ownBlock ∨ (Value.slice a' (n + m) c').ownBlock = some w.heap.size) → wpList Tryz.prog ops Q rest (act.put o.dst (.slice a' (n + m) c')) w') :
    wpList Tryz.prog ops Q (o :: rest) act w := by
  obtain ⟨i0, hi, hz0, hz1, hz2⟩ := info_parts hi
  refine wpList_append_own_at _ hgd s x st ho B e i0 z size bytes hu hi hz0 hz1 hz2 hzs hs0 _ _ _ hs hown.2 ad m c (ys.flatMap enc) hx (by rw [flat_len hen, hm]) hy
    (fun u hu => by obtain ⟨y, _, hy⟩ := List.mem_flatMap.1 hu; exact hone y u hy) h63 hby hB ?_
  intro v' w' h1 h2 _ h4
  obtain ⟨a', c', rfl, hO⟩ := OwnQ.appended h1 hown.len hm
  exact h a' c' w' hO (below_ownQ hown hb hB h2) h2 h4
theorem wpListIn_appQ {F : Fence} {nF : Nat} (hi : (Tryz.prog.info? e).map (fun i => (i.zero, i.size, i.bytes)) = some (some z, size, bytes)) (hu : Tryz.prog.underlying st = some (.slice e)) (hzs : z.cells.size = size) (hs0 : 0 < size) (hen : ∀ x, (enc x).length = size) (hone : ∀ x, ∀ v ∈ enc x, v.oneCell' = true)
    (hgd : o.guard = none) (s x : Operand) (ho : o.op = .call { callee := .builtin .append, args := #[s, x], argTypes := #[st, st] })
    (hs : act.eval s = .slice a n cap) (hx : act.eval x = .slice (some ad) m c) (hown : OwnQ e size enc w B a n cap l) (hm : m = ys.length) (hy : ∀ j u, (ys.flatMap enc)[j]? = some u → w.cell? (ad.add j) = some u)
    (h63 : n + m ≤ maxLen) (hby : (n + m) * bytes ≤ 140737488355328) (hB : B ≤ w.heap.size) (hb : Below B w0 w)
    (h : ∀ a' c' w', OwnQ e size enc w' B a' (n + m) c' (l ++ ys) → Below B w0 w' → w.grownBy w' (Value.slice a n cap).ownBlock → ((Value.slice a' (n + m) c').ownBlock = (Value.slice a n cap).ownBlock ∨ (Value.slice a' (n + m) c').ownBlock = some w.heap.size) → wpListIn F nF Tryz.prog ops Q rest (act.put o.dst (.slice a' (n + m) c')) w') :
    wpListIn F nF Tryz.prog ops Q (o :: rest) act w := by
  obtain ⟨i0, hi, hz0, hz1, hz2⟩ := info_parts hi
  refine wpListIn_append_own_at _ hgd s x st ho B e i0 z size bytes hu hi hz0 hz1 hz2 hzs hs0 _ _ _ hs hown.2 ad m c (ys.flatMap enc) hx (by rw [flat_len hen, hm]) hy
    (fun u hu => by obtain ⟨y, _, hy⟩ := List.mem_flatMap.1 hu; exact hone y u hy) h63 hby hB ?_
  intro v' w' h1 h2 _ h4
  obtain ⟨a', c', rfl, hO⟩ := OwnQ.appended h1 hown.len hm
  exact h a' c' w' hO (below_ownQ hown hb hB h2) h2 h4
end
/-- The cells of a literal, one element. -/
theorem lit_cells {w : World} {e : TypeId} {cs : Array Value} {j : Nat} {u : Value} (h : cs.toList[j]? = some u) : (w.alloc (.cells cs e)).cell? ((⟨w.heap.size, 0, none⟩ : Addr).add j) = some u := by
  rw [Addr.add_lit, Nat.zero_add, World.cell?_alloc_at _ _ _ _ rfl]
  simpa using h

abbrev encB (b : Bool) : List Value := [.bool b]
abbrev encI (x : Int) : List Value := [.int .i64 x]
abbrev encS (t : ByteArray) : List Value := [.string t]
abbrev encR (r : Row) : List Value := [rowV r]
theorem infoB : (Tryz.prog.info? 4).map (fun i => (i.zero, i.size, i.bytes)) = some (some (.bool false), 1, 1) := by kernel_rfl
theorem infoS : (Tryz.prog.info? 9).map (fun i => (i.zero, i.size, i.bytes)) = some (some (.string ⟨#[]⟩), 1, 16) := by kernel_rfl
theorem infoTs : (Tryz.prog.info? 37).map (fun i => (i.zero, i.size, i.bytes)) = some (some (.slice none 0 0), 1, 24) := by kernel_rfl
theorem infoT : (Tryz.prog.info? 47).map (fun i => (i.zero, i.size, i.bytes)) = some (some (.agg #[.string ⟨#[]⟩, .string ⟨#[]⟩, .string ⟨#[]⟩, .int .i64 0, .int .i64 0, .string ⟨#[]⟩]), 6, 80) := by kernel_rfl
theorem tok_len (t : Tok) : t.cells.length = 6 := rfl
theorem tok_one (t : Tok) : ∀ v ∈ t.cells, v.oneCell' = true := by
  intro v hv
  simp only [Tok.cells, List.mem_cons, List.not_mem_nil, or_false] at hv
  rcases hv with rfl | rfl | rfl | rfl | rfl | rfl <;> rfl
theorem op_len (t : Op) : t.cells.length = 5 := rfl
theorem op_one (t : Op) : ∀ v ∈ t.cells, v.oneCell' = true := by
  intro v hv
  simp only [Op.cells, List.mem_cons, List.not_mem_nil, or_false] at hv
  rcases hv with rfl | rfl | rfl | rfl | rfl <;> rfl
theorem one_b (x : Bool) : ∀ v ∈ encB x, v.oneCell' = true := by intro v hv; simp at hv; subst hv; rfl
theorem one_i (x : Int) : ∀ v ∈ encI x, v.oneCell' = true := by intro v hv; simp at hv; subst hv; rfl
theorem one_s (x : ByteArray) : ∀ v ∈ encS x, v.oneCell' = true := by intro v hv; simp at hv; subst hv; rfl
theorem one_r (x : Row) : ∀ v ∈ encR x, v.oneCell' = true := by intro v hv; simp at hv; subst hv; rfl
end Go.Proofs.YtaelfjlmkgimhaaGreatDoor

/- Loops over iterators: what they leave, what they keep. -/
namespace Go.Proofs.YtaelfjlmkgimhaaGreatDoor
open Go.RowKit Go.Shelf
attribute [local go_sem] Oper.semAt_some

/-- The marks that loops over iterators have left. -/
def Marks (hi : Nat) : List Deferred → World → Prop
  | [], _ => True
  | d :: ds, W => ∃ D, d = { target := .collected D, args := #[] } ∧ hi ≤ D ∧ W.heap[D]? = some (.deferred (some [])) ∧ (∀ e ∈ ds, e ≠ d) ∧ Marks hi ds W
theorem Marks.one {hi D : Nat} {W : World} (h : hi ≤ D) (hd : W.heap[D]? = some (.deferred (some []))) : Marks hi [{ target := .collected D, args := #[] }] W := ⟨D, rfl, h, hd, by simp, trivial⟩
theorem Marks.put {hi D : Nat} {A : World} : ∀ {ds : List Deferred}, Marks hi ds A → (∀ d' ∈ ds, d' ≠ { target := .collected D, args := #[] }) → Marks hi ds (A.putObj D (.deferred none))
  | [], _, _ => trivial
  | _ :: ds, ⟨D', e, h1, h2, h3, h4⟩, hne => by
    refine ⟨D', e, h1, ?_, h3, Marks.put h4 (fun d hd => hne d (by simp [hd]))⟩
    have : D' ≠ D := fun e2 => hne _ (List.mem_cons_self) (by rw [e, e2])
    rw [World.putObj_heap_other this]; exact h2
/-- A function leaves over its marks. -/
theorem leaves_marks {F : Fence} {n hi : Nat} {P : Program} {fn : Func} {tmps : Array Value} {R : Ending → World → Prop} {u : FrameMode} (hu : u ≠ .run) {Φ : World → Prop}
    (hΦ : ∀ (W : World) (D : Nat), Φ W → hi ≤ D → W.heap[D]? = some (.deferred (some [])) → Φ (W.putObj D (.deferred none)))
    (hend : ∀ W, Φ W → LeavesInM F n P fn tmps R [] u W) : ∀ (ds : List Deferred) (W : World), Marks hi ds W → Φ W → LeavesInM F n P fn tmps R ds u W
  | [], W, _, h => hend W h
  | _ :: ds, W, ⟨D, e, h1, h2, h3, h4⟩, h => by
    subst e
    exact ⟨hu, .inl ⟨D, _, rfl, run_takeDeferred h2, leaves_marks hu hΦ hend ds _ (h4.put (fun d hd => h3 d hd)) (hΦ W D h h1 h2)⟩⟩
theorem cells_putObj {W : World} {b D : Nat} {cs : Array Value} {t : TypeId} {fr : Nat × Nat} {o : Obj} (h : W.heap[b]? = some (.cells cs t fr)) (hd : W.heap[D]? = some o) (ho : o.isCells = false) (o' : Obj) : (W.putObj D o').heap[b]? = some (.cells cs t fr) := by
  have hne : b ≠ D := fun e => by subst e; rw [h] at hd; cases hd; cases ho
  rw [World.putObj_heap_other hne]; exact h
theorem below_putObj {n₀ : Nat} {A W : World} (h : Below n₀ A W) {D : Nat} (hD : n₀ ≤ D) {o : Obj} (hd : W.heap[D]? = some o) (o' : Obj) : Below n₀ A (W.putObj D o') :=
  h.trans ((Below.refl n₀ W).grown (grownBy_putObj' W D o') (by have := (Array.getElem?_eq_some_iff.1 hd).1; omega) (fun k e => by cases e; omega))
theorem heap_setCell_self {W : World} {b j : Nat} {cs : Array Value} {t : TypeId} {fr : Nat × Nat} (h : W.heap[b]? = some (.cells cs t fr)) (v : Value) : (W.setCell ⟨b, j, none⟩ v).heap[b]? = some (.cells (cs.setIfInBounds j v) t fr) := by
  simp [World.setCell, Array.getElem?_modify, h]
theorem heap_setCell_other {W : World} {b b' j : Nat} (h : b' ≠ b) (v : Value) : (W.setCell ⟨b, j, none⟩ v).heap[b']? = W.heap[b']? := Below.heap_setCell _ _ _ _ (by simpa using h)

theorem below_setc {n₀ : Nat} {A W : World} (h : Below n₀ A W) {b : Nat} (hb : n₀ ≤ b) (j : Nat) (v : Value) : Below n₀ A (W.setCell ⟨b, j, none⟩ v) := h.setCell (p := ⟨b, j, none⟩) hb v
/-- What is kept stays kept when an object that is no cells turns. -/
theorem KeepS.own {S : Nat → Prop} {A W W' : World} {B : Nat} {row : Option Nat} (h : KeepS S A W) (hg : W.grownBy W' row) (hr : ∀ r, row = some r → B ≤ r ∧ ∃ o : Obj, W.heap[r]? = some o ∧ o.isCells = false) : KeepS S A W' :=
  ⟨Nat.le_trans h.1 hg.size, fun b cs t fr hs hb => by
    have hb' := h.2 b cs t fr hs hb
    rw [hg.block b (Array.getElem?_eq_some_iff.1 hb').1 (fun e => by
      obtain ⟨_, o, ho, hc⟩ := hr b e.symm
      rw [hb'] at ho; cases ho; cases hc)]
    exact hb'⟩
theorem cells_own {W W' : World} {B b : Nat} {row : Option Nat} {cs : Array Value} {t : TypeId} {fr : Nat × Nat} (h : W.heap[b]? = some (.cells cs t fr)) (hg : W.grownBy W' row) (hr : ∀ r, row = some r → B ≤ r ∧ ∃ o : Obj, W.heap[r]? = some o ∧ o.isCells = false) : W'.heap[b]? = some (.cells cs t fr) := by
  rw [hg.block b (Array.getElem?_eq_some_iff.1 h).1 (fun e => by
    obtain ⟨_, o, ho, hc⟩ := hr b e.symm
    rw [h] at ho; cases ho; cases hc)]
  exact h
theorem keepsFrom_below {B : Nat} {W W' : World} (h : Below W.heap.size W W') : KeepsFrom B W W' := ⟨h.size, fun k o _ hk _ => by rw [h.block k (Array.getElem?_eq_some_iff.1 hk).1]; exact hk⟩
end Go.Proofs.YtaelfjlmkgimhaaGreatDoor
