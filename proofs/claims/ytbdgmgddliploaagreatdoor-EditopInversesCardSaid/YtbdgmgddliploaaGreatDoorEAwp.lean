/- Plain: all operations, one after the other. No program. -/
import Derived.Test.YtbdgmgddliploaaGreatDoorEPut
import Derived.Test.YtbdgmgddliploaaGreatDoorEIter
import Derived.Test.YtbdgmgddliploaaGreatDoorEVal3
import Derived.Test.YtbdgmgddliploaaGreatDoorEChkC
import Derived.Test.YtbdgmgddliploaaGreatDoorEGap
set_option linter.unusedVariables false
set_option linter.unusedSimpArgs false
namespace Go.Proofs.YtbdgmgddliploaaGreatDoor

def fourZ : List Op := [⟨1, ⟨#[]⟩, 0, 0, ⟨#[]⟩⟩, ⟨2, ⟨#[]⟩, 0, 0, ⟨#[]⟩⟩, ⟨3, ⟨#[]⟩, 0, -1, ⟨#[]⟩⟩, ⟨3, ⟨#[]⟩, 0, 1, ⟨#[]⟩⟩]
theorem fourZ_get {k : Nat} (h : k < 4) (s : ByteArray) (t : Nat) : ∃ z, fourZ[k]? = some z ∧ z.sig = ⟨#[]⟩ ∧ z.tok = 0 ∧ z.text = ⟨#[]⟩ ∧ (four s t)[k]? = some ⟨z.kind, s, (t : Int), z.other, z.text⟩ := by
  match k, h with
  | 0, _ => exact ⟨_, rfl, rfl, rfl, rfl, rfl⟩
  | 1, _ => exact ⟨_, rfl, rfl, rfl, rfl, rfl⟩
  | 2, _ => exact ⟨_, rfl, rfl, rfl, rfl, rfl⟩
  | 3, _ => exact ⟨_, rfl, rfl, rfl, rfl, rfl⟩
def sgl (x : Col) (i : Nat) : ByteArray := x.sigla[i]?.getD ⟨#[]⟩
def preI (x : Col) (i : Nat) : List Op := (List.range i).flatMap (opsOf x)
def preT (x : Col) (i t : Nat) : List Op := preI x i ++ (List.range t).flatMap (opsAt x (sgl x i))
def preK (x : Col) (i t k : Nat) : List Op := preT x i t ++ ((four (sgl x i) t).take k).filter fun o => decide (opErr x o = 0)
theorem range_pre {α : Type} (f : Nat → List α) {i : Nat} : ∀ m, (List.range i).flatMap f <+: (List.range (i + m)).flatMap f
  | 0 => List.prefix_rfl
  | m + 1 => (range_pre f m).trans (by rw [show i + (m + 1) = (i + m) + 1 by omega, List.range_succ, List.flatMap_append]; exact List.prefix_append _ _)
theorem preI_all (x : Col) : preI x x.sigla.length = allOps x := rfl
theorem preI_pre {x : Col} {i : Nat} (h : i ≤ x.sigla.length) : preI x i <+: allOps x := by
  have := range_pre (opsOf x) (i := i) (x.sigla.length - i)
  rwa [show i + (x.sigla.length - i) = x.sigla.length by omega] at this
theorem preT_end (x : Col) (i : Nat) : preT x i (x.tks i).length = preI x (i + 1) := by
  unfold preT preI
  rw [List.range_succ, List.flatMap_append]; simp [opsOf, sgl]
theorem preT_pre {x : Col} {i t : Nat} (h : i < x.sigla.length) (ht : t ≤ (x.tks i).length) : preT x i t <+: allOps x := by
  refine List.IsPrefix.trans ?_ (preI_pre (i := i + 1) (by omega))
  rw [← preT_end]
  unfold preT
  have := range_pre (opsAt x (sgl x i)) (i := t) ((x.tks i).length - t)
  rw [show t + ((x.tks i).length - t) = (x.tks i).length by omega] at this
  obtain ⟨r, hr⟩ := this
  exact ⟨r, by rw [List.append_assoc, hr]⟩
theorem preK_end (x : Col) (i t : Nat) : preK x i t 4 = preT x i (t + 1) := by
  unfold preK preT
  rw [List.range_succ, List.flatMap_append, List.append_assoc]
  simp [opsAt, four]
theorem preK_zero (x : Col) (i t : Nat) : preK x i t 0 = preT x i t := by simp [preK]
theorem preK_next {x : Col} {i t k : Nat} {o : Op} (ho : (four (sgl x i) t)[k]? = some o) : preK x i t (k + 1) = if opErr x o = 0 then preK x i t k ++ [o] else preK x i t k := by
  unfold preK
  rw [List.take_add_one, ho, List.filter_append]
  by_cases h : opErr x o = 0
  · rw [if_pos h]; simp [h]
  · rw [if_neg h]; simp [h]
theorem preK_pre {x : Col} {i t k : Nat} (h : i < x.sigla.length) (ht : t < (x.tks i).length) : preK x i t k <+: allOps x := by
  refine List.IsPrefix.trans ?_ (preT_pre (t := t + 1) h ht)
  rw [← preK_end]
  unfold preK
  have : (four (sgl x i) t).take 4 = (four (sgl x i) t).take k ++ (four (sgl x i) t).drop k := by rw [List.take_append_drop]; rfl
  rw [this, List.filter_append, ← List.append_assoc]
  exact List.prefix_append _ _
abbrev AOp (x : Col) := { o : Op // o ∈ allOps x }
def allL (x : Col) : List (AOp x) := (allOps x).attach
theorem allL_len (x : Col) : (allL x).length = (allOps x).length := by simp [allL]
theorem allL_get {x : Col} {p : List Op} {o : Op} (h : p ++ [o] <+: allOps x) : ∃ y : AOp x, y.1 = o ∧ (allL x)[p.length]? = some y ∧ p.length < (allL x).length := by
  obtain ⟨r, hr⟩ := h
  have hg : (allOps x)[p.length]? = some o := by rw [← hr]; simp
  have hl := (List.getElem?_eq_some_iff.1 hg).1
  refine ⟨⟨o, List.mem_of_getElem? hg⟩, rfl, ?_, by rw [allL_len]; exact hl⟩
  unfold allL
  rw [List.getElem?_attach]
  simp [hg]
/-- How many operations there are, at most. -/
theorem ops_len (x : Col) : (allOps x).length ≤ sumTo (fun i => 4 * (x.tks i).length) x.sigla.length := by
  have h1 : ∀ i, (opsOf x i).length ≤ 4 * (x.tks i).length := by
    intro i
    unfold opsOf
    induction (x.tks i).length with
    | zero => simp
    | succ n ih =>
      rw [List.range_succ, List.flatMap_append, List.length_append]
      have : ((opsAt x (x.sigla[i]?.getD ⟨#[]⟩)) n).length ≤ 4 := by unfold opsAt; exact Nat.le_trans (List.length_filter_le _ _) (by simp [four])
      simp only [List.flatMap_cons, List.flatMap_nil, List.append_nil]
      omega
  have h2 : ∀ n, (preI x n).length ≤ sumTo (fun i => 4 * (x.tks i).length) n := by
    intro n
    unfold preI
    induction n with
    | zero => simp [sumTo]
    | succ n ih =>
      rw [List.range_succ, List.flatMap_append, List.length_append]
      simp only [List.flatMap_cons, List.flatMap_nil, List.append_nil, sumTo]
      have := h1 n
      omega
  exact h2 _
end Go.Proofs.YtbdgmgddliploaaGreatDoor

/- Slices of the call's own, each in a block of its own: stored into, taken out, put in, read. -/
namespace Go.Proofs.YtbdgmgddliploaaGreatDoor
open Go.RowKit

namespace OwnQ
variable {α : Type} {e size : Nat} {enc : α → List Value} {w w' : World} {B : Nat} {a : Option Addr} {n cap : Nat} {l : List α}
theorem setOther (h : OwnQ e size enc w B a n cap l) {g j : Nat} (hg : ∀ x, a = some x → x.block ≠ g) (v : Value) : OwnQ e size enc (w.setCell ⟨g, j, none⟩ v) B a n cap l := by
  refine ⟨h.1, ownsRow_setCell_other h.2 ?_ v⟩
  cases a with
  | none => simp [Value.ownBlock]
  | some x => simpa [Value.ownBlock] using hg x rfl
/-- Stored at an element of one cell. -/
theorem put1 {enc : α → List Value} {g : Nat} (h : OwnQ e 1 enc w B (some ⟨g, 0, none⟩) n cap l) (one : ∀ x, ∃ v, enc x = [v]) (j : Nat) (x : α) (v : Value) (hv : enc x = [v]) : OwnQ e 1 enc (w.setCell ⟨g, j, none⟩ v) B (some ⟨g, 0, none⟩) n cap (l.set j x) := by
  refine ⟨by simpa using h.1, ?_⟩
  have key : ∀ (l : List α) (j : Nat), (l.set j x).flatMap enc = (l.flatMap enc).set j v := by
    intro l
    induction l with
    | nil => intro j; simp
    | cons y l ih =>
      intro j
      obtain ⟨u, hu⟩ := one y
      cases j with
      | zero => rw [List.set_cons_zero, List.flatMap_cons, List.flatMap_cons, hv, hu]; rfl
      | succ j => rw [List.set_cons_succ, List.flatMap_cons, List.flatMap_cons, ih, hu]; rfl
  rw [key]
  exact (h.2.stored j v).1
theorem grown_set (h : OwnQ e size enc w B a n cap l) {g : Nat} (ha : a = some ⟨g, 0, none⟩) (j : Nat) (v : Value) : w.grownBy (w.setCell ⟨g, j, none⟩ v) (some g) := by
  subst ha; exact (h.2.stored j v).2
end OwnQ
theorem flat_one {α : Type} {v : α → Value} {l : List α} : l.flatMap (fun x => [v x]) = l.map v := by
  induction l with
  | nil => rfl
  | cons x l ih => rw [List.flatMap_cons, ih]; rfl
theorem own_of_row {α : Type} {e size : Nat} {enc : α → List Value} {w : World} {B n : Nat} {v : Value} {l : List α} (h : w.ownsRow B e size v n (l.flatMap enc)) (hn : n = l.length) : ∃ a c, v = .slice a n c ∧ OwnQ e size enc w B a n c l := by
  have h' := h
  rcases h.2 with ⟨rfl, rfl⟩ | ⟨g, c, cur, rfl, _⟩
  · exact ⟨none, 0, rfl, hn, h'⟩
  · exact ⟨_, _, rfl, hn, h'⟩

/-- Slices of the call's own, each in a block of its own, with what they read as. -/
def RowsP {α : Type} (e size : Nat) (enc : α → List Value) (w : World) (B : Nat) (ps : List (Row × List α)) : Prop :=
  (∀ p ∈ ps, OwnQ e size enc w B p.1.1 p.1.2.1 p.1.2.2 p.2) ∧ ps.Pairwise fun p q => Apart p.1.1 q.1.1
namespace RowsP
variable {α : Type} {e size : Nat} {enc : α → List Value} {w w' : World} {B : Nat} {ps P Q : List (Row × List α)} {p p' : Row × List α}
theorem nil (e size : Nat) (enc : α → List Value) (w : World) (B : Nat) : RowsP e size enc w B [] := ⟨by simp, List.Pairwise.nil⟩
theorem below (h : RowsP e size enc w B ps) (hb : Below w.heap.size w w') : RowsP e size enc w' B ps := ⟨fun p hp => (h.1 p hp).below hb, h.2⟩
theorem mono {B' : Nat} (h : RowsP e size enc w B ps) (hB : B' ≤ B) : RowsP e size enc w B' ps := ⟨fun p hp => (h.1 p hp).mono hB, h.2⟩
theorem kept {row : Option Nat} (h : RowsP e size enc w B ps) (hg : w.grownBy w' row) (hr : ∀ p ∈ ps, ∀ x, p.1.1 = some x → some x.block ≠ row) : RowsP e size enc w' B ps :=
  ⟨fun p hp => (h.1 p hp).kept hg (hr p hp), h.2⟩
theorem setOther (h : RowsP e size enc w B ps) {g j : Nat} (hg : ∀ p ∈ ps, ∀ x, p.1.1 = some x → x.block ≠ g) (v : Value) : RowsP e size enc (w.setCell ⟨g, j, none⟩ v) B ps :=
  ⟨fun p hp => (h.1 p hp).setOther (hg p hp) v, h.2⟩
theorem lt (h : RowsP e size enc w B ps) (hp : p ∈ ps) : ∀ x, p.1.1 = some x → B ≤ x.block ∧ x.block < w.heap.size := (h.1 p hp).lt
theorem app (h : RowsP e size enc w B ps) (hp : OwnQ e size enc w B p.1.1 p.1.2.1 p.1.2.2 p.2) (ha : ∀ q ∈ ps, Apart q.1.1 p.1.1) : RowsP e size enc w B (ps ++ [p]) := by
  refine ⟨fun q hq => ?_, List.pairwise_append.2 ⟨h.2, by simp, fun q hq r hr => ?_⟩⟩
  · rcases List.mem_append.1 hq with hq | hq
    · exact h.1 q hq
    · rw [List.mem_singleton.1 hq]; exact hp
  · rw [List.mem_singleton.1 hr]; exact ha q hq
/-- A row that lies behind all that was there. -/
theorem fresh (h : RowsP e size enc w B ps) (hp : ∀ x, p.1.1 = some x → w.heap.size ≤ x.block) : ∀ q ∈ ps, Apart q.1.1 p.1.1 := fun q hq x y hx hy => by
  have := (h.lt hq x hx).2; have := hp y hy; omega
theorem mid (h : RowsP e size enc w B (P ++ p :: Q)) : OwnQ e size enc w B p.1.1 p.1.2.1 p.1.2.2 p.2 ∧ ∀ q ∈ P ++ Q, Apart q.1.1 p.1.1 := by
  refine ⟨h.1 p (by simp), fun q hq => ?_⟩
  obtain ⟨_, h2, h3⟩ := List.pairwise_append.1 h.2
  rcases List.mem_append.1 hq with hq | hq
  · exact h3 q hq p (by simp)
  · exact ((List.pairwise_cons.1 h2).1 q hq).symm
theorem out (h : RowsP e size enc w B (P ++ p :: Q)) : RowsP e size enc w B (P ++ Q) := by
  have hs : List.Sublist (P ++ Q) (P ++ p :: Q) := List.Sublist.append (List.Sublist.refl _) (List.sublist_cons_self _ _)
  exact ⟨fun q hq => h.1 q (hs.subset hq), h.2.sublist hs⟩
theorem put (h : RowsP e size enc w B (P ++ Q)) (hp : OwnQ e size enc w B p.1.1 p.1.2.1 p.1.2.2 p.2) (ha : ∀ q ∈ P ++ Q, Apart q.1.1 p.1.1) : RowsP e size enc w B (P ++ p :: Q) := by
  obtain ⟨h1, h2, h3⟩ := List.pairwise_append.1 h.2
  refine ⟨fun q hq => ?_, List.pairwise_append.2 ⟨h1, List.pairwise_cons.2 ⟨fun q hq => (ha q (by simp [hq])).symm, h2⟩, fun q hq r hr => ?_⟩⟩
  · rcases List.mem_append.1 hq with hq | hq
    · exact h.1 q (by simp [hq])
    · rcases List.mem_cons.1 hq with rfl | hq
      · exact hp
      · exact h.1 q (by simp [hq])
  · rcases List.mem_cons.1 hr with rfl | hr
    · exact ha q (by simp [hq])
    · exact h3 q hq r hr
/-- One row changes, by what leaves all other blocks as they are. -/
theorem change (h : RowsP e size enc w B (P ++ p :: Q)) (hp : OwnQ e size enc w' B p'.1.1 p'.1.2.1 p'.1.2.2 p'.2) (hr : p'.1 = p.1)
    (hk : ∀ q ∈ P ++ Q, Apart q.1.1 p.1.1 → OwnQ e size enc w B q.1.1 q.1.2.1 q.1.2.2 q.2 → OwnQ e size enc w' B q.1.1 q.1.2.1 q.1.2.2 q.2) : RowsP e size enc w' B (P ++ p' :: Q) := by
  obtain ⟨_, ha⟩ := h.mid
  have ho : RowsP e size enc w' B (P ++ Q) := ⟨fun q hq => hk q hq (ha q hq) (h.out.1 q hq), h.out.2⟩
  exact ho.put hp (fun q hq => by rw [hr]; exact ha q hq)
theorem set1 {enc : α → List Value} {g n c : Nat} {l : List α} (h : RowsP e 1 enc w B (P ++ ((some ⟨g, 0, none⟩, n, c), l) :: Q)) (one : ∀ x, ∃ v, enc x = [v]) (j : Nat) (x : α) (v : Value) (hv : enc x = [v]) :
    RowsP e 1 enc (w.setCell ⟨g, j, none⟩ v) B (P ++ ((some ⟨g, 0, none⟩, n, c), l.set j x) :: Q) := by
  refine h.change (p' := ((some ⟨g, 0, none⟩, n, c), l.set j x)) (h.mid.1.put1 one j x v hv) rfl fun q hq ha ho => ho.setOther (fun y hy => ha y ⟨g, 0, none⟩ hy rfl) v
/-- The slices of a slice: they read as lists of lists. -/
theorem sq {R : Rel α} {S : Nat → Prop} {s e1 B1 : Nat} {a : Option Addr} {n cap : Nat} (h : RowsP e size enc w B ps) (ho : OwnQ e1 1 encR w B1 a n cap (ps.map (·.1))) (henc : ∀ x, (enc x).length = size) (hn : n * 24 ≤ 140737488355328) (hS : ∀ b, B ≤ b → b < w.heap.size → S b) (hS1 : ∀ x, a = some x → S x.block)
    (hl : ∀ p ∈ ps, p.2.length * s ≤ 140737488355328 ∧ ∀ x ∈ p.2, R S w (enc x) x) : Sq (rSl R size s) 1 24 S w a n cap (ps.map (·.2)) := by
  refine ⟨by rw [ho.len]; simp, ho.cap_le, hn, fun j x hj => ?_⟩
  rw [List.getElem?_map] at hj
  obtain ⟨p, hp, rfl⟩ := Option.map_eq_some_iff.1 hj
  have hpm : p ∈ ps := List.mem_of_getElem? hp
  obtain ⟨r, g, h1, h2, rfl, h3, h4, -, h5⟩ := ho.at_ (j := j) (fun _ => rfl) (by rw [ho.len, List.length_map]; exact (List.getElem?_eq_some_iff.1 hp).1)
  rw [List.getElem?_map, hp] at h1
  cases h1
  obtain ⟨l1, l2⟩ := hl p hpm
  have hq := h.1 p hpm
  exact ⟨g, 0, encR p.1, rfl, hS1 _ rfl, h4, rfl, by rw [Nat.zero_add]; exact h5, p.1.1, p.1.2.1, p.1.2.2, rfl, hq.sq henc (by rw [hq.len]; exact l1) (fun y hy => hS _ (hq.lt y hy).1 (hq.lt y hy).2) l2⟩
end RowsP
theorem one_int : ∀ x : Int, ∃ v, encI x = [v] := fun x => ⟨_, rfl⟩
theorem one_row : ∀ r : Row, ∃ v, encR r = [v] := fun r => ⟨_, rfl⟩

/-- 'append(x, nil...)': nothing changes. -/
theorem run_append_own_nil {P : Program} {w : World} (base : Nat) (t ty e : TypeId) (i : TypeInfo) (size c : Nat) (ht : P.underlying t = some (.slice e)) (hi : P.info? e = some i)
    (v : Value) (n : Nat) (xs : List Value) (hown : w.ownsRow base e size v n xs) : (Builtin.append_ #[t, t] ty #[v, .slice none 0 c]).run P w = .ok v w := by
  rcases hown.2 with ⟨rfl, rfl⟩ | ⟨g, cap, cur, rfl, _, _, hnc, _⟩
  · simp [Builtin.append_, run_underlying ht, sizeOf, typeInfo, hi, Builtin.lenOf, Builtin.firstCells]
  · simp [Builtin.append_, run_underlying ht, sizeOf, typeInfo, hi, Builtin.lenOf, Builtin.firstCells, hnc, storeCells]
theorem wpList_app_nil {P : Program} {w : World} {ops : Array Oper} {rest : List Oper} {o : Oper} {a : Act} {Q : Exit → Act → World → Prop} (hgd : o.guard = none) (s x : Operand) (t : TypeId)
    (ho : o.op = .call { callee := .builtin .append, args := #[s, x], argTypes := #[t, t] })
    (base : Nat) (e : TypeId) (i : TypeInfo) (size c : Nat) (ht : P.underlying t = some (.slice e)) (hi : P.info? e = some i)
    (v : Value) (n : Nat) (xs : List Value) (hs : a.eval s = v) (hown : w.ownsRow base e size v n xs) (hx : a.eval x = .slice none 0 c)
    (h : wpList P ops Q rest (a.put o.dst v) w) : wpList P ops Q (o :: rest) a w := by
  refine wpList_plain hgd fun K hK => ?_
  have hrun := run_append_own_nil (P := P) (w := w) base t o.type e i size c ht hi v n xs hown
  unfold Oper.wp
  simp [execOp, ho, resolve, invoke, builtin, hs, hx, hrun, Result.andThen]
  exact hK _ _ h
end Go.Proofs.YtbdgmgddliploaaGreatDoor

/- What Describe says: plain. -/
namespace Go.Proofs.YtbdgmgddliploaaGreatDoor

def kindWord (k : Int) : ByteArray := if k = 1 then ⟨#[106, 111, 105, 110]⟩ else if k = 2 then ⟨#[115, 112, 108, 105, 116]⟩ else if k = 3 then ⟨#[115, 104, 105, 102, 116]⟩ else ⟨#[114, 101, 103, 117, 108, 97, 114, 105, 122, 101]⟩
def tailW (k oo : Int) (ox : ByteArray) : List ByteArray := if k = 3 then [⟨(Lib.itoa oo).toArray⟩] else if k = 4 then [ox] else []
def words4 (k : Int) (og : ByteArray) (ot : Int) (tx : ByteArray) (oo : Int) (ox : ByteArray) : List ByteArray := [kindWord k, og, ⟨(Lib.itoa ot).toArray⟩, tx] ++ tailW k oo ox
theorem words4_le (k : Int) (og : ByteArray) (ot : Int) (tx : ByteArray) (oo : Int) (ox : ByteArray) : (words4 k og ot tx oo ox).length ≤ 5 := by
  unfold words4 tailW
  split
  · simp
  · split <;> simp
/-- What Describe answers. -/
def descr (x : Col) (o : Op) : ByteArray := if opErr x o = 0 then ⟨(Lib.join ((words4 o.kind o.sig o.tok (x.tk ((x.src o.sig).getD 0) o.tok).text o.other o.text).map (·.data.toList)) [32]).toArray⟩ else ⟨#[]⟩
theorem descr_fits {x : Col} {o : Op} {s c : Nat} (F : Fits x o s c) : descr x o = ⟨(Lib.join ((words4 o.kind o.sig o.tok (x.tk s o.tok).text o.other o.text).map (·.data.toList)) [32]).toArray⟩ := by
  unfold descr
  rw [if_pos F.zero, F.src]; rfl
theorem itoa_le (n : Int) (h : I64 n) : (Lib.itoa n).length ≤ 21 := by
  unfold Lib.itoa
  unfold I64 at h
  split
  · rw [List.length_cons, Lib.decDigits_length]
    have := Lib.nDigits_le20 n.natAbs (by omega)
    omega
  · rw [Lib.decDigits_length]
    have := Lib.nDigits_le20 n.toNat (by omega)
    omega
theorem join_le (l : List (List UInt8)) (b : Nat) (h : ∀ x ∈ l, x.length ≤ b) : (Lib.join l [32]).length ≤ l.length * (b + 1) := by
  cases l with
  | nil => simp [Lib.join_nil]
  | cons x r =>
    rw [Lib.join_cons, List.length_append]
    have h1 := h x (by simp)
    have h2 : ∀ r : List (List UInt8), (∀ x ∈ r, x.length ≤ b) → (Lib.joinTail [32] r).length ≤ r.length * (b + 1) := by
      intro r
      induction r with
      | nil => intro _; simp [Lib.joinTail]
      | cons y r ih =>
        intro hr
        have h3 := ih (fun z hz => hr z (by simp [hz]))
        have h4 := hr y (by simp)
        have e : Lib.joinTail [32] (y :: r) = [32] ++ y ++ Lib.joinTail [32] r := by simp [Lib.joinTail]
        rw [e, List.length_append, List.length_append, List.length_cons, List.length_cons, Nat.add_mul]
        simp only [List.length_nil]; omega
    have h3 := h2 r (fun z hz => h z (by simp [hz]))
    rw [List.length_cons, Nat.add_mul]; omega
theorem kindWord_le (k : Int) : (kindWord k).data.size ≤ 10 := by
  unfold kindWord
  split
  · decide
  · split
    · decide
    · split <;> decide
theorem words_len {x : Col} {o : Op} {s c : Nat} (F : Fits x o s c) (hm : Sml x) (hx : o.text.size ≤ 1000000) (hg : o.sig.size ≤ 1000000) (ho : o.ok) :
    (Lib.join ((words4 o.kind o.sig o.tok (x.tk s o.tok).text o.other o.text).map (·.data.toList)) [32]).length ≤ 140737488355328 := by
  have hl := words4_le o.kind o.sig o.tok (x.tk s o.tok).text o.other o.text
  have ht : (x.tk s o.tok).text.size ≤ 1000000 := by
    have h1 := F.t1
    have h0 := F.t0
    have hlt : o.tok.toNat < (x.tks s).length := by omega
    have e : x.tk s o.tok = (x.tks s)[o.tok.toNat] := by unfold Col.tk; rw [List.getElem?_eq_getElem hlt]; rfl
    rw [e]
    have hmem : (x.tks s)[o.tok.toNat] ∈ x.tks s := List.getElem_mem hlt
    cases hs : x.toks[s]? with
    | none => unfold Col.tks at hlt; rw [hs] at hlt; simp at hlt
    | some r =>
      have er : x.tks s = r := by unfold Col.tks; rw [hs]; rfl
      have := hm.tok r (List.mem_of_getElem? hs) ((x.tks s)[o.tok.toNat]) (by rw [← er]; exact hmem)
      exact this.1
  have hj := join_le ((words4 o.kind o.sig o.tok (x.tk s o.tok).text o.other o.text).map (·.data.toList)) 1000000 ?_
  · rw [List.length_map] at hj
    have : (words4 o.kind o.sig o.tok (x.tk s o.tok).text o.other o.text).length * (1000000 + 1) ≤ 5 * (1000000 + 1) := Nat.mul_le_mul_right _ hl
    omega
  · intro l hl
    obtain ⟨y, hy, rfl⟩ := List.mem_map.1 hl
    have hy' : y.data.size ≤ 1000000 := by
      unfold words4 at hy
      simp only [List.cons_append, List.nil_append, List.mem_cons] at hy
      rcases hy with rfl | rfl | rfl | rfl | hy
      · have := kindWord_le o.kind; omega
      · exact hg
      · have := itoa_le o.tok ho.2.2.1; simpa using (by omega)
      · exact ht
      · unfold tailW at hy
        split at hy
        · simp only [List.mem_singleton] at hy; subst hy
          have := itoa_le o.other ho.2.2.2.1; simpa using (by omega)
        · split at hy
          · simp only [List.mem_singleton] at hy; subst hy; exact hx
          · cases hy
    simpa using hy'
/-- Four words, or five, in a row of cells. -/
theorem words4_cells {W : World} {g : Nat} {t : TypeId} {a b c d : ByteArray} {l : List ByteArray} (hl : l = [a, b, c, d]) (h : W.heap[g]? = some (.cells #[.string a, .string b, .string c, .string d] t (0, 0))) :
    ∀ (j : Nat) (y : ByteArray), l[j]? = some y → W.cell? ⟨g, 0 + j, none⟩ = some (.string y) := by
  subst hl
  obtain ⟨h0, h1, h2, h3, -⟩ := box_cells4 h
  intro j y hy
  rw [Nat.zero_add]
  match j with
  | 0 => cases hy; exact h0
  | 1 => cases hy; exact h1
  | 2 => cases hy; exact h2
  | 3 => cases hy; exact h3
  | n + 4 => simp at hy
theorem OwnQ.lit4 (w : World) (t : TypeId) (a b c d : ByteArray) : OwnQ t 1 encS (w.alloc (.cells #[.string a, .string b, .string c, .string d] t)) w.heap.size (some ⟨w.heap.size, 0, none⟩) 4 4 [a, b, c, d] :=
  ⟨rfl, rfl, .inr ⟨w.heap.size, 4, _, rfl, Nat.le_refl _, World.alloc_heap_new w _, Nat.le_refl 4, by unfold maxLen; omega, rfl, rfl⟩⟩
theorem OwnQ.strs {e : TypeId} {w : World} {B n cap : Nat} {a : Option Addr} {l : List ByteArray} (h : OwnQ e 1 encS w B a n cap l) (hn : 0 < n) :
    ∃ g, a = some ⟨g, 0, none⟩ ∧ g < w.heap.size ∧ n ≤ cap ∧ ∀ (j : Nat) (y : ByteArray), l[j]? = some y → w.cell? ⟨g, 0 + j, none⟩ = some (.string y) := by
  obtain ⟨_, g, _, _, rfl, _, hg, _, _⟩ := h.at_ (fun _ => rfl) hn
  refine ⟨g, rfl, hg, h.cap_le, fun j y hy => ?_⟩
  obtain ⟨x, g', h1, _, h3, _, _, _, h5⟩ := h.at_ (j := j) (fun _ => rfl) (by rw [h.len]; exact (List.getElem?_eq_some_iff.1 hy).1)
  cases h3
  rw [hy] at h1; cases h1
  have := h5 0 (.string y) rfl
  rw [Nat.zero_add]
  simpa using this
end Go.Proofs.YtbdgmgddliploaaGreatDoor

/- The example of the chapter: plain. -/
namespace Go.Proofs.YtbdgmgddliploaaGreatDoor

def tokS (s : ByteArray) : Tok := ⟨s, s, ⟨#[]⟩, 0, 0, ⟨#[]⟩⟩
def bDeus : ByteArray := ⟨#[100, 101, 117, 115]⟩
def bEst : ByteArray := ⟨#[101, 115, 116]⟩
def bA : ByteArray := ⟨#[65]⟩
def bB : ByteArray := ⟨#[66]⟩
def sampC : Col := { sec := ⟨#[97]⟩, sigla := [bA, bB], toks := [[tokS bDeus, tokS bEst], [tokS bDeus]], cols := [[0, 0], [1, -1]] }
def shO : Op := ⟨3, bB, 0, 1, ⟨#[]⟩⟩
theorem samp_err : sampC.err = 0 := by decide +kernel
theorem samp_all : allOps sampC = [⟨2, bA, 0, 0, ⟨#[]⟩⟩, ⟨2, bB, 0, 0, ⟨#[]⟩⟩, shO] := by decide +kernel
theorem samp_sh : opErr sampC shO = 0 := by decide +kernel
theorem samp_ap : (opApply sampC shO).cols = [[0, -1], [1, 0]] := by decide +kernel
theorem samp_de : descr sampC shO = ⟨#[115, 104, 105, 102, 116, 32, 66, 32, 48, 32, 100, 101, 117, 115, 32, 49]⟩ := by decide +kernel
end Go.Proofs.YtbdgmgddliploaaGreatDoor
