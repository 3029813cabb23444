/- Nodes in memory: a node with the addresses of its parts, and how it reads in a world (printed by gen_tval.py). -/
import Derived.Test.YtbjanlmnmeegnaaDoorETok
import Derived.Test.YtbjanlmnmeegnaaDoorTPlv
import Derived.RangeFuncOwn
namespace Go.Proofs.YtbjanlmnmeegnaaDoor
open Go.RowKit

/-- A value, with where its list lies. -/
inductive Vl where
  | mk (kind num : Int) (text : ByteArray) (addr : Option Addr) (cap : Nat) (items : List Vl)
namespace Vl
def kind : Vl → Int | mk k _ _ _ _ _ => k
def num : Vl → Int | mk _ n _ _ _ _ => n
def text : Vl → ByteArray | mk _ _ t _ _ _ => t
def addr : Vl → Option Addr | mk _ _ _ a _ _ => a
def cap : Vl → Nat | mk _ _ _ _ c _ => c
def items : Vl → List Vl | mk _ _ _ _ _ l => l
/-- The items' slice. -/
def sl (v : Vl) : Value := .slice v.addr v.items.length v.cap
def cells (v : Vl) : Array Value := #[.int .i64 v.kind, .string v.text, .int .i64 v.num, v.sl]
def val (v : Vl) : Value := .agg v.cells
theorem ind {P : Vl → Prop} (h : ∀ v, (∀ u ∈ v.items, P u) → P v) : ∀ v, P v
  | mk k n t a c l => h _ fun u hu => by
    have := List.sizeOf_lt_of_mem hu
    exact ind h u
  termination_by v => SizeOf.sizeOf v
  decreasing_by
    simp only [items] at hu
    have := List.sizeOf_lt_of_mem hu
    simp; omega
end Vl

/-- The four cells at o. -/
def VAt (w : World) (b o : Nat) (v : Vl) : Prop :=
  w.cell? ⟨b, o, none⟩ = some (.int .i64 v.kind) ∧ w.cell? ⟨b, o + 1, none⟩ = some (.string v.text) ∧ w.cell? ⟨b, o + 2, none⟩ = some (.int .i64 v.num) ∧ w.cell? ⟨b, o + 3, none⟩ = some v.sl
mutual
/-- The value reads in w; its lists lie in blocks of S. -/
def Rd (S : Nat → Prop) (w : World) : Vl → Prop
  | .mk k n t a c l => I64 k ∧ I64 n ∧ t.size ≤ 140737488355328 ∧ l.length ≤ c ∧ l.length * 56 ≤ 140737488355328 ∧ RdL S w a 0 l
def RdL (S : Nat → Prop) (w : World) (a : Option Addr) : Nat → List Vl → Prop
  | _, [] => True
  | j, v :: r => (∃ b off, a = some ⟨b, off, none⟩ ∧ S b ∧ VAt w b (off + j * 4) v) ∧ Rd S w v ∧ RdL S w a (j + 1) r
end
/-- The slice value 'a n c' reads as a list of values. -/
def Vals (S : Nat → Prop) (w : World) (a : Option Addr) (n c : Nat) (l : List Vl) : Prop :=
  n = l.length ∧ n ≤ c ∧ n * 56 ≤ 140737488355328 ∧ ∀ j v, l[j]? = some v → (∃ b off, a = some ⟨b, off, none⟩ ∧ S b ∧ VAt w b (off + j * 4) v) ∧ Rd S w v
theorem rdL_iff {S : Nat → Prop} {w : World} {a : Option Addr} : ∀ (l : List Vl) (i : Nat), RdL S w a i l ↔ ∀ j v, l[j]? = some v → (∃ b off, a = some ⟨b, off, none⟩ ∧ S b ∧ VAt w b (off + (i + j) * 4) v) ∧ Rd S w v
  | [], i => by simp [RdL]
  | u :: r, i => by
    rw [RdL, rdL_iff r (i + 1)]
    constructor
    · rintro ⟨h1, h2, h3⟩ j v hj
      cases j with
      | zero => simp at hj; subst hj; exact ⟨h1, h2⟩
      | succ j =>
        have := h3 j v (by simpa using hj)
        rw [show i + 1 + j = i + (j + 1) by omega] at this
        exact this
    · intro h
      obtain ⟨h1, h2⟩ := h 0 u rfl
      refine ⟨h1, h2, fun j v hj => ?_⟩
      have := h (j + 1) v (by simpa using hj)
      rw [show i + 1 + j = i + (j + 1) by omega]
      exact this
theorem rd_iff {S : Nat → Prop} {w : World} {v : Vl} : Rd S w v ↔ I64 v.kind ∧ I64 v.num ∧ v.text.size ≤ 140737488355328 ∧ Vals S w v.addr v.items.length v.cap v.items := by
  cases v with
  | mk k n t a c l =>
    rw [Rd, rdL_iff]
    simp only [Nat.zero_add, Vals, Vl.kind, Vl.num, Vl.text, Vl.addr, Vl.cap, Vl.items, true_and]
theorem VAt.keep {S : Nat → Prop} {w w' : World} {b o : Nat} {v : Vl} (h : VAt w b o v) (hs : S b) (k : KeepS S w w') : VAt w' b o v :=
  ⟨k.cell hs h.1, k.cell hs h.2.1, k.cell hs h.2.2.1, k.cell hs h.2.2.2⟩
theorem VAt.lt {w : World} {b o : Nat} {v : Vl} (h : VAt w b o v) : b < w.heap.size := World.block_lt_of_cell? _ _ h.1
theorem Rd.keep {S : Nat → Prop} {w w' : World} (k : KeepS S w w') (v : Vl) : Rd S w v → Rd S w' v := by
  induction v using Vl.ind with
  | h v ih =>
    rw [rd_iff, rd_iff]
    rintro ⟨h1, h2, h3, h4, h5, h6, h7⟩
    refine ⟨h1, h2, h3, h4, h5, h6, fun j u hj => ?_⟩
    obtain ⟨⟨b, off, e, hs, hat⟩, hr⟩ := h7 j u hj
    exact ⟨⟨b, off, e, hs, hat.keep hs k⟩, ih u (List.mem_of_getElem? hj) hr⟩
theorem Rd.mono {S S' : Nat → Prop} {w : World} (k : ∀ b, S b → b < w.heap.size → S' b) (v : Vl) : Rd S w v → Rd S' w v := by
  induction v using Vl.ind with
  | h v ih =>
    rw [rd_iff, rd_iff]
    rintro ⟨h1, h2, h3, h4, h5, h6, h7⟩
    refine ⟨h1, h2, h3, h4, h5, h6, fun j u hj => ?_⟩
    obtain ⟨⟨b, off, e, hs, hat⟩, hr⟩ := h7 j u hj
    exact ⟨⟨b, off, e, k b hs hat.lt, hat⟩, ih u (List.mem_of_getElem? hj) hr⟩
namespace Vals
variable {S S' : Nat → Prop} {w w' : World} {a : Option Addr} {n c : Nat} {l : List Vl}
theorem keep (k : KeepS S w w') (h : Vals S w a n c l) : Vals S w' a n c l :=
  ⟨h.1, h.2.1, h.2.2.1, fun j v hj => by
    obtain ⟨⟨b, off, e, hs, hat⟩, hr⟩ := h.2.2.2 j v hj
    exact ⟨⟨b, off, e, hs, hat.keep hs k⟩, hr.keep k⟩⟩
theorem mono (k : ∀ b, S b → b < w.heap.size → S' b) (h : Vals S w a n c l) : Vals S' w a n c l :=
  ⟨h.1, h.2.1, h.2.2.1, fun j v hj => by
    obtain ⟨⟨b, off, e, hs, hat⟩, hr⟩ := h.2.2.2 j v hj
    exact ⟨⟨b, off, e, k b hs hat.lt, hat⟩, hr.mono k⟩⟩
theorem below (h : Vals S w a n c l) (hb : Below w.heap.size w w') : Vals S w' a n c l := h.keep (.below hb)
theorem get (h : Vals S w a n c l) {j : Nat} (hj : j < n) : ∃ v b off, l[j]? = some v ∧ v ∈ l ∧ a = some ⟨b, off, none⟩ ∧ S b ∧ b < w.heap.size ∧ VAt w b (off + j * 4) v ∧ Rd S w v := by
  have hl : j < l.length := by rw [← h.1]; exact hj
  have e := List.getElem?_eq_getElem hl
  obtain ⟨⟨b, off, ea, hs, hat⟩, hr⟩ := h.2.2.2 j _ e
  exact ⟨l[j], b, off, e, List.getElem_mem hl, ea, hs, hat.lt, hat, hr⟩
theorem nil (S : Nat → Prop) (w : World) : Vals S w none 0 0 [] := ⟨rfl, Nat.le_refl _, by omega, fun j v hj => by simp at hj⟩
end Vals
theorem Rd.below {S : Nat → Prop} {w w' : World} {v : Vl} (h : Rd S w v) (hb : Below w.heap.size w w') : Rd S w' v := h.keep (.below hb)
mutual
/-- The node, without addresses. -/
def Vl.er : Vl → Nd
  | .mk k n t _ _ l => .mk k t n (Vl.erL l)
def Vl.erL : List Vl → List Nd
  | [] => []
  | v :: r => v.er :: Vl.erL r
end
theorem Vl.erL_map : ∀ l, Vl.erL l = l.map Vl.er
  | [] => rfl
  | v :: r => by rw [Vl.erL, List.map_cons, Vl.erL_map r]
end Go.Proofs.YtbjanlmnmeegnaaDoor
