/- From the reading of an argument as a slice of links to Links. -/
import Derived.Test.YtebmachppbpdmaaRow
import Derived.Test.YtebmachppbpdmaaDBase
import Derived.ProofKit
import Derived.Deep.Slices
import Derived.Deep.Fields
import Derived.ChangeSame
namespace Go.Proofs.Ytebmachppbpdmaa
open Go.RowKit Go.ChangeShapes Go.WideShapes Go.Deep

theorem list_of {α : Type} (d : α) (R : Nat → α → Prop) : ∀ n : Nat, (∀ i, i < n → ∃ x, R i x) → ∃ l : List α, l.length = n ∧ ∀ i, i < n → R i (l[i]?.getD d)
  | 0, _ => ⟨[], rfl, fun i hi => by omega⟩
  | n + 1, h => by
    obtain ⟨l, hl, hR⟩ := list_of d R n (fun i hi => h i (by omega))
    obtain ⟨x, hx⟩ := h n (by omega)
    refine ⟨l ++ [x], by simp [hl], fun i hi => ?_⟩
    by_cases e : i < n
    · rw [List.getElem?_append_left (by omega)]; exact hR i e
    · obtain rfl : i = l.length := by omega
      rw [List.getElem?_append_right (Nat.le_refl _)]; simpa [hl] using hx
/-- What is told of a slice of links that came in. -/
def LRow (w : World) (a : Option Addr) (n cap : Nat) (ll : List Lk) : Prop := n ≤ 9223372036854775807 ∧ ll.length = n ∧ (n * 24 ≤ 140737488355328 → Links w a n cap ll)
variable {H : Type} {enc : TypeId × Value → H} {P : Program} {w : World} {base : Nat} {held : Bool} {spare : Nat → Bool}
theorem open_lk {e : TypeId} {f0 f1 f2 : Field} {fuel : Nat} {cs : List Value} {x : DataW H × List MemPlace} (he : P.underlying e = some (.struct #[f0, f1, f2])) (hone : oneCellFields P #[f0, f1, f2] = true) (hC : P.cellsOf e = 3)
    (h0 : P.underlying f0.type = some (.int .i64)) (h1 : P.underlying f1.type = some (.int .i64)) (h2 : P.underlying f2.type = some (.int .i64)) (h : DataW.trod enc P w base spare held fuel e cs = some x) :
    ∃ l : Lk, cs = [.int .i64 l.1, .int .i64 l.2.1, .int .i64 l.2.2] ∧ I64 l.1 ∧ I64 l.2.1 ∧ I64 l.2.2 := by
  obtain ⟨xs, n, _, _, hl, hlen, hf⟩ := DataW.trod_struct he h
  rw [hC] at hl
  match cs, hl with
  | [c0, c1, c2], _ =>
    obtain ⟨o0, k0⟩ := hone_of hone 0 f0 rfl
    obtain ⟨o1, k1⟩ := hone_of hone 1 f1 rfl
    obtain ⟨o2, k2⟩ := hone_of hone 2 f2 rfl
    match xs, hlen with
    | [y0, y1, y2], _ =>
      have g0 := hf 0 f0 rfl
      have g1 := hf 1 f1 rfl
      have g2 := hf 2 f2 rfl
      rw [o0, k0] at g0
      rw [o1, k1] at g1
      rw [o2, k2] at g2
      obtain ⟨n0, e0, _, w0⟩ := DataW.trod_int h0 g0
      obtain ⟨n1, e1, _, w1⟩ := DataW.trod_int h1 g1
      obtain ⟨n2, e2, _, w2⟩ := DataW.trod_int h2 g2
      simp at e0 e1 e2
      subst e0 e1 e2
      exact ⟨(n0, n1, n2), rfl, I64.of_wf w0, I64.of_wf w1, I64.of_wf w2⟩
theorem open_links {t e : TypeId} {f0 f1 f2 : Field} {fuel : Nat} {a : Option Addr} {n cap : Nat} {x : DataW H × List MemPlace} (ht : P.underlying t = some (.slice e)) (he : P.underlying e = some (.struct #[f0, f1, f2])) (hone : oneCellFields P #[f0, f1, f2] = true) (hC : P.cellsOf e = 3)
    (h0 : P.underlying f0.type = some (.int .i64)) (h1 : P.underlying f1.type = some (.int .i64)) (h2 : P.underlying f2.type = some (.int .i64)) (h : DataW.trod enc P w base spare held fuel t [.slice a n cap] = some x) : ∃ ll, LRow w a n cap ll := by
  rcases open_slice ht h with ⟨hcs, _⟩ | ⟨x, l, c, m, fu, D, Pl, hcs, _, hl, hm, hmm, _, hi⟩
  · simp at hcs
    obtain ⟨rfl, rfl, rfl⟩ := hcs
    exact ⟨[], by omega, rfl, fun _ => ⟨rfl, Nat.le_refl _, by omega, by simp, fun j hj => by omega⟩⟩
  · simp at hcs
    obtain ⟨rfl, rfl, rfl⟩ := hcs
    have hnm : n ≤ m := by rw [hmm]; split <;> omega
    obtain ⟨ll, hll, hR⟩ := list_of (0, 0, 0) (fun i (l : Lk) => (w.cell? (x.add (i * 3)) = some (.int .i64 l.1) ∧ w.cell? ((x.add (i * 3)).add 1) = some (.int .i64 l.2.1) ∧ w.cell? ((x.add (i * 3)).add 2) = some (.int .i64 l.2.2)) ∧ I64 l.1 ∧ I64 l.2.1 ∧ I64 l.2.2) n (fun i hin => by
      obtain ⟨cs', hc, ht'⟩ := hi i (by omega)
      rw [hC] at hc
      obtain ⟨l, rfl, q1, q2, q3⟩ := open_lk he hone hC h0 h1 h2 ht'
      obtain ⟨_, _, hat⟩ := World.cells?_some hc
      have a0 := hat 0 (by omega)
      have a1 := hat 1 (by omega)
      have a2 := hat 2 (by omega)
      refine ⟨l, ⟨?_, a1, a2⟩, q1, q2, q3⟩
      have : (x.add (i * 3)).add 0 = x.add (i * 3) := by rw [add_add, Nat.add_zero]
      rw [this] at a0; exact a0)
    refine ⟨ll, by unfold maxLen at hm; omega, hll, fun h24 => ⟨hll.symm, hl, h24, fun y hy => ?_, fun j hj => ?_⟩⟩
    · obtain ⟨j, hj⟩ := List.mem_iff_getElem?.1 hy
      have hjl : j < n := by rw [← hll]; exact (List.getElem?_eq_some_iff.1 hj).1
      have := (hR j hjl).2
      rw [hj] at this
      exact this
    · obtain ⟨c0, c1, c2⟩ := (hR j hj).1
      obtain ⟨b, off, rfl⟩ := addr_plain (w := w) (x := x) (hR 0 (by omega)).1.1
      rw [Addr.add_lit] at c0 c1 c2
      rw [Addr.add_lit] at c1 c2
      exact ⟨b, off, rfl, c0, c1, c2⟩
/-- How long the row is, by its reading. -/
theorem links_len {t e : TypeId} {fuel : Nat} {a : Option Addr} {n cap : Nat} {x : DataW H × List MemPlace} (ht : P.underlying t = some (.slice e)) (h : DataW.trod enc P w base spare held fuel t [.slice a n cap] = some x) : n = 0 ∨ ∃ el sp, x.1 = .slice el sp ∧ el.length = n := by
  rcases open_slice ht h with ⟨hcs, _⟩ | ⟨y, l, c, m, fu, D, Pl, hcs, _, hl, hm, hmm, hx, hi⟩
  · simp at hcs; exact .inl hcs.2.1
  · simp at hcs
    obtain ⟨rfl, rfl, rfl⟩ := hcs
    exact .inr ⟨_, _, by rw [hx], by simp⟩
end Go.Proofs.Ytebmachppbpdmaa
