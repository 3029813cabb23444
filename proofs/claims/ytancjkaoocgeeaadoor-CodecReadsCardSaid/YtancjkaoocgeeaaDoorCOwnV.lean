/- A slice of values of the call's own. -/
import Derived.Test.YtancjkaoocgeeaaDoorCRefA
import Derived.Maps.AppendAt
import Derived.Laws.AppendOwnNone
namespace Go.Proofs.YtancjkaoocgeeaaDoor
open Go.RowKit

theorem Tryd.infoVal : (Tryd.prog.info? 24).map (fun i => (i.zero, i.size, i.bytes)) = some (some (.agg #[.int .i64 0, .int .i64 0, .string ⟨#[]⟩, .slice none 0 0]), 4, 56) := by kernel_rfl
/-- The cells of values, one behind the other. -/
def flat (l : List Vl) : List Value := l.flatMap fun v => v.cells.toList
theorem flat_cons (v : Vl) (l : List Vl) : flat (v :: l) = v.cells.toList ++ flat l := rfl
theorem flat_append (l m : List Vl) : flat (l ++ m) = flat l ++ flat m := by simp [flat]
theorem flat_length : ∀ l : List Vl, (flat l).length = l.length * 4
  | [] => rfl
  | v :: l => by rw [flat_cons, List.length_append, flat_length l, List.length_cons]; show 4 + _ = _; omega
theorem flat_at : ∀ (l : List Vl) (j i : Nat) (v : Vl), l[j]? = some v → i < 4 → (flat l)[j * 4 + i]? = v.cells[i]?
  | [], j, i, v, h, _ => by cases h
  | u :: l, 0, i, v, h, hi => by
    simp at h; subst h
    rw [flat_cons, Nat.zero_mul, Nat.zero_add, List.getElem?_append_left (by show i < 4; exact hi)]
    simp
  | u :: l, j + 1, i, v, h, hi => by
    rw [flat_cons, List.getElem?_append_right (by show 4 ≤ _; omega)]
    have := flat_at l j i v (by simpa using h) hi
    rw [show (j + 1) * 4 + i - u.cells.toList.length = j * 4 + i by show (j + 1) * 4 + i - 4 = _; omega]
    exact this
theorem flat_one : ∀ l : List Vl, ∀ x ∈ flat l, x.oneCell' = true
  | [], x, h => by cases h
  | v :: l, x, h => by
    rw [flat_cons] at h
    rcases List.mem_append.1 h with h | h
    · simp [Vl.cells, Vl.sl] at h
      rcases h with rfl | rfl | rfl | rfl <;> rfl
    · exact flat_one l x h
/-- The slice value is the call's own (from block B on), and reads as l. -/
def OwnV (S : Nat → Prop) (w : World) (B : Nat) (a : Option Addr) (n cap : Nat) (l : List Vl) : Prop :=
  n = l.length ∧ w.ownsRow B 24 4 (.slice a n cap) n (flat l) ∧ ∀ u ∈ l, Rd S w u
namespace OwnV
variable {S S' : Nat → Prop} {w w' : World} {B : Nat} {a : Option Addr} {n cap : Nat} {l : List Vl}
theorem nil (S : Nat → Prop) (w : World) (B : Nat) : OwnV S w B none 0 0 [] := ⟨rfl, World.ownsRow_nil _ _ _ _, by simp⟩
theorem len (h : OwnV S w B a n cap l) : n = l.length := h.1
theorem cap_le (h : OwnV S w B a n cap l) : n ≤ cap := by
  rcases h.2.1.2 with ⟨hv, h0⟩ | ⟨g, cap', cur, hv, _, _, hc, _⟩
  · omega
  · cases hv; exact hc
theorem lt (h : OwnV S w B a n cap l) : ∀ q, (Value.slice a n cap).ownBlock = some q → B ≤ q ∧ q < w.heap.size := h.2.1.lt
theorem vals (h : OwnV S w B a n cap l) (hn : n * 56 ≤ 140737488355328) (hS : ∀ b, S b → S' b) (ha : ∀ x, a = some x → S' x.block) : Vals S' w a n cap l := by
  refine ⟨h.1, h.cap_le, hn, fun j v hj => ⟨?_, (h.2.2 v (List.mem_of_getElem? hj)).mono (fun b hb _ => hS b hb)⟩⟩
  have hjl : j < l.length := (List.getElem?_eq_some_iff.1 hj).1
  have hn' := h.1
  rcases h.2.1.2 with ⟨_, h0⟩ | ⟨g, cap', cur, hv, hB, hg, hc, hm, hs, ht⟩
  · omega
  · cases hv
    refine ⟨g, 0, rfl, ha _ rfl, ?_⟩
    have key : ∀ i, i < 4 → w.cell? ⟨g, 0 + j * 4 + i, none⟩ = v.cells[i]? := fun i hi => by
      rw [cell_row hg, Nat.zero_add, ← flat_at l j i v hj hi, ← ht, List.getElem?_take, if_pos (by omega)]
      simp
    exact ⟨key 0 (by omega), key 1 (by omega), key 2 (by omega), key 3 (by omega)⟩
theorem below (h : OwnV S w B a n cap l) (hb : Below w.heap.size w w') : OwnV S w' B a n cap l := ⟨h.1, ownsRow_below h.2.1 hb, fun u hu => (h.2.2 u hu).below hb⟩
theorem mono {B' : Nat} (h : OwnV S w B a n cap l) (hB : B' ≤ B) : OwnV S w B' a n cap l := by
  refine ⟨h.1, ⟨h.2.1.1, ?_⟩, h.2.2⟩
  rcases h.2.1.2 with h0 | ⟨g, cap', cur, hv, hb, hrest⟩
  · exact .inl h0
  · exact .inr ⟨g, cap', cur, hv, Nat.le_trans hB hb, hrest⟩
theorem monoS (h : OwnV S w B a n cap l) (hS : ∀ b, S b → b < w.heap.size → S' b) : OwnV S' w B a n cap l := ⟨h.1, h.2.1, fun u hu => (h.2.2 u hu).mono hS⟩
end OwnV
theorem vals_news {S : Nat → Prop} {w : World} {b off n c : Nat} {l : List Vl} (h : Vals S w (some ⟨b, off, none⟩) n c l) : ∀ j u, (flat l)[j]? = some u → w.cell? ((⟨b, off, none⟩ : Addr).add j) = some u := by
  intro j u hj
  have hjl : j < l.length * 4 := by rw [← flat_length]; exact (List.getElem?_eq_some_iff.1 hj).1
  obtain ⟨v, hv⟩ : ∃ v, l[j / 4]? = some v := ⟨_, List.getElem?_eq_getElem (by omega)⟩
  obtain ⟨⟨b', off', e, _, c1, c2, c3, c4⟩, _⟩ := h.2.2.2 _ _ hv
  cases e
  have := flat_at l (j / 4) (j % 4) v hv (Nat.mod_lt _ (by omega))
  rw [show j / 4 * 4 + j % 4 = j by omega, hj] at this
  rw [Addr.add_lit]
  rcases (show j % 4 = 0 ∨ j % 4 = 1 ∨ j % 4 = 2 ∨ j % 4 = 3 by omega) with e | e | e | e <;> rw [e] at this
  · rw [show off + j = off + j / 4 * 4 by omega, c1, this]; rfl
  · rw [show off + j = off + j / 4 * 4 + 1 by omega, c2, this]; rfl
  · rw [show off + j = off + j / 4 * 4 + 2 by omega, c3, this]; rfl
  · rw [show off + j = off + j / 4 * 4 + 3 by omega, c4, this]; rfl

section
variable {ops : Array Oper} {rest : List Oper} {o : Oper} {act : Act} {Q : Exit → Act → World → Prop} {w w0 : World} {B : Nat} {a b : Option Addr} {n cap m c : Nat} {l s : List Vl} {S : Nat → Prop}
/-- append(x, y...): y is read. -/
theorem wpList_appVals (hgd : o.guard = none) (os ox : Operand) (ho : o.op = .call { callee := .builtin .append, args := #[os, ox], argTypes := #[22, 22] })
    (hs : act.eval os = .slice a n cap) (hx : act.eval ox = .slice b m c) (hown : OwnV S w B a n cap l) (hy : Vals S w b m c s) (hb0 : b = none → m = 0 ∧ c = 0) (hnm : (n + m) * 56 ≤ 140737488355328) (hB : B ≤ w.heap.size) (hb : Below B w0 w) (hSo : ∀ q, (Value.slice a n cap).ownBlock = some q → ¬ S q)
    (h : ∀ a' c' w', OwnV S w' B a' (n + m) c' (l ++ s) → Below B w0 w' → w.grownBy w' (Value.slice a n cap).ownBlock → ((Value.slice a' (n + m) c').ownBlock = (Value.slice a n cap).ownBlock ∨ (Value.slice a' (n + m) c').ownBlock = some w.heap.size) → wpList Tryd.prog ops Q rest (act.put o.dst (.slice a' (n + m) c')) w') :
    wpList Tryd.prog ops Q (o :: rest) act w := by
  obtain ⟨i0, hi, hz0, hz1, hz2⟩ := info_parts Tryd.infoVal
  have hm := hy.1
  have hl := hown.1
  have hlt := hown.lt
  cases b with
  | none =>
    obtain ⟨rfl, rfl⟩ := hb0 rfl
    obtain rfl : s = [] := List.eq_nil_of_length_eq_zero hm.symm
    refine wpList_append_own_none hgd os ox 22 ho B 24 i0 4 Tryd.underlying22 hi _ _ _ hs hown.2.1 hx ?_
    exact h a cap w (by simpa using hown) hb ⟨rfl, rfl, rfl, Nat.le_refl _, fun _ _ _ => rfl⟩ (.inl rfl)
  | some ad =>
    have hnews : ∀ j u, (flat s)[j]? = some u → w.cell? (ad.add j) = some u := by
      intro j u hj
      have hs0 : 0 < s.length := by
        rcases Nat.eq_zero_or_pos s.length with e | e
        · rw [List.eq_nil_of_length_eq_zero e] at hj; cases hj
        · exact e
      obtain ⟨_, b', off', _, _, e, _⟩ := hy.get (j := 0) (by omega)
      cases e
      exact vals_news hy j u hj
    refine wpList_append_own_at _ hgd os ox 22 ho B 24 i0 (.agg #[.int .i64 0, .int .i64 0, .string ⟨#[]⟩, .slice none 0 0]) 4 56 Tryd.underlying22 hi hz0 hz1 hz2 rfl (by decide) _ _ _ hs hown.2.1 ad m c (flat s) hx (by rw [flat_length, hm])
      hnews (flat_one s) (by unfold maxLen; omega) hnm hB ?_
    intro v' w' h1 h2 _ h4
    obtain ⟨a', c', rfl⟩ : ∃ a' c', v' = .slice a' (n + m) c' := by
      rcases h1.2 with ⟨rfl, h0⟩ | ⟨g, cap', cur, rfl, _⟩
      · exact ⟨none, 0, by rw [h0]⟩
      · exact ⟨_, _, rfl⟩
    have hk : KeepS S w w' := .grown h2 hSo
    refine h a' c' w' ⟨by rw [List.length_append]; omega, by rw [flat_append]; exact h1, fun u hu => ?_⟩ (hb.grown h2 hB (fun j hj => (hlt j hj).1)) h2 h4
    rcases List.mem_append.1 hu with hu | hu
    · exact (hown.2.2 u hu).keep hk
    · obtain ⟨j, hj⟩ := List.mem_iff_getElem?.1 hu
      exact (hy.2.2.2 j u hj).2.keep hk
end
end Go.Proofs.YtancjkaoocgeeaaDoor
