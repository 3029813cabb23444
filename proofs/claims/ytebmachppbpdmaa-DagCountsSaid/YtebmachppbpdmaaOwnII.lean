/- A slice of slices that the call itself makes: rows in blocks of their own. -/
import Derived.Test.YtebmachppbpdmaaBase
namespace Go.Proofs.Ytebmachppbpdmaa
open Go.RowKit

theorem Try.infoInts : (Try.prog.info? 26).map (fun i => (i.zero, i.size, i.bytes)) = some (some (.slice none 0 0), 1, 24) := by kernel_rfl

/-- A slice value's parts. -/
abbrev Row := Option Addr × Nat × Nat
def rowV (r : Row) : Value := .slice r.1 r.2.1 r.2.2
theorem rowV_one (r : Row) : (rowV r).oneCell' = true := rfl
theorem ownBlock_some {a : Option Addr} {n c : Nat} {x : Addr} (h : a = some x) : (Value.slice a n c).ownBlock = some x.block := by subst h; rfl
theorem ownBlock_none {n c : Nat} : (Value.slice none n c).ownBlock = none := rfl

/-- Two addresses do not lie in one block. -/
def Apart (a b : Option Addr) : Prop := ∀ x y, a = some x → b = some y → x.block ≠ y.block
theorem Apart.symm {a b : Option Addr} (h : Apart a b) : Apart b a := fun x y hx hy e => h y x hy hx e.symm

def OwnII (w : World) (B : Nat) (a : Option Addr) (n cap : Nat) (ll : List (List Int)) : Prop :=
  ∃ rs : List Row, n = ll.length ∧ rs.length = n ∧ w.ownsRow B 26 1 (.slice a n cap) n (rs.map rowV) ∧
    (∀ (j : Nat) (r : Row), rs[j]? = some r → OwnI w B r.1 r.2.1 r.2.2 (ll[j]?.getD []) ∧ Apart r.1 a) ∧
    ∀ (i j : Nat) (r s : Row), i ≠ j → rs[i]? = some r → rs[j]? = some s → Apart r.1 s.1

namespace OwnII
variable {w w' : World} {B : Nat} {a : Option Addr} {n cap : Nat} {ll : List (List Int)}
theorem nil (w : World) (B : Nat) : OwnII w B none 0 0 [] := ⟨[], rfl, rfl, World.ownsRow_nil _ _ _ _, by simp, by simp⟩
/-- The empty slice at the head of a new block. -/
theorem made0 (w : World) (B : Nat) (hB : B ≤ w.heap.size) : OwnII (w.alloc (.cells #[] 26)) B (some ⟨w.heap.size, 0, none⟩) 0 0 [] :=
  ⟨[], rfl, rfl, World.ownsRow_made w #[] 0 hB (Nat.zero_le _) rfl, by simp, by simp⟩
theorem len (h : OwnII w B a n cap ll) : n = ll.length := by obtain ⟨_, h, _⟩ := h; exact h
theorem below (h : OwnII w B a n cap ll) (hb : Below w.heap.size w w') : OwnII w' B a n cap ll := by
  obtain ⟨rs, h1, h2, h3, h4, h5⟩ := h
  refine ⟨rs, h1, h2, ?_, fun j r hr => ⟨(h4 j r hr).1.below hb, (h4 j r hr).2⟩, h5⟩
  refine ⟨h3.1, ?_⟩
  rcases h3.2 with h0 | ⟨g, cap', cur, hv, hB, hg, hrest⟩
  · exact .inl h0
  · exact .inr ⟨g, cap', cur, hv, hB, by rw [hb.block g (Array.getElem?_eq_some_iff.1 hg).1]; exact hg, hrest⟩
theorem drewN (h : OwnII w B a n cap ll) (q : Nat) : OwnII (w.drewN q) B a n cap ll := h
theorem drew (h : OwnII w B a n cap ll) : OwnII w.drew B a n cap ll := h
theorem mono {B' : Nat} (h : OwnII w B a n cap ll) (hB : B' ≤ B) : OwnII w B' a n cap ll := by
  obtain ⟨rs, h1, h2, h3, h4, h5⟩ := h
  refine ⟨rs, h1, h2, ⟨h3.1, ?_⟩, fun j r hr => ⟨(h4 j r hr).1.mono hB, (h4 j r hr).2⟩, h5⟩
  rcases h3.2 with h0 | ⟨g, cap', cur, hv, hb, hrest⟩
  · exact .inl h0
  · exact .inr ⟨g, cap', cur, hv, Nat.le_trans hB hb, hrest⟩
/-- Row j: where it lies. -/
theorem at_ (h : OwnII w B a n cap ll) {j : Nat} (hj : j < n) : ∃ g aj nj cj, a = some ⟨g, 0, none⟩ ∧ B ≤ g ∧ g < w.heap.size ∧ (∀ k, w.frozen? ⟨g, k, none⟩ = false) ∧
    w.cell? ⟨g, j, none⟩ = some (.slice aj nj cj) ∧ OwnI w B aj nj cj (ll[j]?.getD []) ∧ Apart aj a := by
  obtain ⟨rs, h1, h2, h3, h4, h5⟩ := h
  rcases h3.2 with ⟨_, h0⟩ | ⟨g, cap', cur, hv, hb, hg, hrest⟩
  · omega
  · cases hv
    obtain ⟨r, hr⟩ : ∃ r, rs[j]? = some r := ⟨_, List.getElem?_eq_getElem (by omega)⟩
    have hc := h3.cellAt j (by omega)
    rw [List.getElem?_map, hr] at hc
    exact ⟨g, r.1, r.2.1, r.2.2, rfl, hb, (Array.getElem?_eq_some_iff.1 hg).1, h3.frozenAt, hc, h4 j r hr⟩
theorem intss (h : OwnII w B a n cap ll) (hn : n * 24 ≤ 140737488355328) (hl : ∀ s ∈ ll, s.length * 8 ≤ 140737488355328 ∧ ∀ x ∈ s, I64 x) : Intss w a n cap ll := by
  have hcap : n ≤ cap := by
    obtain ⟨rs, h1, h2, h3, _⟩ := h
    rcases h3.2 with ⟨hv, h0⟩ | ⟨g, cap', cur, hv, _, _, hc, _⟩
    · omega
    · cases hv; exact hc
  refine ⟨h.len, hcap, hn, fun j hj => ?_⟩
  obtain ⟨g, aj, nj, cj, e, _, _, _, hc, ho, _⟩ := h.at_ hj
  have hj' : j < ll.length := by rw [← h.len]; exact hj
  have hm := hl (ll[j]?.getD []) (by rw [List.getElem?_eq_getElem hj']; exact List.getElem_mem hj')
  exact ⟨g, 0, aj, nj, cj, e, by rw [Nat.zero_add]; exact hc, ho.ints (by rw [ho.len]; exact hm.1) hm.2⟩
theorem own (h : OwnII w B a n cap ll) : ∃ xs, w.ownsRow B 26 1 (.slice a n cap) n xs ∧ xs.length = n ∧ (∀ u ∈ xs, u.oneCell' = true) := by
  obtain ⟨rs, h1, h2, h3, _⟩ := h
  exact ⟨_, h3, by simpa using h2, by intro u hu; obtain ⟨r, _, rfl⟩ := List.mem_map.1 hu; rfl⟩
theorem rows (h : OwnII w B a n cap ll) : ∃ rs : List Row, w.ownsRow B 26 1 (.slice a n cap) n (rs.map rowV) ∧
    ∀ (w2 w3 : World) (v' : Value) (b : Option Addr) (m c : Nat) (s : List Int), Below w.heap.size w w2 → OwnI w2 B b m c s → (∀ x, b = some x → w.heap.size ≤ x.block) →
      w3.ownsRow B 26 1 v' (n + 1) (rs.map rowV ++ [.slice b m c]) → w2.grownBy w3 (Value.slice a n cap).ownBlock → (v'.ownBlock = (Value.slice a n cap).ownBlock ∨ v'.ownBlock = some w2.heap.size) →
      ∃ a' cap', v' = .slice a' (n + 1) cap' ∧ OwnII w3 B a' (n + 1) cap' (ll ++ [s]) := by
  obtain ⟨rs, h1, h2, h3, h4, h5⟩ := h
  refine ⟨rs, h3, fun w2 w3 v' b m c s hb ho hfresh hown hg hv' => ?_⟩
  obtain ⟨a', cap', rfl⟩ : ∃ a' cap', v' = .slice a' (n + 1) cap' := by
    rcases hown.2 with ⟨rfl, h0⟩ | ⟨g, c', cur, rfl, _⟩
    · omega
    · exact ⟨_, _, rfl⟩
  have hrow : ∀ (x y : Addr), a = some y → x.block ≠ y.block → some x.block ≠ (Value.slice a n cap).ownBlock := by
    intro x y hy hne; subst hy; simpa [Value.ownBlock] using hne
  have hnone : a = none → (Value.slice a n cap).ownBlock = none := by intro e; subst e; rfl
  have hlt : ∀ y, a = some y → y.block < w.heap.size := fun y hy => (h3.lt y.block (by subst hy; rfl)).2
  have hlt' : ∀ (j : Nat) (r : Row), rs[j]? = some r → ∀ x, r.1 = some x → x.block < w.heap.size := fun j r hr x hx => ((h4 j r hr).1.2.lt x.block (by rw [hx]; rfl)).2
  have hltb : ∀ x, b = some x → x.block < w2.heap.size := fun x hx => (ho.2.lt x.block (by rw [hx]; rfl)).2
  have hne : ∀ (e : Option Addr), Apart e a → (∀ x, e = some x → some x.block ≠ (Value.slice a n cap).ownBlock) := by
    intro e he x hx
    cases ha : a with
    | none => simp [Value.ownBlock]
    | some y => subst ha; exact hrow x y rfl (he x y hx rfl)
  have hba : Apart b a := fun x y hx hy => by have := hfresh x hx; have := hlt y hy; omega
  have hout : ∀ e : Option Addr, Apart e a → (∀ x, e = some x → x.block < w2.heap.size) → Apart e a' := by
    intro e he hl x y hx hy
    rw [ownBlock_some hy] at hv'
    intro hxy
    rcases hv' with h | h
    · exact hne e he x hx (by rw [hxy]; exact h)
    · have := hl x hx; have := Option.some.inj h; omega
  refine ⟨a', cap', rfl, rs ++ [(b, m, c)], by simp [h1], by simp [h2], ?_, ?_, ?_⟩
  · rw [List.map_append]; exact hown
  · intro j r hr
    by_cases hj : j < rs.length
    · rw [List.getElem?_append_left hj] at hr
      rw [List.getElem?_append_left (by omega)]
      obtain ⟨o1, o2⟩ := h4 j r hr
      exact ⟨(o1.below hb).kept hg (hne r.1 o2), hout r.1 o2 fun x hx => by have := hlt' j r hr x hx; have := hb.size; omega⟩
    · rw [List.getElem?_append_right (by omega)] at hr
      have hj' : j - rs.length = 0 := by
        rcases Nat.eq_zero_or_pos (j - rs.length) with h | h
        · exact h
        · rw [List.getElem?_eq_none (by simp; omega)] at hr; cases hr
      rw [hj'] at hr
      simp at hr
      subst hr
      rw [List.getElem?_append_right (by omega), show j - ll.length = 0 by omega]
      simp only [List.getElem?_cons_zero, Option.getD_some]
      exact ⟨ho.kept hg (hne b hba), hout b hba hltb⟩
  · intro i j r s' hij hr hs
    have get : ∀ k t, (rs ++ [(b, m, c)])[k]? = some t → (k < rs.length ∧ rs[k]? = some t) ∨ (k = rs.length ∧ t = (b, m, c)) := by
      intro k t hk
      by_cases hk' : k < rs.length
      · rw [List.getElem?_append_left hk'] at hk; exact .inl ⟨hk', hk⟩
      · rw [List.getElem?_append_right (by omega)] at hk
        have : k - rs.length = 0 := by
          rcases Nat.eq_zero_or_pos (k - rs.length) with h | h
          · exact h
          · rw [List.getElem?_eq_none (by simp; omega)] at hk; cases hk
        rw [this] at hk
        simp at hk
        exact .inr ⟨by omega, hk.symm⟩
    rcases get i r hr with ⟨hi, hr⟩ | ⟨hi, rfl⟩ <;> rcases get j s' hs with ⟨hj, hs⟩ | ⟨hj, rfl⟩
    · exact h5 i j r s' hij hr hs
    · intro x y hx hy; have := hlt' i r hr x hx; have := hfresh y hy; omega
    · intro x y hx hy; have := hlt' j s' hs y hy; have := hfresh x hx; omega
    · omega
/-- One element appended to row k, the row stored back. -/
theorem setRow (h : OwnII w B a n cap ll) {k g nk ck : Nat} {ak : Option Addr} {x : Int} {w2 : World} {v' : Value} (hk : k < n) (ha : a = some ⟨g, 0, none⟩)
    (hc : w.cell? ⟨g, k, none⟩ = some (.slice ak nk ck)) {o : Obj}
    (hown : w2.ownsRow B 3 1 v' (nk + 1) ((ll[k]?.getD []).map (Value.int .i64) ++ [.int .i64 x])) (hg : (w.alloc o).grownBy w2 (Value.slice ak nk ck).ownBlock)
    (hv' : v'.ownBlock = (Value.slice ak nk ck).ownBlock ∨ v'.ownBlock = some (w.heap.size + 1)) :
    OwnII (w2.setCell ⟨g, k, none⟩ v') B a n cap (ll.set k (ll[k]?.getD [] ++ [x])) := by
  obtain ⟨rs, h1, h2, h3, h4, h5⟩ := h
  subst ha
  obtain ⟨r, hr⟩ : ∃ r, rs[k]? = some r := ⟨_, List.getElem?_eq_getElem (by omega)⟩
  have hc' := h3.cellAt k (by omega)
  rw [List.getElem?_map, hr, hc] at hc'
  simp only [Option.map_some, Option.some.injEq, rowV, Value.slice.injEq] at hc'
  obtain ⟨rfl, rfl, rfl⟩ := hc'
  obtain ⟨ok, apk⟩ := h4 k r hr
  obtain ⟨a', cap', rfl⟩ : ∃ a' cap', v' = .slice a' (r.2.1 + 1) cap' := by
    rcases hown.2 with ⟨rfl, h0⟩ | ⟨g', c', cur, rfl, _⟩
    · omega
    · exact ⟨_, _, rfl⟩
  have hgl : g < w.heap.size := (h3.lt g rfl).2
  have hsz : (w.alloc o).heap.size = w.heap.size + 1 := by simp
  have hb : Below w.heap.size w (w.alloc o) := (Below.refl _ _).alloc (Nat.le_refl _) _
  have hlt : ∀ (j : Nat) (q : Row), rs[j]? = some q → ∀ y, q.1 = some y → y.block < w.heap.size := fun j q hq y hy => ((h4 j q hq).1.2.lt y.block (ownBlock_some hy)).2
  -- the new place of row k is apart from whatever the old one was apart from
  have hout : ∀ e : Option Addr, Apart e r.1 → (∀ y, e = some y → y.block < w.heap.size + 1) → Apart e a' := by
    intro e he hl y z hy hz hyz
    rw [ownBlock_some hz] at hv'
    rcases hv' with h | h
    · cases hr1 : r.1 with
      | none => rw [hr1] at h; cases h
      | some q =>
        rw [ownBlock_some hr1] at h
        exact he y q hy hr1 (by rw [hyz]; exact Option.some.inj h)
    · have := hl y hy; have := Option.some.inj h; omega
  have hkeep : ∀ e : Option Addr, Apart e r.1 → (∀ y, e = some y → some y.block ≠ (Value.slice r.1 r.2.1 r.2.2).ownBlock) := by
    intro e he y hy
    cases hr1 : r.1 with
    | none => simp [Value.ownBlock]
    | some q => intro h; exact he y q hy hr1 (Option.some.inj h)
  have hgo : some g ≠ (Value.slice r.1 r.2.1 r.2.2).ownBlock := hkeep (some ⟨g, 0, none⟩) apk.symm ⟨g, 0, none⟩ rfl
  have h3' : w2.ownsRow B 26 1 (.slice (some ⟨g, 0, none⟩) n cap) n (rs.map rowV) := (h3.alloc o).kept hg (.inr hgo)
  have hga : Apart (some ⟨g, 0, none⟩) a' := hout _ apk.symm (fun y hy => by cases hy; show g < _; omega)
  have hset : ∀ (b : Option Addr) (m c : Nat) (s : List Int), OwnI w2 B b m c s → Apart b (some ⟨g, 0, none⟩) → OwnI (w2.setCell ⟨g, k, none⟩ (.slice a' (r.2.1 + 1) cap')) B b m c s := by
    intro b m c s hb hap
    refine ⟨hb.1, ownsRow_setCell_other hb.2 ?_ _⟩
    cases hb1 : b with
    | none => simp [Value.ownBlock]
    | some y => simpa [Value.ownBlock] using hap y ⟨g, 0, none⟩ hb1 rfl
  have hak : Apart a' (some ⟨g, 0, none⟩) := hga.symm
  refine ⟨rs.set k (a', r.2.1 + 1, cap'), by simpa using h1, by simpa using h2, ?_, ?_, ?_⟩
  · rw [List.map_set]; exact (h3'.stored k _).1
  · intro j q hq
    by_cases hj : j = k
    · subst hj
      rw [List.getElem?_set_self (by omega)] at hq
      cases hq
      rw [List.getElem?_set_self (by omega)]
      refine ⟨hset a' (r.2.1 + 1) cap' _ ⟨by simp [ok.len], by simpa using hown⟩ hak, hak⟩
    · rw [List.getElem?_set_ne (by omega)] at hq ⊢
      obtain ⟨o1, o2⟩ := h4 j q hq
      exact ⟨hset _ _ _ _ ((o1.below hb).kept hg (hkeep q.1 (h5 j k q r hj hq hr))) o2, o2⟩
  · intro i j p q hij hp hq
    by_cases hi : i = k
    · subst hi
      rw [List.getElem?_set_self (by omega)] at hp
      rw [List.getElem?_set_ne hij] at hq
      cases hp
      exact (hout q.1 (h5 j i q r (Ne.symm hij) hq hr) (fun y hy => by have := hlt j q hq y hy; omega)).symm
    · rw [List.getElem?_set_ne (by omega)] at hp
      by_cases hj : j = k
      · subst hj
        rw [List.getElem?_set_self (by omega)] at hq
        cases hq
        exact hout p.1 (h5 i j p r hij hp hr) (fun y hy => by have := hlt i p hp y hy; omega)
      · rw [List.getElem?_set_ne (by omega)] at hq
        exact h5 i j p q hij hp hq
/-- A store below the blocks of its own. -/
theorem setBelow (h : OwnII w B a n cap ll) {x : Addr} (hx : x.block < B) (u : Value) : OwnII (w.setCell x u) B a n cap ll := by
  obtain ⟨rs, h1, h2, h3, h4, h5⟩ := h
  exact ⟨rs, h1, h2, ownsRow_setCell_below h3 hx u, fun j r hj => ⟨⟨(h4 j r hj).1.1, ownsRow_setCell_below (h4 j r hj).1.2 hx u⟩, (h4 j r hj).2⟩, h5⟩
end OwnII
end Go.Proofs.Ytebmachppbpdmaa
