/- slices.Clone at []api.Link, and one link more. -/
import Derived.Test.YtebmachppbpdmaaShelf
import Derived.Test.YtebmachppbpdmaaDFold
import Derived.Shelf.SlicesE.Clone
namespace Go.Proofs
open Go.Shelf
/-- Clone at []api.Link, laid as the kit's tool lays it at []int. -/
def Try.lays41_lk_ren : Go.Shelf.Ren := ⟨fun | 41 => 16 | n => n, fun | 22 => 22 | 23 => 36 | 4 => 4 | n => n, fun | n => n⟩
theorem Try.lays41_lk : Go.Proofs.SlLaysE0.n41 Try.prog Try.lays41_lk_ren := {
  mixed := by kernel_rfl
  f41 := ⟨Try.f16.name, by decide, Try.func16.trans (congrArg some (by kernel_rfl))⟩
  t4 := Try.underlying4
  a4 := Try.isAgg4
  z4 := Try.sizeOf4
  v4 := Try.zeroValue4
  t22 := Try.underlying22
  a22 := Try.isAgg22
  z22 := Try.sizeOf22
  v22 := Try.zeroValue22 }
end Go.Proofs
namespace Go.Proofs.Ytebmachppbpdmaa
open Go.RowKit Go.Shelf

/-- The cells of links. -/
def flat : List Lk → List Value
  | [] => []
  | x :: l => .int .i64 x.1 :: .int .i64 x.2.1 :: .int .i64 x.2.2 :: flat l
theorem flat_length : ∀ ll : List Lk, (flat ll).length = ll.length * 3
  | [] => rfl
  | _ :: l => by rw [flat, List.length_cons, List.length_cons, List.length_cons, flat_length l, List.length_cons]; omega
theorem flat_append : ∀ (ll mm : List Lk), flat (ll ++ mm) = flat ll ++ flat mm
  | [], _ => rfl
  | x :: l, mm => by rw [List.cons_append, flat, flat, flat_append l mm]; rfl
theorem flat_at : ∀ (ll : List Lk) (j : Nat) (x : Lk), ll[j]? = some x → (flat ll)[j * 3]? = some (.int .i64 x.1) ∧ (flat ll)[j * 3 + 1]? = some (.int .i64 x.2.1) ∧ (flat ll)[j * 3 + 2]? = some (.int .i64 x.2.2)
  | [], _, _, h => by cases h
  | y :: l, 0, x, h => by cases h; exact ⟨rfl, rfl, rfl⟩
  | y :: l, j + 1, x, h => by
    have := flat_at l j x (by simpa using h)
    rw [show (j + 1) * 3 = j * 3 + 1 + 1 + 1 by omega]
    exact this
theorem flat_one : ∀ (ll : List Lk), ∀ u ∈ flat ll, u.oneCell' = true
  | [], _, h => by cases h
  | x :: l, u, h => by
    rw [flat] at h
    simp only [List.mem_cons] at h
    rcases h with rfl | rfl | rfl | h
    · rfl
    · rfl
    · rfl
    · exact flat_one l u h
/-- Links read as their cells. -/
theorem Links.flatAt {w : World} {b off n cap : Nat} {ll : List Lk} (h : Links w (some ⟨b, off, none⟩) n cap ll) : ∀ j u, (flat ll)[j]? = some u → w.cell? ⟨b, off + j, none⟩ = some u := by
  intro j u hj
  have hlt : j < ll.length * 3 := by rw [← flat_length]; exact (List.getElem?_eq_some_iff.1 hj).1
  have hq : j / 3 < ll.length := by omega
  obtain ⟨b', off', e, c0, c1, c2⟩ := h.2.2.2.2 (j / 3) (by rw [h.len]; exact hq)
  cases e
  obtain ⟨x, hx⟩ : ∃ x, ll[j / 3]? = some x := ⟨_, List.getElem?_eq_getElem hq⟩
  rw [hx] at c0 c1 c2
  obtain ⟨f0, f1, f2⟩ := flat_at ll (j / 3) x hx
  have : j = j / 3 * 3 ∨ j = j / 3 * 3 + 1 ∨ j = j / 3 * 3 + 2 := by omega
  rcases this with e | e | e
  · rw [e] at hj ⊢; rw [f0] at hj; cases hj; exact c0
  · rw [e] at hj ⊢; rw [f1] at hj; cases hj; exact c1
  · rw [e] at hj ⊢; rw [f2] at hj; cases hj; exact c2
/-- A row of the call's own reads as links. -/
theorem ownsRow_links {w : World} {B n : Nat} {v : Value} {ll : List Lk} (h : w.ownsRow B 36 3 v n (flat ll)) (hn : n = ll.length) (h24 : n * 24 ≤ 140737488355328) (hi : ∀ x ∈ ll, I64 x.1 ∧ I64 x.2.1 ∧ I64 x.2.2) : ∃ a c, v = .slice a n c ∧ Links w a n c ll := by
  rcases h.2 with ⟨rfl, rfl⟩ | ⟨g, cap, cur, rfl, hb, hg, hnc, hm, hs, ht⟩
  · exact ⟨none, 0, rfl, hn, Nat.le_refl _, h24, hi, fun j hj => by omega⟩
  · refine ⟨_, cap, rfl, hn, hnc, h24, hi, fun j hj => ⟨g, 0, rfl, ?_⟩⟩
    obtain ⟨x, hx⟩ : ∃ x, ll[j]? = some x := ⟨_, List.getElem?_eq_getElem (by omega)⟩
    obtain ⟨f0, f1, f2⟩ := flat_at ll j x hx
    have key : ∀ i u, i < n * 3 → (flat ll)[i]? = some u → w.cell? ⟨g, i, none⟩ = some u := fun i u hi' hu => by
      rw [← ht, List.getElem?_take, if_pos hi'] at hu
      simpa [World.cell?, hg] using hu
    rw [hx]
    refine ⟨?_, ?_, ?_⟩
    · rw [Nat.zero_add]; exact key _ _ (by omega) f0
    · rw [Nat.zero_add]; exact key _ _ (by omega) f1
    · rw [Nat.zero_add]; exact key _ _ (by omega) f2
theorem Try.infoLink : (Try.prog.info? 36).map (fun i => (i.zero, i.size, i.bytes)) = some (some (.agg #[.int .i64 0, .int .i64 0, .int .i64 0]), 3, 24) := by kernel_rfl
theorem clone_links (a : Option Addr) (m cap : Nat) (ll : List Lk) (w : World) (h : Links w a m cap ll) :
    Calls Try.prog 16 #[.slice a m cap] w fun e w' => ∃ v', e = .returned v' ∧ w'.ownsRow w.heap.size 36 3 v' m (flat ll) ∧ Below w.heap.size w w' := by
  obtain ⟨i0, hi, hz0, hz1, hz2⟩ := info_parts Try.infoLink
  by_cases hm : m = 0
  · subst hm
    have hll : ll = [] := List.length_eq_zero_iff.1 h.len.symm
    subst hll
    cases a with
    | none =>
      refine (AnyE.slices_Clone_nil Try.lays41_lk 0 cap w).mono ?_
      rintro e w' ⟨rfl, rfl⟩
      exact ⟨_, rfl, ⟨rfl, .inl ⟨rfl, rfl⟩⟩, Below.refl _ _⟩
    | some x =>
      clear h
      have q : (binOp .eql 22 (.slice (some x) 0 cap) (.slice none 0 0)).run Try.prog w = .ok (.bool false) w := Go.Lib.run_eql_slice_nil w _ _ (some x) 0 cap 0 0 Try.underlying22
      go_enter Try.func16, Try.ntmps16
      go_wp2
      go_ret
      exact ⟨_, rfl, ⟨rfl, .inr ⟨w.heap.size, 0, #[], rfl, Nat.le_refl _, World.alloc_heap_new _ _, Nat.le_refl _, Nat.zero_le _, rfl, rfl⟩⟩, (Below.refl _ w).alloc (Nat.le_refl _) _⟩
  · obtain ⟨b, off, rfl, -, -⟩ := h.at_ (by omega)
    have := AnyE.slices_Clone Try.lays41_lk i0 _ 3 24 hi hz0 hz1 hz2 rfl (by omega) Try.sizeOf36 b off m cap (flat ll) w (by rw [flat_length, h.len]) (by unfold maxLen; have := h.bound; omega) (by have := h.bound; omega) h.flatAt (flat_one ll)
    refine this.mono ?_
    rintro e w' ⟨v', rfl, h1, _, h2⟩
    exact ⟨v', rfl, h1, h2⟩
end Go.Proofs.Ytebmachppbpdmaa
