/- Plain lists: one element moved elsewhere changes the longest increasing subsequence by at most one. No program. -/
import Derived.Test.YtdkokpehcmcnpaaPureD
import Derived.Test.YtdkokpehcmcnpaaWPerm
import Derived.Test.YtdkokpehcmcnpaaWLib
import Derived.Test.YtdkokpehcmcnpaaWRefI
namespace Go.Proofs.Ytdkokpehcmcnpaa

/-- s stands in l, in order, and ascends strictly. -/
def Up (l s : List Int) : Prop := s.Sublist l ∧ s.Pairwise (· < ·)
theorem inc_up {l : List Int} : ∀ {b : List Int} {k : Nat} {lv : Option Int}, Inc l k lv b → ∃ s : List Int, s.Sublist (l.drop k) ∧ s.Pairwise (· < ·) ∧ s.length = b.length ∧ ∀ v, lv = some v → ∀ x ∈ s, v < x
  | [], k, lv, _ => ⟨[], List.nil_sublist _, List.Pairwise.nil, rfl, fun _ _ _ h => by cases h⟩
  | z :: b, k, lv, h => by
    obtain ⟨i, rfl, h1, h2, h3, h4⟩ := h
    obtain ⟨s, s1, s2, s3, s4⟩ := inc_up h4
    have e : l[i]?.getD 0 = l[i] := by rw [List.getElem?_eq_getElem h2]; rfl
    refine ⟨l[i]?.getD 0 :: s, ?_, List.pairwise_cons.2 ⟨fun x hx => s4 _ rfl x hx, s2⟩, by simp [s3], fun v hv x hx => ?_⟩
    · have a1 : (l[i] :: s).Sublist (l.drop i) := by rw [List.drop_eq_getElem_cons h2]; exact s1.cons_cons _
      have a2 : (l.drop i).Sublist (l.drop k) := by
        rw [show i = k + (i - k) by omega, ← List.drop_drop]; exact List.drop_sublist _ _
      rw [e]; exact a1.trans a2
    · rcases List.mem_cons.1 hx with rfl | hx
      · exact h3 v hv
      · have := h3 v hv; have := s4 _ rfl x hx; omega
theorem up_inc {l : List Int} : ∀ (d : Nat) {s : List Int} {k : Nat} {lv : Option Int}, k + d = l.length → s.Sublist (l.drop k) → s.Pairwise (· < ·) → (∀ v, lv = some v → ∀ x ∈ s, v < x) → ∃ b, Inc l k lv b ∧ b.length = s.length
  | 0, s, k, lv, hd, hs, _, _ => by
    rw [List.drop_eq_nil_of_le (by omega)] at hs
    rw [List.sublist_nil.1 hs]
    exact ⟨[], trivial, rfl⟩
  | d + 1, s, k, lv, hd, hs, hp, hv => by
    have hk : k < l.length := by omega
    have mono : ∀ {b lv}, Inc l (k + 1) lv b → Inc l k lv b := by
      intro b lv h
      cases b with
      | nil => trivial
      | cons x b => obtain ⟨i, e, h1, h2⟩ := h; exact ⟨i, e, by omega, h2⟩
    rw [List.drop_eq_getElem_cons hk] at hs
    cases hs with
    | cons _ h =>
      obtain ⟨b, hb, hl⟩ := up_inc d (k := k + 1) (by omega) h hp hv
      exact ⟨b, mono hb, hl⟩
    | cons_cons _ h =>
      rename_i s'
      rw [List.pairwise_cons] at hp
      have e : l[k]?.getD 0 = l[k] := by rw [List.getElem?_eq_getElem hk]; rfl
      obtain ⟨b, hb, hl⟩ := up_inc d (k := k + 1) (lv := some (l[k])) (by omega) h hp.2 (fun v hv x hx => by cases hv; exact hp.1 x hx)
      refine ⟨(k : Int) :: b, ⟨k, rfl, Nat.le_refl _, hk, fun v h => ?_, ?_⟩, by simp [hl]⟩
      · rw [e]; exact hv v h _ (by simp)
      · rw [e]; exact hb
/-- The length of a longest increasing subsequence. -/
def lisN (l : List Int) : Nat := (lis l).length
theorem lisN_up (l : List Int) : ∃ s : List Int, Up l s ∧ s.length = lisN l := by
  obtain ⟨s, h1, h2, h3, _⟩ := inc_up (lis_best l).1
  exact ⟨s, ⟨by simpa using h1, h2⟩, h3⟩
theorem up_le {l s : List Int} (h : Up l s) : s.length ≤ lisN l := by
  obtain ⟨b, hb, hl⟩ := up_inc (l := l) l.length (s := s) (k := 0) (lv := none) (by omega) (by simpa using h.1) h.2 (fun v hv => by cases hv)
  have := ((lis_best l).2 b hb).1
  unfold lisN; omega
theorem lisN_le (l : List Int) : lisN l ≤ l.length := by
  obtain ⟨s, h, e⟩ := lisN_up l
  have := h.1.length_le
  omega
theorem lisN_one {l : List Int} (h : 0 < l.length) : 1 ≤ lisN l := by
  have h1 : Up l [l[0]] := ⟨by simp, by simp⟩
  have this := h1
  exact up_le this
/-- One element more: the same, or one more. -/
theorem lisN_insert (A B : List Int) (x : Int) : lisN (A ++ B) ≤ lisN (A ++ x :: B) ∧ lisN (A ++ x :: B) ≤ lisN (A ++ B) + 1 := by
  constructor
  · obtain ⟨s, h, e⟩ := lisN_up (A ++ B)
    rw [← e]
    exact up_le ⟨h.1.trans (List.Sublist.append (List.Sublist.refl _) (List.sublist_cons_self _ _)), h.2⟩
  · obtain ⟨s, h, e⟩ := lisN_up (A ++ x :: B)
    rw [← e]
    obtain ⟨s1, s2, rfl, h1, h2⟩ := List.sublist_append_iff.1 h.1
    cases h2 with
    | cons _ h3 =>
      have := up_le (l := A ++ B) (s := s1 ++ s2) ⟨h1.append h3, h.2⟩
      omega
    | cons_cons _ h3 =>
      rename_i s3
      have hp := h.2
      have : Up (A ++ B) (s1 ++ s3) := ⟨h1.append h3, hp.sublist (List.Sublist.append (List.Sublist.refl _) (List.sublist_cons_self _ _))⟩
      have := up_le this
      simp at this ⊢
      omega
/-- The list with element i moved to k. -/
def movedL (l : List Int) (i k : Nat) : List Int := (l.eraseIdx i).take k ++ l[i]?.getD 0 :: (l.eraseIdx i).drop k
theorem split_at {l : List Int} {i : Nat} (h : i < l.length) : l = l.take i ++ l[i]?.getD 0 :: l.drop (i + 1) := by
  rw [List.getElem?_eq_getElem h, Option.getD_some]
  conv => lhs; rw [← List.take_append_drop i l, List.drop_eq_getElem_cons h]
theorem movedL_lis {l : List Int} {i : Nat} (h : i < l.length) (k : Nat) : lisN (movedL l i k) ≤ lisN l + 1 ∧ lisN l ≤ lisN (movedL l i k) + 1 := by
  have e := split_at h
  have h1 := lisN_insert (l.take i) (l.drop (i + 1)) (l[i]?.getD 0)
  have h2 := lisN_insert ((l.eraseIdx i).take k) ((l.eraseIdx i).drop k) (l[i]?.getD 0)
  rw [List.take_append_drop] at h2
  rw [← e, ← List.eraseIdx_eq_take_drop_succ] at h1
  unfold movedL
  omega
theorem movedL_perm {l : List Int} {i : Nat} (h : i < l.length) (k : Nat) : (movedL l i k).Perm l := by
  have e := split_at h
  have p1 : (movedL l i k).Perm (l[i]?.getD 0 :: l.eraseIdx i) := by
    unfold movedL
    refine List.perm_middle.trans ?_
    rw [List.take_append_drop]
  refine p1.trans ?_
  rw [List.eraseIdx_eq_take_drop_succ]
  conv => rhs; rw [e]
  exact List.perm_middle.symm
theorem permB_iff (l : List Int) : permB l = true ↔ l.Nodup ∧ ∀ x ∈ l, 0 ≤ x ∧ x < l.length := by
  unfold permB
  rw [decide_eq_true_iff]
  constructor
  · intro h
    constructor
    · rw [List.nodup_iff_pairwise_ne, List.pairwise_iff_getElem]
      intro i j hi hj hij
      have := (h j hj).2.2 i hij
      simpa [List.getElem?_eq_getElem, hi, hj] using this
    · intro x hx
      obtain ⟨j, hj, rfl⟩ := List.getElem_of_mem hx
      have := h j hj
      rw [List.getElem?_eq_getElem hj] at this
      exact ⟨this.1, this.2.1⟩
  · rintro ⟨h1, h2⟩ j hj
    rw [List.nodup_iff_pairwise_ne, List.pairwise_iff_getElem] at h1
    have := h2 l[j] (List.getElem_mem hj)
    refine ⟨by simpa [List.getElem?_eq_getElem, hj] using this.1, by simpa [List.getElem?_eq_getElem, hj] using this.2, fun i hi => ?_⟩
    have := h1 i j (by omega) hj hi
    simpa [List.getElem?_eq_getElem, hj, show i < l.length by omega] using this
theorem permB_perm {l m : List Int} (h : l.Perm m) (hm : permB m = true) : permB l = true := by
  rw [permB_iff] at hm ⊢
  exact ⟨h.nodup_iff.2 hm.1, fun x hx => by rw [h.length_eq]; exact hm.2 x (h.mem_iff.1 hx)⟩
theorem sorted_iff {l : List Int} (hn : l.Nodup) : sortedB l = true ↔ lisN l = l.length := by
  unfold sortedB
  rw [decide_eq_true_iff]
  constructor
  · intro h
    have key : ∀ d i, i + d < l.length → l[i]?.getD 0 ≤ l[i + d]?.getD 0 := by
      intro d
      induction d with
      | zero => intro i _; exact Int.le_refl _
      | succ d ih =>
        intro i hi
        have h1 := ih i (by omega)
        have h2 := h (i + (d + 1)) hi (by omega)
        rw [show i + (d + 1) - 1 = i + d by omega] at h2
        omega
    have hp : l.Pairwise (· < ·) := by
      rw [List.nodup_iff_pairwise_ne, List.pairwise_iff_getElem] at hn
      rw [List.pairwise_iff_getElem]
      intro i j hi hj hij
      have h1 := key (j - i) i (by omega)
      rw [show i + (j - i) = j by omega, List.getElem?_eq_getElem hi, List.getElem?_eq_getElem hj] at h1
      have h2 := hn i j hi hj hij
      simp at h1
      omega
    have h1 := up_le (l := l) ⟨List.Sublist.refl _, hp⟩
    have h2 := lisN_le l
    omega
  · intro h j hj h0
    obtain ⟨s, hs, e⟩ := lisN_up l
    have es : s = l := hs.1.eq_of_length (by omega)
    have hp := hs.2
    rw [es, List.pairwise_iff_getElem] at hp
    have := hp (j - 1) j (by omega) hj (by omega)
    rw [List.getElem?_eq_getElem hj, List.getElem?_eq_getElem (by omega : j - 1 < l.length)]
    simp
    omega
theorem movesN_perm {l : List Int} (h : permB l = true) : movesN l = (l.length : Int) - lisN l := by rw [movesN, h]; rfl
/-- What the law asks of a permutation. -/
theorem moves_law {l : List Int} (h : permB l = true) (h0 : 0 < l.length) {i : Nat} (hi : i < l.length) (k : Nat) :
    permB (movedL l i k) = true ∧ ((movesN l = 0) ↔ sortedB l = true) ∧ 0 ≤ movesN l ∧ movesN l < l.length ∧ movesN (movedL l i k) ≤ movesN l + 1 ∧ movesN l ≤ movesN (movedL l i k) + 1 := by
  have hp := permB_perm (movedL_perm hi k) h
  have hl := (movedL_perm hi k).length_eq
  have h1 := movedL_lis hi k
  have h2 := lisN_one h0
  have h3 := lisN_le l
  rw [movesN_perm h, movesN_perm hp, hl, sorted_iff ((permB_iff l).1 h).1]
  exact ⟨hp, ⟨fun h => by omega, fun h => by omega⟩, by omega, by omega, by omega, by omega⟩
end Go.Proofs.Ytdkokpehcmcnpaa
