/- Plain values: their encodings. No program. -/
import Derived.Test.YtancjkaoocgeeaaDoorCPure1
import Derived.Test.YtancjkaoocgeeaaDoorCEnv
namespace Go.Proofs.YtancjkaoocgeeaaDoor

/-- The encoding of an integer or a string. -/
def leafV (v : V) : List UInt8 := if v.kind = 1 then 105 :: (Lib.itoa v.num ++ [59]) else 115 :: (Lib.itoa v.text.size ++ 58 :: v.text.data.toList)
mutual
def encV : V → List UInt8 | .mk k n t l => if k = 1 ∨ k = 2 then leafV (.mk k n t l) else 108 :: (encL l ++ [101])
def encL : List V → List UInt8 | [] => [] | v :: r => encV v ++ encL r
end
theorem encL_append : ∀ a b, encL (a ++ b) = encL a ++ encL b
  | [], b => rfl
  | v :: a, b => by rw [List.cons_append, encL, encL, encL_append a b, List.append_assoc]
theorem encV_leaf {v : V} (h : v.kind = 1 ∨ v.kind = 2) : encV v = leafV v := by
  cases v with
  | mk k n t l => rw [encV]; exact if_pos h
theorem encV_list {v : V} (h : ¬ (v.kind = 1 ∨ v.kind = 2)) : encV v = 108 :: (encL v.items ++ [101]) := by
  cases v with
  | mk k n t l => rw [encV]; exact if_neg h
/-- What the reference appends: it stops when there are too many bytes. -/
def encF : Nat → List UInt8 → V → List UInt8
  | 0, out, v => if 1048576 < out.length then out else if v.kind = 1 ∨ v.kind = 2 then out ++ leafV v else out ++ [108] ++ [101]
  | f + 1, out, v => if 1048576 < out.length then out else if v.kind = 1 ∨ v.kind = 2 then out ++ leafV v else v.items.foldl (encF f) (out ++ [108]) ++ [101]
theorem encF_full (f : Nat) (out : List UInt8) (v : V) (h : 1048576 < out.length) : encF f out v = out := by cases f <;> (rw [encF, if_pos h])
theorem encF_leaf (f : Nat) {out : List UInt8} {v : V} (h : ¬ 1048576 < out.length) (hk : v.kind = 1 ∨ v.kind = 2) : encF f out v = out ++ leafV v := by cases f <;> (rw [encF, if_neg h, if_pos hk])
theorem encF_ge : ∀ (f : Nat) (out : List UInt8) (v : V), out.length ≤ (encF f out v).length
  | 0, out, v => by rw [encF]; split <;> (try split) <;> simp
  | f + 1, out, v => by
    rw [encF]
    split
    · exact Nat.le_refl _
    · split
      · simp
      · have key : ∀ (l : List V) (o : List UInt8), o.length ≤ (l.foldl (encF f) o).length := by
          intro l
          induction l with
          | nil => intro o; exact Nat.le_refl _
          | cons u l ih => intro o; exact Nat.le_trans (encF_ge f o u) (ih _)
        have := key v.items (out ++ [108])
        simp at this ⊢; omega
/-- Valid values that are not too deep. -/
def GoodD (f : Nat) (v : V) : Prop := cntD f v ≠ none ∧ allV v = 0
theorem cntD_items {f : Nat} {v : V} (h : cntD (f + 1) v ≠ none) (hk : v.kind = 3) : ∀ u ∈ v.items, cntD f u ≠ none := by
  rw [cntD, if_pos hk] at h
  have key : ∀ (l : List V) (s : Option Nat), l.foldl (fun s u => s.bind fun size => (cntD f u).bind fun k => some (size + k)) s ≠ none → ∀ u ∈ l, cntD f u ≠ none := by
    intro l
    induction l with
    | nil => intro s _ u hu; cases hu
    | cons x l ih =>
      intro s hs u hu
      rw [List.foldl_cons] at hs
      rcases List.mem_cons.1 hu with rfl | hu
      · intro e
        rw [e] at hs
        cases s with
        | none => exact hs (foldl_none (fun size u => (cntD f u).bind fun k => some (size + k)) l)
        | some y => exact hs (foldl_none (fun size u => (cntD f u).bind fun k => some (size + k)) l)
      · exact ih _ hs u hu
  exact key _ _ h
theorem allV_items {v : V} (h : allV v = 0) : singV v = 0 ∧ ∀ u ∈ v.items, allV u = 0 := by
  rw [allV_eq] at h
  split at h
  · exact absurd h ‹_›
  · rename_i hs
    refine ⟨by simpa using hs, ?_⟩
    have key : ∀ l : List V, firstE (l.map allV) = 0 → ∀ u ∈ l, allV u = 0 := by
      intro l
      induction l with
      | nil => intro _ u hu; cases hu
      | cons x l ih =>
        intro hf u hu
        rw [List.map_cons, firstE] at hf
        split at hf
        · rename_i hx; exact absurd hf hx
        · rename_i hx
          rcases List.mem_cons.1 hu with rfl | hu
          · simpa using hx
          · exact ih hf u hu
    exact key _ h
theorem singV_ok {v : V} (h : singV v = 0) : (v.kind = 1 ∨ v.kind = 2 ∨ v.kind = 3) ∧ v.text.size ≤ 1048576 ∧ v.items.length ≤ 4096 ∧ (v.kind ≠ 3 → v.items = []) ∧ (v.kind ≠ 1 → v.num = 0) ∧ (v.kind ≠ 2 → v.text.size = 0) := by
  unfold singV at h
  split at h
  · rename_i hc
    split at h
    · cases h
    · refine ⟨by omega, by omega, by omega, fun hk => List.eq_nil_of_length_eq_zero (by omega), by omega, by omega⟩
  · cases h
theorem GoodD.items {f : Nat} {v : V} (h : GoodD (f + 1) v) (hk : v.kind = 3) : ∀ u ∈ v.items, GoodD f u := fun u hu => ⟨cntD_items h.1 hk u hu, (allV_items h.2).2 u hu⟩
theorem leafV_len {v : V} (h : singV v = 0) (hn : -9223372036854775808 ≤ v.num ∧ v.num ≤ 9223372036854775807) : (leafV v).length ≤ 1048599 := by
  obtain ⟨h1, h2, _⟩ := singV_ok h
  unfold leafV
  split
  · have := Lib.itoa_length_le v.num hn.1 hn.2
    simp; omega
  · have := Lib.itoa_length_le v.text.size (by omega) (by omega)
    have ht : v.text.data.toList.length = v.text.size := by simp
    simp at ht ⊢; omega
/-- Every number fits. -/
inductive NumOk : V → Prop
  | mk {v : V} : (-9223372036854775808 ≤ v.num ∧ v.num ≤ 9223372036854775807) → (∀ u ∈ v.items, NumOk u) → NumOk v
theorem NumOk.num {v : V} (h : NumOk v) : -9223372036854775808 ≤ v.num ∧ v.num ≤ 9223372036854775807 := by cases h; assumption
theorem NumOk.items {v : V} (h : NumOk v) : ∀ u ∈ v.items, NumOk u := by cases h; assumption
theorem rd_numOk {S : Nat → Prop} {w : World} (v : Vl) : Rd S w v → NumOk v.er := by
  induction v using Vl.ind with
  | h v ih =>
    intro h
    obtain ⟨_, h2, _, hv⟩ := rd_iff.1 h
    refine .mk (by rw [Vl.er_num]; exact h2) fun u hu => ?_
    rw [Vl.er_items] at hu
    obtain ⟨x, hx, rfl⟩ := List.mem_map.1 hu
    obtain ⟨j, hj⟩ := List.mem_iff_getElem?.1 hx
    exact ih x hx (hv.2.2.2 j x hj).2
theorem encF_len : ∀ (f : Nat) (out : List UInt8) (v : V), GoodD f v → NumOk v → out.length ≤ 2097175 + f → (encF f out v).length ≤ 2097175 + f
  | f, out, v, hg, hn, ho => by
    by_cases hM : 1048576 < out.length
    · rw [encF_full f out v hM]; exact ho
    · by_cases hk : v.kind = 1 ∨ v.kind = 2
      · have := leafV_len (allV_items hg.2).1 hn.num
        rw [encF_leaf f hM hk, List.length_append]; omega
      · have h3 : v.kind = 3 := by have := (singV_ok (allV_items hg.2).1).1; omega
        cases f with
        | zero => exact absurd rfl hg.1
        | succ f =>
          rw [encF, if_neg hM, if_neg hk]
          have key : ∀ (l : List V) (o : List UInt8), (∀ u ∈ l, GoodD f u ∧ NumOk u) → o.length ≤ 2097175 + f → (l.foldl (encF f) o).length ≤ 2097175 + f := by
            intro l
            induction l with
            | nil => intro o _ h; exact h
            | cons u l ih =>
              intro o hl h
              exact ih _ (fun y hy => hl y (by simp [hy])) (encF_len f o u (hl u (by simp)).1 (hl u (by simp)).2 h)
          have := key v.items (out ++ [108]) (fun u hu => ⟨hg.items h3 u hu, hn.items u hu⟩) (by simp; omega)
          simp at this ⊢; omega
/-- It is the encoding, where that is not too long; else it is too long. -/
theorem encF_enc : ∀ (f : Nat) (out : List UInt8) (v : V), GoodD f v → out.length ≤ 1048576 → (out.length + (encV v).length ≤ 1048576 → encF f out v = out ++ encV v) ∧ (1048576 < out.length + (encV v).length → 1048576 < (encF f out v).length)
  | f, out, v, hg, ho => by
    have hM : ¬ 1048576 < out.length := by omega
    by_cases hk : v.kind = 1 ∨ v.kind = 2
    · rw [encF_leaf f hM hk, encV_leaf hk, List.length_append]
      exact ⟨fun _ => rfl, fun h => h⟩
    · have h3 : v.kind = 3 := by have := (singV_ok (allV_items hg.2).1).1; omega
      cases f with
      | zero => exact absurd rfl hg.1
      | succ f =>
        rw [encF, if_neg hM, if_neg hk, encV_list hk]
        have key : ∀ (l : List V) (o : List UInt8), (∀ u ∈ l, GoodD f u) → (o.length ≤ 1048576 → o.length + (encL l).length ≤ 1048576 → l.foldl (encF f) o = o ++ encL l) ∧ ((1048576 < o.length ∨ 1048576 < o.length + (encL l).length) → 1048576 < (l.foldl (encF f) o).length) := by
          intro l
          induction l with
          | nil => intro o _; simp [encL]
          | cons u l ih =>
            intro o hl
            have hgu := hl u (by simp)
            have hgl := fun y hy => hl y (List.mem_cons_of_mem _ hy)
            rw [List.foldl_cons, encL, List.length_append]
            refine ⟨fun h0 h1 => ?_, fun h1 => ?_⟩
            · obtain ⟨e1, -⟩ := encF_enc f o u hgu h0
              rw [e1 (by omega), (ih _ hgl).1 (by rw [List.length_append]; omega) (by rw [List.length_append]; omega), List.append_assoc]
            · refine (ih _ hgl).2 ?_
              by_cases h0 : 1048576 < o.length
              · left; exact Nat.lt_of_lt_of_le h0 (encF_ge f o u)
              · obtain ⟨e1, e2⟩ := encF_enc f o u hgu (by omega)
                by_cases hu : o.length + (encV u).length ≤ 1048576
                · right; rw [e1 hu, List.length_append]; omega
                · left; exact e2 (by omega)
        obtain ⟨k1, k2⟩ := key v.items (out ++ [108]) (fun u hu => hg.items h3 u hu)
        rw [List.length_cons, List.length_append]
        simp only [List.length_append, List.length_cons, List.length_nil] at k1 k2 ⊢
        refine ⟨fun h => ?_, fun h => ?_⟩
        · rw [k1 (by omega) (by omega)]; simp
        · by_cases h2 : out.length + 1 + (encL v.items).length ≤ 1048576
          · rw [k1 (by omega) (by omega)]; simp; omega
          · have := k2 (by omega); omega
end Go.Proofs.YtancjkaoocgeeaaDoor
