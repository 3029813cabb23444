/- Hands, plain: what resolving and advancing make of nodes, and that behind each step the states of the later hands stay. -/
import Derived.Test.YtbjanlmnmeegnaaDoorBase
set_option linter.unusedVariables false
set_option linter.unusedSimpArgs false
namespace Go.Proofs.YtbjanlmnmeegnaaDoor

/-- A node, without addresses. -/
inductive Nd where
  | mk (k : Int) (t : ByteArray) (n : Int) (ps : List Nd)
mutual
/-- The breaks within nodes. -/
def brksN : Nd → List Nd
  | .mk k t n ps => (if k = 2 ∨ k = 3 ∨ k = 4 then [.mk k t n ps] else []) ++ brksL ps
def brksL : List Nd → List Nd
  | [] => []
  | x :: r => brksN x ++ brksL r
end
mutual
/-- The state behind a hand, not merged. -/
def resN (h : Int) : Nd → List Nd
  | .mk k t n ps =>
    if k = 8 ∨ k = 9 then (if k = 8 ↔ n ≤ h then resL h ps else brksL ps)
    else if ps.isEmpty = true then [.mk k t n ps]
    else if (resL h ps).isEmpty = true then [] else [.mk k t n (resL h ps)]
def resL (h : Int) : List Nd → List Nd
  | [] => []
  | x :: r => resN h x ++ resL h r
end
mutual
/-- Advanced to a hand, not merged. -/
def advN (h : Int) : Nd → List Nd
  | .mk k t n ps =>
    if k = 8 ∨ k = 9 then
      (if h < n then (if (advL h ps).isEmpty = true then [] else [.mk k t n (advL h ps)]) else if k = 8 then advL h ps else brksL ps)
    else if ps.isEmpty = true then [.mk k t n ps]
    else if (advL h ps).isEmpty = true then [] else [.mk k t n (advL h ps)]
def advL (h : Int) : List Nd → List Nd
  | [] => []
  | x :: r => advN h x ++ advL h r
end
/-- A node ahead of merged nodes. -/
def cat : Nd → List Nd → List Nd
  | .mk k t n ps, r =>
    if k = 1 then
      (if t.size = 0 then r else match r with
        | [] => [.mk k t n ps]
        | .mk k' t' n' ps' :: r' => if k' = 1 then .mk k (t ++ t') n ps :: r' else .mk k t n ps :: .mk k' t' n' ps' :: r')
    else .mk k t n ps :: r
mutual
def mergeN : Nd → Nd
  | .mk k t n ps => .mk k t n (mergeL ps)
def mergeL : List Nd → List Nd
  | [] => []
  | x :: r => cat (mergeN x) (mergeL r)
end
mutual
/-- What is needed of nodes: texts are not empty, and texts and breaks have no parts. -/
def okN : Nd → Prop
  | .mk k t n ps => (k = 1 → t.size ≠ 0 ∧ ps = []) ∧ (k = 2 ∨ k = 3 ∨ k = 4 → ps = []) ∧ okL ps
def okL : List Nd → Prop
  | [] => True
  | x :: r => okN x ∧ okL r
end
theorem brksL_append : ∀ a b : List Nd, brksL (a ++ b) = brksL a ++ brksL b
  | [], b => by simp [brksL]
  | x :: a, b => by simp [brksL, brksL_append a b]
theorem resL_append (h : Int) : ∀ a b : List Nd, resL h (a ++ b) = resL h a ++ resL h b
  | [], b => by simp [resL]
  | x :: a, b => by simp [resL, resL_append h a b]
theorem okL_append : ∀ a b : List Nd, okL (a ++ b) ↔ okL a ∧ okL b
  | [], b => by simp [okL]
  | x :: a, b => by simp [okL, okL_append a b, and_assoc]
mutual
theorem brks_brksN : ∀ x, okN x → brksL (brksN x) = brksN x
  | .mk k t n ps, h => by
    have ih := brks_brksL ps h.2.2
    unfold brksN
    rw [brksL_append, ih]
    by_cases hb : k = 2 ∨ k = 3 ∨ k = 4
    · rw [if_pos hb, h.2.1 hb]
      simp [brksL, brksN, hb]
    · rw [if_neg hb]; simp [brksL]
theorem brks_brksL : ∀ l, okL l → brksL (brksL l) = brksL l
  | [], _ => rfl
  | x :: r, h => by
    show brksL (brksN x ++ brksL r) = brksN x ++ brksL r
    rw [brksL_append, brks_brksN x h.1, brks_brksL r h.2]
end
mutual
theorem ok_brksN : ∀ x, okN x → okL (brksN x)
  | .mk k t n ps, h => by
    unfold brksN
    rw [okL_append]
    refine ⟨?_, ok_brksL ps h.2.2⟩
    split
    · exact ⟨h, trivial⟩
    · trivial
theorem ok_brksL : ∀ l, okL l → okL (brksL l)
  | [], _ => trivial
  | x :: r, h => by
    unfold brksL
    rw [okL_append]
    exact ⟨ok_brksN x h.1, ok_brksL r h.2⟩
end
theorem ok_node {k : Int} {t : ByteArray} {n : Int} {ps qs : List Nd} (h : okN (.mk k t n ps)) (hq : okL qs) (hn : ps.isEmpty ≠ true) : okN (.mk k t n qs) :=
  ⟨fun e => by exact absurd (by rw [(h.1 e).2]; rfl) hn, fun e => by exact absurd (by rw [h.2.1 e]; rfl) hn, hq⟩
theorem ok_corr {k : Int} {t : ByteArray} {n : Int} {qs : List Nd} (hk : k = 8 ∨ k = 9) (hq : okL qs) : okN (.mk k t n qs) :=
  ⟨fun e => by omega, fun e => by omega, hq⟩
mutual
theorem ok_resN (h : Int) : ∀ x, okN x → okL (resN h x)
  | .mk k t n ps, o => by
    have ih := ok_resL h ps o.2.2
    unfold resN
    split
    · split
      · exact ih
      · exact ok_brksL ps o.2.2
    · split
      · exact ⟨o, trivial⟩
      · rename_i hn
        split
        · trivial
        · exact ⟨ok_node o ih hn, trivial⟩
theorem ok_resL (h : Int) : ∀ l, okL l → okL (resL h l)
  | [], _ => trivial
  | x :: r, o => by
    unfold resL
    rw [okL_append]
    exact ⟨ok_resN h x o.1, ok_resL h r o.2⟩
end
mutual
theorem ok_advN (h : Int) : ∀ x, okN x → okL (advN h x)
  | .mk k t n ps, o => by
    have ih := ok_advL h ps o.2.2
    unfold advN
    split
    · rename_i hk
      split
      · split
        · trivial
        · exact ⟨ok_corr hk ih, trivial⟩
      · split
        · exact ih
        · exact ok_brksL ps o.2.2
    · split
      · exact ⟨o, trivial⟩
      · rename_i hn
        split
        · trivial
        · exact ⟨ok_node o ih hn, trivial⟩
theorem ok_advL (h : Int) : ∀ l, okL l → okL (advL h l)
  | [], _ => trivial
  | x :: r, o => by
    unfold advL
    rw [okL_append]
    exact ⟨ok_advN h x o.1, ok_advL h r o.2⟩
end
theorem brks_nil {ps : List Nd} (h : ps.isEmpty = true) : brksL ps = [] := by
  cases ps with
  | nil => rfl
  | cons => cases h
mutual
theorem brks_advN (h : Int) : ∀ x, okN x → brksL (advN h x) = brksN x
  | .mk k t n ps, o => by
    have ih := brks_advL h ps o.2.2
    unfold advN
    by_cases hk : k = 8 ∨ k = 9
    · rw [if_pos hk]
      have hb : ¬ (k = 2 ∨ k = 3 ∨ k = 4) := by omega
      unfold brksN
      rw [if_neg hb, List.nil_append]
      split
      · split
        · rename_i he
          rw [← ih, brks_nil he]; rfl
        · simp [brksL, brksN, hb, ih]
      · split
        · exact ih
        · exact brks_brksL ps o.2.2
    · rw [if_neg hk]
      split
      · simp [brksL]
      · rename_i hn
        have hb : ¬ (k = 2 ∨ k = 3 ∨ k = 4) := fun e => hn (by rw [o.2.1 e]; rfl)
        split
        · rename_i he
          unfold brksN
          rw [if_neg hb, ← ih, brks_nil he]; rfl
        · simp [brksL, brksN, hb, ih]
theorem brks_advL (h : Int) : ∀ l, okL l → brksL (advL h l) = brksL l
  | [], _ => rfl
  | x :: r, o => by
    unfold advL
    rw [brksL_append, brks_advN h x o.1, brks_advL h r o.2]
    rfl
end
mutual
theorem res_brksN (h : Int) : ∀ x, okN x → resL h (brksN x) = brksN x
  | .mk k t n ps, o => by
    have ih := res_brksL h ps o.2.2
    unfold brksN
    rw [resL_append, ih]
    by_cases hb : k = 2 ∨ k = 3 ∨ k = 4
    · have hk : ¬ (k = 8 ∨ k = 9) := by omega
      rw [if_pos hb, o.2.1 hb]
      simp [resL, resN, hk, brksL]
    · rw [if_neg hb]; simp [resL]
theorem res_brksL (h : Int) : ∀ l, okL l → resL h (brksL l) = brksL l
  | [], _ => rfl
  | x :: r, o => by
    unfold brksL
    rw [resL_append, res_brksN h x o.1, res_brksL h r o.2]
end
theorem res_nil {h : Int} {ps : List Nd} (e : ps.isEmpty = true) : resL h ps = [] := by
  cases ps with
  | nil => rfl
  | cons => cases e
mutual
/-- Behind a step the later hands' states stay. -/
theorem res_advN {h k : Int} (hhk : h ≤ k) : ∀ x, okN x → resL k (advN h x) = resN k x
  | .mk q t n ps, o => by
    have ih := res_advL hhk ps o.2.2
    have ib := brks_advL h ps o.2.2
    unfold advN
    by_cases hq : q = 8 ∨ q = 9
    · rw [if_pos hq]
      unfold resN
      rw [if_pos hq]
      by_cases hn : h < n
      · rw [if_pos hn]
        split
        · rename_i he
          rw [← ih, ← ib, res_nil he, brks_nil he]
          split <;> rfl
        · simp only [resL, resN, if_pos hq, List.append_nil, ih, ib]
      · rw [if_neg hn]
        have hnk : n ≤ k := by omega
        by_cases h8 : q = 8
        · rw [if_pos h8, if_pos (by simp [h8, hnk])]; exact ih
        · rw [if_neg h8, if_neg (by simp [h8, hnk])]; exact res_brksL k ps o.2.2
    · rw [if_neg hq]
      by_cases hp : ps.isEmpty = true
      · rw [if_pos hp]; simp [resL]
      · rw [if_neg hp]
        split
        · rename_i he
          unfold resN
          rw [if_neg hq, if_neg hp, ← ih, res_nil he]; rfl
        · rename_i he
          simp only [resL, resN, if_neg hq, if_neg he, if_neg hp, List.append_nil, ih]
theorem res_advL {h k : Int} (hhk : h ≤ k) : ∀ l, okL l → resL k (advL h l) = resL k l
  | [], _ => rfl
  | x :: r, o => by
    unfold advL
    rw [resL_append, res_advN hhk x o.1, res_advL hhk r o.2]
    rfl
end
/-- Nodes ahead of merged ones, one by one. -/
def catL : List Nd → List Nd → List Nd
  | [], m => m
  | x :: a, m => cat (mergeN x) (catL a m)
theorem catL_nil : ∀ a, catL a [] = mergeL a
  | [] => rfl
  | x :: a => by unfold catL mergeL; rw [catL_nil a]
theorem catL_append : ∀ a b m, catL (a ++ b) m = catL a (catL b m)
  | [], b, m => rfl
  | x :: a, b, m => by simp only [List.cons_append, catL, catL_append a b m]
theorem mergeL_append (a b : List Nd) : mergeL (a ++ b) = catL a (mergeL b) := by rw [← catL_nil, catL_append, catL_nil]
theorem cat_other {k : Int} {t : ByteArray} {n : Int} {ps r : List Nd} (h : k ≠ 1) : cat (.mk k t n ps) r = .mk k t n ps :: r := by simp only [cat, if_neg h]
theorem cat_text {k k' : Int} {t t' : ByteArray} {n n' : Int} {ps ps' r : List Nd} (h : k = 1) (h' : k' = 1) (ht : t.size ≠ 0) : cat (.mk k t n ps) (.mk k' t' n' ps' :: r) = .mk k (t ++ t') n ps :: r := by simp only [cat, if_pos h, if_neg ht, if_pos h']
theorem cat_edge {k k' : Int} {t t' : ByteArray} {n n' : Int} {ps ps' r : List Nd} (h : k = 1) (h' : k' ≠ 1) (ht : t.size ≠ 0) : cat (.mk k t n ps) (.mk k' t' n' ps' :: r) = .mk k t n ps :: .mk k' t' n' ps' :: r := by simp only [cat, if_pos h, if_neg ht, if_neg h']
theorem cat_end {k : Int} {t : ByteArray} {n : Int} {ps : List Nd} (h : k = 1) (ht : t.size ≠ 0) : cat (.mk k t n ps) [] = [.mk k t n ps] := by simp only [cat, if_pos h, if_neg ht]
theorem app_ne {t t' : ByteArray} (h : t.size ≠ 0) : (t ++ t').size ≠ 0 := by rw [ByteArray.size_append]; omega
/-- Two texts, one ahead of the other, are one. -/
theorem cat_cat {k k' : Int} {t t' : ByteArray} {n n' : Int} {ps ps' : List Nd} (h : k = 1) (h' : k' = 1) (ht : t.size ≠ 0) (ht' : t'.size ≠ 0) : ∀ m, cat (.mk k t n ps) (cat (.mk k' t' n' ps') m) = cat (.mk k (t ++ t') n ps) m
  | [] => by rw [cat_end h' ht', cat_text h h' ht, cat_end h (app_ne ht)]
  | .mk k2 t2 n2 ps2 :: m => by
    by_cases h2 : k2 = 1
    · rw [cat_text h' h2 ht', cat_text h h' ht, cat_text h h2 (app_ne ht), ByteArray.append_assoc]
    · rw [cat_edge h' h2 ht', cat_text h h' ht, cat_edge h h2 (app_ne ht)]
theorem ok_cat : ∀ x r, okN x → okL r → okL (cat x r)
  | .mk k t n ps, r, h, hr => by
    by_cases hk : k = 1
    · have ht := (h.1 hk).1
      cases r with
      | nil => rw [cat_end hk ht]; exact ⟨h, trivial⟩
      | cons y r =>
        obtain ⟨k', t', n', ps'⟩ := y
        by_cases hk' : k' = 1
        · rw [cat_text hk hk' ht]; exact ⟨⟨fun e => ⟨app_ne ht, (h.1 e).2⟩, h.2.1, h.2.2⟩, hr.2⟩
        · rw [cat_edge hk hk' ht]; exact ⟨h, hr⟩
    · rw [cat_other hk]; exact ⟨h, hr⟩
mutual
theorem ok_mergeN : ∀ x, okN x → okN (mergeN x)
  | .mk k t n ps, h => by
    unfold mergeN
    exact ⟨fun e => ⟨(h.1 e).1, by rw [(h.1 e).2]; rfl⟩, fun e => by rw [h.2.1 e]; rfl, ok_mergeL ps h.2.2⟩
theorem ok_mergeL : ∀ l, okL l → okL (mergeL l)
  | [], _ => trivial
  | x :: r, h => ok_cat _ _ (ok_mergeN x h.1) (ok_mergeL r h.2)
end
theorem cat_ne : ∀ x r, okN x → cat x r ≠ []
  | .mk k t n ps, r, h => by
    by_cases hk : k = 1
    · have ht := (h.1 hk).1
      cases r with
      | nil => rw [cat_end hk ht]; simp
      | cons y r =>
        obtain ⟨k', t', n', ps'⟩ := y
        by_cases hk' : k' = 1
        · rw [cat_text hk hk' ht]; simp
        · rw [cat_edge hk hk' ht]; simp
    · rw [cat_other hk]; simp
theorem merge_empty {l : List Nd} (h : okL l) : (mergeL l).isEmpty = l.isEmpty := by
  cases l with
  | nil => rfl
  | cons x r =>
    have := cat_ne (mergeN x) (mergeL r) (ok_mergeN x h.1)
    show (cat (mergeN x) (mergeL r)).isEmpty = false
    cases e : cat (mergeN x) (mergeL r) with
    | nil => exact absurd e this
    | cons => rfl
theorem brks_text {k : Int} {t : ByteArray} {n : Int} {ps : List Nd} (hk : k = 1) (h : okN (.mk k t n ps)) : brksN (.mk k t n ps) = [] := by
  have hb : ¬ (k = 2 ∨ k = 3 ∨ k = 4) := by omega
  rw [(h.1 hk).2]
  simp [brksN, brksL, hb]
theorem brks_cat : ∀ x r, okN x → okL r → brksL (cat x r) = brksN x ++ brksL r
  | .mk k t n ps, r, h, hr => by
    by_cases hk : k = 1
    · have ht := (h.1 hk).1
      cases r with
      | nil => rw [cat_end hk ht]; rfl
      | cons y r =>
        obtain ⟨k', t', n', ps'⟩ := y
        by_cases hk' : k' = 1
        · rw [cat_text hk hk' ht]
          show brksN _ ++ brksL r = _ ++ (brksN _ ++ brksL r)
          rw [brks_text hk h, brks_text hk' hr.1, brks_text hk ⟨fun e => ⟨app_ne ht, (h.1 e).2⟩, h.2.1, h.2.2⟩]; rfl
        · rw [cat_edge hk hk' ht]; rfl
    · rw [cat_other hk]; rfl
mutual
theorem brks_mergeN : ∀ x, okN x → brksN (mergeN x) = brksN x
  | .mk k t n ps, h => by
    have ih := brks_mergeL ps h.2.2
    unfold mergeN brksN
    rw [ih]
    by_cases hb : k = 2 ∨ k = 3 ∨ k = 4
    · rw [if_pos hb, if_pos hb, h.2.1 hb]; rfl
    · rw [if_neg hb, if_neg hb]
theorem brks_mergeL : ∀ l, okL l → brksL (mergeL l) = brksL l
  | [], _ => rfl
  | x :: r, h => by
    show brksL (cat (mergeN x) (mergeL r)) = brksN x ++ brksL r
    rw [brks_cat _ _ (ok_mergeN x h.1) (ok_mergeL r h.2), brks_mergeN x h.1, brks_mergeL r h.2]
end
/-- A text stays a text. -/
theorem res_text {h : Int} {k : Int} {t : ByteArray} {n : Int} {ps : List Nd} (hk : k = 1) (o : okN (.mk k t n ps)) : resN h (.mk k t n ps) = [.mk k t n ps] := by
  have hb : ¬ (k = 8 ∨ k = 9) := by omega
  rw [(o.1 hk).2]
  simp [resN, hb]
theorem merge_text {k : Int} {t : ByteArray} {n : Int} {ps : List Nd} (hk : k = 1) (o : okN (.mk k t n ps)) : mergeN (.mk k t n ps) = .mk k t n ps := by
  rw [(o.1 hk).2]; rfl
mutual
/-- Merged ahead or behind, the state is one. -/
theorem merge_resN (h : Int) : ∀ x, okN x → ∀ m, catL (resN h (mergeN x)) m = catL (resN h x) m
  | .mk k t n ps, o, m => by
    have ih := merge_resL h ps o.2.2
    have ib := brks_mergeL ps o.2.2
    unfold mergeN resN
    rw [ib, merge_empty o.2.2]
    have hm : mergeL (resL h (mergeL ps)) = mergeL (resL h ps) := by rw [← catL_nil, ih, catL_nil]
    have he : (resL h (mergeL ps)).isEmpty = (resL h ps).isEmpty := by
      rw [← merge_empty (ok_resL h _ (ok_mergeL ps o.2.2)), hm, merge_empty (ok_resL h _ o.2.2)]
    rw [he]
    by_cases hk : k = 8 ∨ k = 9
    · rw [if_pos hk, if_pos hk]
      split
      · exact ih m
      · rfl
    · rw [if_neg hk, if_neg hk]
      by_cases hp : ps.isEmpty = true
      · rw [if_pos hp, if_pos hp]
        cases ps with
        | nil => rfl
        | cons => cases hp
      · rw [if_neg hp, if_neg hp]
        split
        · rfl
        · simp only [catL, mergeN, hm]
theorem merge_resL (h : Int) : ∀ l, okL l → ∀ m, catL (resL h (mergeL l)) m = catL (resL h l) m
  | [], _, m => rfl
  | .mk k t n ps :: r, o, m => by
    have ih := merge_resL h r o.2
    have ix := merge_resN h (.mk k t n ps) o.1
    have om := ok_mergeL r o.2
    show catL (resL h (cat (mergeN (.mk k t n ps)) (mergeL r))) m = catL (resN h (.mk k t n ps) ++ resL h r) m
    rw [catL_append, ← ih]
    generalize mergeL r = R at *
    by_cases hk : k = 1
    · have ht := (o.1.1 hk).1
      rw [merge_text hk o.1, res_text hk o.1]
      cases R with
      | nil =>
        rw [cat_end hk ht]
        simp only [resL, List.append_nil, res_text hk o.1]; rfl
      | cons y R =>
        obtain ⟨k', t', n', ps'⟩ := y
        by_cases hk' : k' = 1
        · have ht' := (om.1.1 hk').1
          have o2 : okN (.mk k (t ++ t') n ps) := ⟨fun e => ⟨app_ne ht, (o.1.1 e).2⟩, o.1.2.1, o.1.2.2⟩
          rw [cat_text hk hk' ht]
          show catL (resN h _ ++ resL h R) m = catL _ (catL (resN h _ ++ resL h R) m)
          rw [res_text hk o2, res_text hk' om.1]
          simp only [catL, List.singleton_append, merge_text hk o.1, merge_text hk o2, merge_text hk' om.1]
          rw [cat_cat hk hk' ht ht']
        · rw [cat_edge hk hk' ht]
          show catL (resN h _ ++ resL h _) m = _
          rw [res_text hk o.1]; rfl
    · unfold mergeN at ix ⊢
      rw [cat_other hk]
      show catL (resN h _ ++ resL h R) m = _
      rw [catL_append, ix]
end
theorem merge_res (h : Int) {l : List Nd} (o : okL l) : mergeL (resL h (mergeL l)) = mergeL (resL h l) := by rw [← catL_nil, merge_resL h l o, catL_nil]
mutual
/-- The hands' numbers. -/
def numN : Nd → Prop
  | .mk k _ n ps => (k = 8 ∨ k = 9 → n ≤ 8) ∧ numL ps
def numL : List Nd → Prop
  | [] => True
  | x :: r => numN x ∧ numL r
end
mutual
theorem adv_resN : ∀ x, numN x → advN 8 x = resN 8 x
  | .mk k t n ps, o => by
    have ih := adv_resL ps o.2
    unfold advN resN
    rw [ih]
    by_cases hk : k = 8 ∨ k = 9
    · have hn := o.1 hk
      rw [if_pos hk, if_pos hk, if_neg (by omega)]
      by_cases h8 : k = 8
      · rw [if_pos h8, if_pos (by simp [h8, hn])]
      · rw [if_neg h8, if_neg (by simp [h8, hn])]
    · rw [if_neg hk, if_neg hk]
theorem adv_resL : ∀ l, numL l → advL 8 l = resL 8 l
  | [], _ => rfl
  | x :: r, o => by
    show advN 8 x ++ advL 8 r = resN 8 x ++ resL 8 r
    rw [adv_resN x o.1, adv_resL r o.2]
end
end Go.Proofs.YtbjanlmnmeegnaaDoor
