/- Hands, plain: what is advanced is valid. -/
import Derived.Test.YtbjanlmnmeegnaaDoorTPln
set_option linter.unusedVariables false
set_option linter.unusedSimpArgs false
namespace Go.Proofs.YtbjanlmnmeegnaaDoor

/-- The fields of a node are right: C says it of texts, Wd of words, Nm of names. -/
def fitF (C Wd Nm : ByteArray → Prop) (k : Int) (t : ByteArray) (n : Int) (ps : List Nd) : Prop :=
  (1 ≤ k ∧ k ≤ 11) ∧ (¬ (k = 1 ∨ k = 3 ∨ k = 4 ∨ k = 10 ∨ k = 11) → t.size = 0) ∧ (¬ (k = 6 ∨ k = 8 ∨ k = 9) → n = 0) ∧ (k < 7 → ps = []) ∧ (k = 1 → t.size ≠ 0 ∧ C t) ∧ (7 ≤ k → ps ≠ []) ∧
    (k = 10 → Wd t) ∧ (k = 3 ∨ k = 4 ∨ k = 11 → Nm t) ∧ (k = 6 → 1 ≤ n ∧ n ≤ 64) ∧ (k = 8 ∨ k = 9 → 1 ≤ n ∧ n ≤ 8)
mutual
/-- Each node for itself is right; dp: within parts. -/
def fitN (C Wd Nm : ByteArray → Prop) (dp : Bool) : Nd → Prop
  | .mk k t n ps => fitF C Wd Nm k t n ps ∧ (k = 4 → dp = false) ∧ fitL C Wd Nm true ps
def fitL (C Wd Nm : ByteArray → Prop) (dp : Bool) : List Nd → Prop
  | [] => True
  | x :: r => fitN C Wd Nm dp x ∧ fitL C Wd Nm dp r
end
/-- A list does not begin with a text. -/
def noText : List Nd → Prop
  | [] => True
  | .mk k _ _ _ :: _ => k ≠ 1
mutual
/-- No text stands behind a text. -/
def ordN : Nd → Prop
  | .mk _ _ _ ps => ordL ps
def ordL : List Nd → Prop
  | [] => True
  | .mk k t n ps :: r => ordN (.mk k t n ps) ∧ (k = 1 → noText r) ∧ ordL r
end
mutual
/-- How many nodes there are. -/
def cntN : Nd → Nat
  | .mk _ _ _ ps => 1 + cntL ps
def cntL : List Nd → Nat
  | [] => 0
  | x :: r => cntN x + cntL r
end
mutual
/-- How deep they are. -/
def dptN : Nd → Nat
  | .mk _ _ _ ps => if ps.isEmpty = true then 0 else 1 + dptL ps
def dptL : List Nd → Nat
  | [] => 0
  | x :: r => max (dptN x) (dptL r)
end
mutual
/-- How long their marks are. -/
def lenN (H : Int → ByteArray → Int → Nat) : Nd → Nat
  | .mk k t n ps => if k = 1 then t.size else H k t n + lenL H ps
def lenL (H : Int → ByteArray → Int → Nat) : List Nd → Nat
  | [] => 0
  | x :: r => lenN H x + lenL H r
end
section
variable {C Wd Nm : ByteArray → Prop} {H : Int → ByteArray → Int → Nat}
theorem fitL_append {dp : Bool} : ∀ a b : List Nd, fitL C Wd Nm dp (a ++ b) ↔ fitL C Wd Nm dp a ∧ fitL C Wd Nm dp b
  | [], b => by simp [fitL]
  | x :: a, b => by simp [fitL, fitL_append a b, and_assoc]
theorem cntL_append : ∀ a b : List Nd, cntL (a ++ b) = cntL a + cntL b
  | [], b => by simp [cntL]
  | x :: a, b => by simp [cntL, cntL_append a b, Nat.add_assoc]
theorem dptL_append : ∀ a b : List Nd, dptL (a ++ b) = max (dptL a) (dptL b)
  | [], b => by simp [dptL]
  | x :: a, b => by simp [dptL, dptL_append a b, Nat.max_assoc]
theorem lenL_append : ∀ a b : List Nd, lenL H (a ++ b) = lenL H a + lenL H b
  | [], b => by simp [lenL]
  | x :: a, b => by simp [lenL, lenL_append a b, Nat.add_assoc]
mutual
theorem fitN_up : ∀ (x : Nd) (dp : Bool), fitN C Wd Nm true x → fitN C Wd Nm dp x
  | .mk k t n ps, dp, h => ⟨h.1, fun e => absurd (h.2.1 e) (by decide), h.2.2⟩
theorem fitL_up : ∀ (l : List Nd) (dp : Bool), fitL C Wd Nm true l → fitL C Wd Nm dp l
  | [], _, _ => trivial
  | x :: r, dp, h => ⟨fitN_up x dp h.1, fitL_up r dp h.2⟩
end
mutual
theorem fit_okN : ∀ (x : Nd) (dp : Bool), fitN C Wd Nm dp x → okN x
  | .mk k t n ps, dp, h => ⟨fun e => ⟨(h.1.2.2.2.2.1 e).1, h.1.2.2.2.1 (by omega)⟩, fun e => h.1.2.2.2.1 (by omega), fit_okL ps true h.2.2⟩
theorem fit_okL : ∀ (l : List Nd) (dp : Bool), fitL C Wd Nm dp l → okL l
  | [], _, _ => trivial
  | x :: r, dp, h => ⟨fit_okN x dp h.1, fit_okL r dp h.2⟩
end
mutual
theorem fit_numN : ∀ (x : Nd) (dp : Bool), fitN C Wd Nm dp x → numN x
  | .mk k t n ps, dp, h => ⟨fun e => (h.1.2.2.2.2.2.2.2.2.2 e).2, fit_numL ps true h.2.2⟩
theorem fit_numL : ∀ (l : List Nd) (dp : Bool), fitL C Wd Nm dp l → numL l
  | [], _, _ => trivial
  | x :: r, dp, h => ⟨fit_numN x dp h.1, fit_numL r dp h.2⟩
end
theorem fit_parts {k : Int} {t : ByteArray} {n : Int} {ps qs : List Nd} (h : fitF C Wd Nm k t n ps) (h7 : 7 ≤ k) (hq : qs.isEmpty ≠ true) : fitF C Wd Nm k t n qs :=
  ⟨h.1, h.2.1, h.2.2.1, fun e => by omega, fun e => by omega, fun _ e => hq (by rw [e]; rfl), h.2.2.2.2.2.2⟩
mutual
theorem fit_brksN : ∀ (x : Nd) (dp : Bool), fitN C Wd Nm dp x → fitL C Wd Nm dp (brksN x)
  | .mk k t n ps, dp, h => by
    unfold brksN
    rw [fitL_append]
    refine ⟨?_, fitL_up _ dp (fit_brksL ps true h.2.2)⟩
    split
    · exact ⟨h, trivial⟩
    · trivial
theorem fit_brksL : ∀ (l : List Nd) (dp : Bool), fitL C Wd Nm dp l → fitL C Wd Nm dp (brksL l)
  | [], _, _ => trivial
  | x :: r, dp, h => by
    show fitL C Wd Nm dp (brksN x ++ brksL r)
    rw [fitL_append]
    exact ⟨fit_brksN x dp h.1, fit_brksL r dp h.2⟩
end
mutual
theorem fit_advN (a : Int) : ∀ (x : Nd) (dp : Bool), fitN C Wd Nm dp x → fitL C Wd Nm dp (advN a x)
  | .mk k t n ps, dp, h => by
    have ih := fit_advL a ps true h.2.2
    unfold advN
    split
    · rename_i hk
      split
      · split
        · trivial
        · rename_i hq
          exact ⟨⟨fit_parts h.1 (by omega) hq, h.2.1, ih⟩, trivial⟩
      · split
        · exact fitL_up _ dp ih
        · exact fitL_up _ dp (fit_brksL ps true h.2.2)
    · split
      · exact ⟨h, trivial⟩
      · rename_i hp
        split
        · trivial
        · rename_i hq
          have h7 : 7 ≤ k := by
            by_cases h7 : 7 ≤ k
            · exact h7
            · exact absurd (by rw [h.1.2.2.2.1 (by omega)]; rfl) hp
          exact ⟨⟨fit_parts h.1 h7 hq, h.2.1, ih⟩, trivial⟩
theorem fit_advL (a : Int) : ∀ (l : List Nd) (dp : Bool), fitL C Wd Nm dp l → fitL C Wd Nm dp (advL a l)
  | [], _, _ => trivial
  | x :: r, dp, h => by
    show fitL C Wd Nm dp (advN a x ++ advL a r)
    rw [fitL_append]
    exact ⟨fit_advN a x dp h.1, fit_advL a r dp h.2⟩
end
theorem fit_cat (hC : ∀ a b, C a → C b → C (a ++ b)) : ∀ (x : Nd) (r : List Nd) (dp : Bool), fitN C Wd Nm dp x → fitL C Wd Nm dp r → fitL C Wd Nm dp (cat x r)
  | .mk k t n ps, r, dp, h, hr => by
    by_cases hk : k = 1
    · have ht := (h.1.2.2.2.2.1 hk).1
      cases r with
      | nil => rw [cat_end hk ht]; exact ⟨h, trivial⟩
      | cons y r =>
        obtain ⟨k', t', n', ps'⟩ := y
        by_cases hk' : k' = 1
        · rw [cat_text hk hk' ht]
          refine ⟨⟨⟨h.1.1, fun e => absurd (.inl hk) e, h.1.2.2.1, h.1.2.2.2.1, fun _ => ⟨app_ne ht, hC _ _ (h.1.2.2.2.2.1 hk).2 (hr.1.1.2.2.2.2.1 hk').2⟩, fun e => by omega, fun e => by omega, fun e => by omega, fun e => by omega, fun e => by omega⟩, fun e => by omega, h.2.2⟩, hr.2⟩
        · rw [cat_edge hk hk' ht]; exact ⟨h, hr⟩
    · rw [cat_other hk]; exact ⟨h, hr⟩
mutual
theorem fit_mergeN (hC : ∀ a b, C a → C b → C (a ++ b)) : ∀ (x : Nd) (dp : Bool), fitN C Wd Nm dp x → fitN C Wd Nm dp (mergeN x)
  | .mk k t n ps, dp, h => by
    have ih := fit_mergeL hC ps true h.2.2
    have he := merge_empty (fit_okL ps true h.2.2)
    unfold mergeN
    by_cases hp : ps.isEmpty = true
    · cases ps with
      | nil => exact h
      | cons => cases hp
    · have h7 : 7 ≤ k := by
        by_cases h7 : 7 ≤ k
        · exact h7
        · exact absurd (by rw [h.1.2.2.2.1 (by omega)]; rfl) hp
      exact ⟨fit_parts h.1 h7 (by rw [he]; exact hp), h.2.1, ih⟩
theorem fit_mergeL (hC : ∀ a b, C a → C b → C (a ++ b)) : ∀ (l : List Nd) (dp : Bool), fitL C Wd Nm dp l → fitL C Wd Nm dp (mergeL l)
  | [], _, _ => trivial
  | x :: r, dp, h => fit_cat hC _ _ dp (fit_mergeN hC x dp h.1) (fit_mergeL hC r dp h.2)
end
theorem ord_cat : ∀ (x : Nd) (r : List Nd), okN x → ordN x → ordL r → ordL (cat x r)
  | .mk k t n ps, r, h, hx, hr => by
    by_cases hk : k = 1
    · have ht := (h.1 hk).1
      cases r with
      | nil => rw [cat_end hk ht]; exact ⟨hx, fun _ => trivial, trivial⟩
      | cons y r =>
        obtain ⟨k', t', n', ps'⟩ := y
        by_cases hk' : k' = 1
        · rw [cat_text hk hk' ht]; exact ⟨hx, fun _ => hr.2.1 hk', hr.2.2⟩
        · rw [cat_edge hk hk' ht]; exact ⟨hx, fun _ => hk', hr⟩
    · rw [cat_other hk]; exact ⟨hx, fun e => absurd e hk, hr⟩
mutual
theorem ord_mergeN : ∀ x : Nd, okN x → ordN (mergeN x)
  | .mk k t n ps, h => by unfold mergeN ordN; exact ord_mergeL ps h.2.2
theorem ord_mergeL : ∀ l : List Nd, okL l → ordL (mergeL l)
  | [], _ => trivial
  | x :: r, h => ord_cat _ _ (ok_mergeN x h.1) (ord_mergeN x h.1) (ord_mergeL r h.2)
end
mutual
theorem cnt_brksN : ∀ x : Nd, okN x → cntL (brksN x) ≤ cntN x
  | .mk k t n ps, h => by
    have ih := cnt_brksL ps h.2.2
    unfold brksN
    rw [cntL_append]
    split
    · rename_i hb
      rw [h.2.1 hb]; simp [cntL, brksL]
    · simp only [cntL, cntN]; omega
theorem cnt_brksL : ∀ l : List Nd, okL l → cntL (brksL l) ≤ cntL l
  | [], _ => Nat.le_refl _
  | x :: r, h => by
    have h1 := cnt_brksN x h.1
    have h2 := cnt_brksL r h.2
    show cntL (brksN x ++ brksL r) ≤ cntN x + cntL r
    rw [cntL_append]; omega
end
mutual
theorem cnt_advN (a : Int) : ∀ x : Nd, okN x → cntL (advN a x) ≤ cntN x
  | .mk k t n ps, h => by
    have ih := cnt_advL a ps h.2.2
    have ib := cnt_brksL ps h.2.2
    unfold advN
    repeat' split
    all_goals simp only [cntL, cntN]
    all_goals omega
theorem cnt_advL (a : Int) : ∀ l : List Nd, okL l → cntL (advL a l) ≤ cntL l
  | [], _ => Nat.le_refl _
  | x :: r, h => by
    have h1 := cnt_advN a x h.1
    have h2 := cnt_advL a r h.2
    show cntL (advN a x ++ advL a r) ≤ cntN x + cntL r
    rw [cntL_append]; omega
end
theorem cnt_cat : ∀ (x : Nd) (r : List Nd), okN x → okL r → cntL (cat x r) ≤ cntN x + cntL r
  | .mk k t n ps, r, h, hr => by
    by_cases hk : k = 1
    · have ht := (h.1 hk).1
      cases r with
      | nil => rw [cat_end hk ht]; simp [cntL]
      | cons y r =>
        obtain ⟨k', t', n', ps'⟩ := y
        by_cases hk' : k' = 1
        · rw [cat_text hk hk' ht]; simp only [cntL, cntN]; omega
        · rw [cat_edge hk hk' ht]; simp only [cntL]; omega
    · rw [cat_other hk]; simp [cntL]
mutual
theorem cnt_mergeN : ∀ x : Nd, okN x → cntN (mergeN x) ≤ cntN x
  | .mk k t n ps, h => by
    have ih := cnt_mergeL ps h.2.2
    unfold mergeN cntN; omega
theorem cnt_mergeL : ∀ l : List Nd, okL l → cntL (mergeL l) ≤ cntL l
  | [], _ => Nat.le_refl _
  | x :: r, h => by
    have h1 := cnt_mergeN x h.1
    have h2 := cnt_mergeL r h.2
    have h3 := cnt_cat _ _ (ok_mergeN x h.1) (ok_mergeL r h.2)
    show cntL (cat (mergeN x) (mergeL r)) ≤ cntN x + cntL r
    omega
end
mutual
theorem dpt_brksN : ∀ x : Nd, okN x → dptL (brksN x) = 0
  | .mk k t n ps, h => by
    have ih := dpt_brksL ps h.2.2
    unfold brksN
    rw [dptL_append, ih]
    split
    · rename_i hb
      rw [h.2.1 hb]; simp [dptL, dptN]
    · simp [dptL]
theorem dpt_brksL : ∀ l : List Nd, okL l → dptL (brksL l) = 0
  | [], _ => rfl
  | x :: r, h => by
    show dptL (brksN x ++ brksL r) = 0
    rw [dptL_append, dpt_brksN x h.1, dpt_brksL r h.2]; rfl
end
mutual
theorem dpt_advN (a : Int) : ∀ x : Nd, okN x → dptL (advN a x) ≤ dptN x
  | .mk k t n ps, h => by
    have ih := dpt_advL a ps h.2.2
    have ib := dpt_brksL ps h.2.2
    unfold advN
    by_cases hp : ps.isEmpty = true
    · cases ps with
      | nil =>
        repeat' split
        all_goals simp_all [dptL, dptN, advL, brksL]
      | cons => cases hp
    · have e : dptN (.mk k t n ps) = 1 + dptL ps := by unfold dptN; rw [if_neg hp]
      rw [e]
      repeat' split
      all_goals first
        | (simp only [dptL]; omega)
        | (simp only [dptL, dptN]; split <;> omega)
        | omega
theorem dpt_advL (a : Int) : ∀ l : List Nd, okL l → dptL (advL a l) ≤ dptL l
  | [], _ => Nat.le_refl _
  | x :: r, h => by
    have h1 := dpt_advN a x h.1
    have h2 := dpt_advL a r h.2
    show dptL (advN a x ++ advL a r) ≤ max (dptN x) (dptL r)
    rw [dptL_append]; omega
end
theorem dpt_cat : ∀ (x : Nd) (r : List Nd), okN x → okL r → dptL (cat x r) ≤ max (dptN x) (dptL r)
  | .mk k t n ps, r, h, hr => by
    by_cases hk : k = 1
    · have ht := (h.1 hk).1
      cases r with
      | nil => rw [cat_end hk ht]; simp [dptL]
      | cons y r =>
        obtain ⟨k', t', n', ps'⟩ := y
        by_cases hk' : k' = 1
        · rw [cat_text hk hk' ht]; simp only [dptL, dptN]; omega
        · rw [cat_edge hk hk' ht]; simp only [dptL]; omega
    · rw [cat_other hk]; simp [dptL]
mutual
theorem dpt_mergeN : ∀ x : Nd, okN x → dptN (mergeN x) ≤ dptN x
  | .mk k t n ps, h => by
    have ih := dpt_mergeL ps h.2.2
    have he := merge_empty h.2.2
    unfold mergeN dptN
    rw [he]
    split
    · exact Nat.le_refl _
    · omega
theorem dpt_mergeL : ∀ l : List Nd, okL l → dptL (mergeL l) ≤ dptL l
  | [], _ => Nat.le_refl _
  | x :: r, h => by
    have h1 := dpt_mergeN x h.1
    have h2 := dpt_mergeL r h.2
    have h3 := dpt_cat _ _ (ok_mergeN x h.1) (ok_mergeL r h.2)
    show dptL (cat (mergeN x) (mergeL r)) ≤ max (dptN x) (dptL r)
    omega
end
mutual
theorem len_brksN : ∀ x : Nd, okN x → lenL H (brksN x) ≤ lenN H x
  | .mk k t n ps, h => by
    have ih := len_brksL ps h.2.2
    unfold brksN
    rw [lenL_append]
    split
    · rename_i hb
      rw [h.2.1 hb]; simp [lenL, brksL]
    · by_cases hk : k = 1
      · rw [(h.1 hk).2]; simp [lenL, brksL]
      · simp only [lenL, lenN, if_neg hk]; omega
theorem len_brksL : ∀ l : List Nd, okL l → lenL H (brksL l) ≤ lenL H l
  | [], _ => Nat.le_refl _
  | x :: r, h => by
    have h1 := len_brksN x h.1
    have h2 := len_brksL r h.2
    show lenL H (brksN x ++ brksL r) ≤ lenN H x + lenL H r
    rw [lenL_append]; omega
end
mutual
theorem len_advN (a : Int) : ∀ x : Nd, okN x → lenL H (advN a x) ≤ lenN H x
  | .mk k t n ps, h => by
    have ih := len_advL a ps h.2.2
    have ib := len_brksL (H := H) ps h.2.2
    unfold advN
    by_cases hk : k = 1
    · have hc : ¬ (k = 8 ∨ k = 9) := by omega
      rw [if_neg hc, (h.1 hk).2]
      simp [lenL]
    · have e : lenN H (.mk k t n ps) = H k t n + lenL H ps := by unfold lenN; rw [if_neg hk]
      rw [e]
      repeat' split
      all_goals first
        | omega
        | (simp only [lenL, lenN, if_neg hk]; omega)
        | (simp only [lenL]; omega)
theorem len_advL (a : Int) : ∀ l : List Nd, okL l → lenL H (advL a l) ≤ lenL H l
  | [], _ => Nat.le_refl _
  | x :: r, h => by
    have h1 := len_advN a x h.1
    have h2 := len_advL a r h.2
    show lenL H (advN a x ++ advL a r) ≤ lenN H x + lenL H r
    rw [lenL_append]; omega
end
theorem len_cat : ∀ (x : Nd) (r : List Nd), okN x → okL r → lenL H (cat x r) = lenN H x + lenL H r
  | .mk k t n ps, r, h, hr => by
    by_cases hk : k = 1
    · have ht := (h.1 hk).1
      cases r with
      | nil => rw [cat_end hk ht]; simp [lenL]
      | cons y r =>
        obtain ⟨k', t', n', ps'⟩ := y
        by_cases hk' : k' = 1
        · rw [cat_text hk hk' ht]; simp only [lenL, lenN, if_pos hk, if_pos hk', ByteArray.size_append]; omega
        · rw [cat_edge hk hk' ht]; simp only [lenL]
    · rw [cat_other hk]; simp [lenL]
mutual
theorem len_mergeN : ∀ x : Nd, okN x → lenN H (mergeN x) = lenN H x
  | .mk k t n ps, h => by
    have ih := len_mergeL ps h.2.2
    unfold mergeN lenN
    rw [ih]
theorem len_mergeL : ∀ l : List Nd, okL l → lenL H (mergeL l) = lenL H l
  | [], _ => rfl
  | x :: r, h => by
    have h1 := len_mergeN x h.1
    have h2 := len_mergeL r h.2
    have h3 := len_cat (H := H) _ _ (ok_mergeN x h.1) (ok_mergeL r h.2)
    show lenL H (cat (mergeN x) (mergeL r)) = lenN H x + lenL H r
    omega
end
/-- What Check accepts. -/
def validL (C Wd Nm : ByteArray → Prop) (H : Int → ByteArray → Int → Nat) (l : List Nd) : Prop := fitL C Wd Nm false l ∧ ordL l ∧ cntL l ≤ 4096 ∧ dptL l ≤ 16 ∧ lenL H l ≤ 65536
theorem valid_adv (hC : ∀ a b, C a → C b → C (a ++ b)) {l : List Nd} (h : validL C Wd Nm H l) (a : Int) : validL C Wd Nm H (mergeL (advL a l)) := by
  have o := fit_okL _ _ h.1
  have oa := ok_advL a l o
  refine ⟨fit_mergeL hC _ _ (fit_advL a l _ h.1), ord_mergeL _ oa, ?_, ?_, ?_⟩
  · have := cnt_mergeL _ oa
    have := cnt_advL a l o
    have := h.2.2.1
    omega
  · have := dpt_mergeL _ oa
    have := dpt_advL a l o
    have := h.2.2.2.1
    omega
  · have := len_mergeL (H := H) _ oa
    have := len_advL (H := H) a l o
    have := h.2.2.2.2
    omega
/-- The states of the later hands, and the last one. -/
theorem steps_law {l : List Nd} (h : validL C Wd Nm H l) {a k : Int} (hak : a ≤ k) : mergeL (resL k (mergeL (advL a l))) = mergeL (resL k l) := by
  have o := fit_okL _ _ h.1
  rw [merge_res k (ok_advL a l o), res_advL hak l o]
theorem last_law {l : List Nd} (h : validL C Wd Nm H l) : mergeL (advL 8 l) = mergeL (resL 8 l) := by rw [adv_resL l (fit_numL _ _ h.1)]
end
end Go.Proofs.YtbjanlmnmeegnaaDoor
