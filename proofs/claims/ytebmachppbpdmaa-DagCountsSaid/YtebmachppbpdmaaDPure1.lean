/- Plain lists: folding numbers over the links of an acyclic graph. No program. -/
import Derived.Test.YtebmachppbpdmaaDBase
namespace Go.Proofs.Ytebmachppbpdmaa

abbrev lk0 : Lk := (0, 0, 0)
/-- Link i. -/
def lkAt (ll : List Lk) (i : Nat) : Lk := ll[i]?.getD lk0
/-- The indices below k of the links that leave s. -/
def idxTo (ll : List Lk) (s : Nat) (k : Nat) : List Nat := (List.range k).filter fun i => decide ((lkAt ll i).1 = (s : Int))
def idx (ll : List Lk) (s : Nat) : List Nat := idxTo ll s ll.length
theorem idxTo_zero (ll : List Lk) (s : Nat) : idxTo ll s 0 = [] := rfl
theorem idxTo_yes {ll : List Lk} {s k : Nat} (h : (lkAt ll k).1 = (s : Int)) : idxTo ll s (k + 1) = idxTo ll s k ++ [k] := by
  simp [idxTo, List.range_succ, h]
theorem idxTo_no {ll : List Lk} {s k : Nat} (h : (lkAt ll k).1 ≠ (s : Int)) : idxTo ll s (k + 1) = idxTo ll s k := by
  simp [idxTo, List.range_succ, h]
theorem mem_idxTo {ll : List Lk} {s k i : Nat} : i ∈ idxTo ll s k ↔ i < k ∧ (lkAt ll i).1 = (s : Int) := by simp [idxTo]
theorem mem_idx {ll : List Lk} {s i : Nat} : i ∈ idx ll s ↔ i < ll.length ∧ (lkAt ll i).1 = (s : Int) := mem_idxTo
theorem idxTo_length (ll : List Lk) (s k : Nat) : (idxTo ll s k).length ≤ k := by
  have := List.length_filter_le (fun i => decide ((lkAt ll i).1 = (s : Int))) (List.range k)
  simpa [idxTo] using this

/-- Every link leads upwards, within n nodes, at a cost that is not too great. -/
def Valid (n : Nat) (ll : List Lk) : Prop := ∀ i, i < ll.length → ∃ f t : Nat, (lkAt ll i).1 = (f : Int) ∧ (lkAt ll i).2.1 = (t : Int) ∧ f < t ∧ t < n ∧ 0 ≤ (lkAt ll i).2.2 ∧ (lkAt ll i).2.2 ≤ 1073741824
/-- Where link i leads, and what it costs. -/
def dst (ll : List Lk) (i : Nat) : Nat := (lkAt ll i).2.1.toNat
def cst (ll : List Lk) (i : Nat) : Int := (lkAt ll i).2.2
theorem Valid.of_chkL {n : Nat} : ∀ {ll : List Lk}, chkL n ll = 0 → Valid n ll
  | [], _ => fun i hi => by simp at hi
  | x :: r, h => by
    simp only [chkL] at h
    split at h
    · cases h
    · rename_i hb
      split at h
      · cases h
      · rename_i ho
        have ih := Valid.of_chkL h
        intro i hi
        cases i with
        | zero =>
          unfold badL at hb
          refine ⟨x.1.toNat, x.2.1.toNat, ?_⟩
          simp only [lkAt, List.getElem?_cons_zero, Option.getD_some]
          omega
        | succ i =>
          obtain ⟨f, t, h1⟩ := ih i (by simpa using hi)
          exact ⟨f, t, by simpa [lkAt] using h1⟩
theorem Valid.to_chkL {n : Nat} : ∀ {ll : List Lk}, Valid n ll → chkL n ll = 0
  | [], _ => rfl
  | x :: r, h => by
    obtain ⟨f, t, h1, h2, h3, h4, h5, h6⟩ := h 0 (by simp)
    simp only [lkAt, List.getElem?_cons_zero, Option.getD_some] at h1 h2 h5 h6
    rw [chkL, if_neg (by unfold badL; omega), if_neg (by omega)]
    exact Valid.to_chkL (fun i hi => by
      obtain ⟨f, t, h⟩ := h (i + 1) (by simpa using hi)
      exact ⟨f, t, by simpa [lkAt] using h⟩)
theorem Valid.of_chk {n : Int} {ll : List Lk} (h : chkE n ll = 0) : ∃ k : Nat, n = (k : Int) ∧ 1 ≤ k ∧ k ≤ 4096 ∧ ll.length ≤ 65536 ∧ Valid k ll := by
  unfold chkE at h
  split at h
  · cases h
  · rename_i h1
    split at h
    · cases h
    · rename_i h2
      obtain ⟨k, rfl⟩ := Int.eq_ofNat_of_zero_le (show 0 ≤ n by omega)
      exact ⟨k, rfl, by omega, by omega, by omega, Valid.of_chkL h⟩
theorem Valid.dst_lt {n : Nat} {ll : List Lk} (h : Valid n ll) {i : Nat} (hi : i < ll.length) : dst ll i < n := by
  obtain ⟨f, t, _, h2, _, h4, _⟩ := h i hi
  simp only [dst, h2, Int.toNat_natCast]; exact h4
theorem Valid.dst_gt {n : Nat} {ll : List Lk} (h : Valid n ll) {i s : Nat} (hi : i ∈ idx ll s) : s < dst ll i := by
  obtain ⟨h0, h1⟩ := mem_idx.1 hi
  obtain ⟨f, t, e1, h2, h3, _⟩ := h i h0
  simp only [dst, h2, Int.toNat_natCast]; omega
theorem Valid.dst_eq {n : Nat} {ll : List Lk} (h : Valid n ll) {i : Nat} (hi : i < ll.length) : (lkAt ll i).2.1 = (dst ll i : Int) := by
  obtain ⟨f, t, _, h2, _⟩ := h i hi
  simp only [dst, h2, Int.toNat_natCast]
theorem Valid.cst_ge {n : Nat} {ll : List Lk} (h : Valid n ll) {i : Nat} (hi : i < ll.length) : 0 ≤ cst ll i ∧ cst ll i ≤ 1073741824 := by
  obtain ⟨f, t, _, _, _, _, h5, h6⟩ := h i hi
  exact ⟨h5, h6⟩

/-- One link more. -/
def fstep (wth : Int → Int → Int → Int) (ll : List Lk) (out : List Int) (sum : Int) (i : Nat) : Int :=
  if 0 ≤ out[dst ll i]?.getD 0 then wth sum (cst ll i) (out[dst ll i]?.getD 0) else sum
/-- What is folded over the links that leave s, the first k of all. -/
def frowTo (wth : Int → Int → Int → Int) (ll : List Lk) (out : List Int) (s k : Nat) : Int := (idxTo ll s k).foldl (fstep wth ll out) (-1)
def frow (wth : Int → Int → Int → Int) (ll : List Lk) (out : List Int) (s : Nat) : Int := frowTo wth ll out s ll.length
/-- The numbers behind k nodes. -/
def foldTo (wth : Int → Int → Int → Int) (ll : List Lk) (n t : Nat) (first : Int) : Nat → List Int
  | 0 => (List.replicate n (-1)).set t first
  | k + 1 => (foldTo wth ll n t first k).set (t - 1 - k) (frow wth ll (foldTo wth ll n t first k) (t - 1 - k))
def foldL (wth : Int → Int → Int → Int) (ll : List Lk) (n t : Nat) (first : Int) : List Int := foldTo wth ll n t first t
theorem foldTo_length {wth : Int → Int → Int → Int} {ll : List Lk} {n t : Nat} {first : Int} : ∀ k, (foldTo wth ll n t first k).length = n
  | 0 => by simp [foldTo]
  | k + 1 => by simp [foldTo, foldTo_length k]

theorem frowTo_zero {wth : Int → Int → Int → Int} {ll : List Lk} {out : List Int} {s : Nat} : frowTo wth ll out s 0 = -1 := rfl
theorem frowTo_yes {wth : Int → Int → Int → Int} {ll : List Lk} {out : List Int} {s k : Nat} (h : (lkAt ll k).1 = (s : Int)) : frowTo wth ll out s (k + 1) = fstep wth ll out (frowTo wth ll out s k) k := by
  rw [frowTo, idxTo_yes h, List.foldl_append]; rfl
theorem frowTo_no {wth : Int → Int → Int → Int} {ll : List Lk} {out : List Int} {s k : Nat} (h : (lkAt ll k).1 ≠ (s : Int)) : frowTo wth ll out s (k + 1) = frowTo wth ll out s k := by
  rw [frowTo, idxTo_no h]; rfl

theorem foldl_congr {α β : Type} {f g : β → α → β} : ∀ (l : List α) (b : β), (∀ x ∈ l, ∀ b, f b x = g b x) → l.foldl f b = l.foldl g b
  | [], _, _ => rfl
  | x :: l, b, h => by
    rw [List.foldl_cons, List.foldl_cons, h x (by simp), foldl_congr l _ (fun y hy => h y (by simp [hy]))]
/-- Only the numbers of nodes that follow matter. -/
theorem frow_congr {wth : Int → Int → Int → Int} {n : Nat} {ll : List Lk} (hv : Valid n ll) {out out' : List Int} {s : Nat} (h : ∀ j, s < j → j < n → out[j]?.getD 0 = out'[j]?.getD 0) : frow wth ll out s = frow wth ll out' s := by
  refine foldl_congr _ _ fun i hi b => ?_
  have h1 := hv.dst_gt hi
  have h2 := hv.dst_lt (mem_idx.1 hi).1
  simp only [fstep, h _ h1 h2]

/-- What the numbers are. -/
structure FoldOk (wth : Int → Int → Int → Int) (ll : List Lk) (n t : Nat) (first : Int) (out : List Int) : Prop where
  len : out.length = n
  at_ : out[t]?.getD 0 = first
  above : ∀ s, t < s → s < n → out[s]?.getD 0 = -1
  row : ∀ s, s < t → out[s]?.getD 0 = frow wth ll out s
theorem foldTo_ok {wth : Int → Int → Int → Int} {n : Nat} {ll : List Lk} (hv : Valid n ll) {t : Nat} (ht : t < n) {first : Int} : ∀ k, k ≤ t →
    (foldTo wth ll n t first k)[t]?.getD 0 = first ∧ (∀ s, t < s → s < n → (foldTo wth ll n t first k)[s]?.getD 0 = -1) ∧ (∀ s, s < t - k → (foldTo wth ll n t first k)[s]?.getD 0 = -1) ∧
    ∀ s, t - k ≤ s → s < t → (foldTo wth ll n t first k)[s]?.getD 0 = frow wth ll (foldTo wth ll n t first k) s
  | 0, _ => by
    refine ⟨by rw [foldTo, List.getElem?_set_self (by simpa using ht)]; rfl, fun s h1 h2 => ?_, fun s h1 => ?_, fun s h1 h2 => by omega⟩
    · rw [foldTo, List.getElem?_set_ne (by omega)]; simp [h2]
    · rw [foldTo, List.getElem?_set_ne (by omega)]; simp [show s < n by omega]
  | k + 1, hk => by
    obtain ⟨h1, h2, h3, h4⟩ := foldTo_ok hv ht (first := first) k (by omega)
    have hl : (foldTo wth ll n t first k).length = n := foldTo_length k
    have hne : ∀ j, j ≠ t - 1 - k → (foldTo wth ll n t first (k + 1))[j]?.getD 0 = (foldTo wth ll n t first k)[j]?.getD 0 := fun j hj => by
      rw [foldTo, List.getElem?_set_ne (Ne.symm hj)]
    have hat : (foldTo wth ll n t first (k + 1))[t - 1 - k]?.getD 0 = frow wth ll (foldTo wth ll n t first k) (t - 1 - k) := by
      rw [foldTo, List.getElem?_set_self (by omega)]; rfl
    have hrow : ∀ s, t - 1 - k ≤ s → frow wth ll (foldTo wth ll n t first (k + 1)) s = frow wth ll (foldTo wth ll n t first k) s := fun s hs => frow_congr hv fun j h1 _ => hne j (by omega)
    refine ⟨by rw [hne t (by omega)]; exact h1, fun s a b => by rw [hne s (by omega)]; exact h2 s a b, fun s a => by rw [hne s (by omega)]; exact h3 s (by omega), fun s a b => ?_⟩
    rw [hrow s (by omega)]
    by_cases e : s = t - 1 - k
    · rw [e]; exact hat
    · rw [hne s e]; exact h4 s (by omega) b
theorem foldL_ok {wth : Int → Int → Int → Int} {n : Nat} {ll : List Lk} (hv : Valid n ll) {t : Nat} (ht : t < n) {first : Int} : FoldOk wth ll n t first (foldL wth ll n t first) := by
  obtain ⟨h1, h2, _, h4⟩ := foldTo_ok hv ht (wth := wth) (first := first) t (Nat.le_refl _)
  exact ⟨foldTo_length t, h1, h2, fun s hs => h4 s (by omega) hs⟩

/-- A way to fold keeps the numbers small. -/
def Tame (wth : Int → Int → Int → Int) : Prop := ∀ sum c nx M : Int, -1 ≤ sum → 0 ≤ c → 0 ≤ nx → sum ≤ M → c + nx ≤ M → 1073741824 ≤ M → -1 ≤ wth sum c nx ∧ wth sum c nx ≤ M
def potW (sum c nx : Int) : Int := if sum < 0 then c + nx else min sum (c + nx)
def longW (sum c nx : Int) : Int := max sum (c + nx)
def cntW (sum _c nx : Int) : Int := min 1073741824 (max sum 0 + nx)
theorem potW_tame : Tame potW := by intro sum c nx M h1 h2 h3 h4 h5 h6; unfold potW; split <;> omega
theorem longW_tame : Tame longW := by intro sum c nx M h1 h2 h3 h4 h5 h6; unfold longW; omega
theorem cntW_tame : Tame cntW := by intro sum c nx M h1 h2 h3 h4 h5 h6; unfold cntW; omega
/-- All numbers of a list lie between. -/
def Within (out : List Int) (M : Int) : Prop := ∀ j : Nat, -1 ≤ out[j]?.getD 0 ∧ out[j]?.getD 0 ≤ M
theorem frow_within {wth : Int → Int → Int → Int} (hw : Tame wth) {n : Nat} {ll : List Lk} (hv : Valid n ll) {out : List Int} {M : Int} (hM : 0 ≤ M) (h : Within out M) (l : List Nat) (hl : ∀ i ∈ l, i < ll.length) (b : Int) (hb : -1 ≤ b ∧ b ≤ M + 1073741824) :
    -1 ≤ l.foldl (fstep wth ll out) b ∧ l.foldl (fstep wth ll out) b ≤ M + 1073741824 := by
  induction l generalizing b with
  | nil => exact hb
  | cons i l ih =>
    rw [List.foldl_cons]
    refine ih (fun j hj => hl j (by simp [hj])) _ ?_
    have hc := hv.cst_ge (hl i (by simp))
    have hd := h (dst ll i)
    unfold fstep
    split
    · rename_i h0
      exact hw _ _ _ _ hb.1 hc.1 h0 hb.2 (by omega) (by omega)
    · exact hb
theorem foldTo_within {wth : Int → Int → Int → Int} (hw : Tame wth) {n : Nat} {ll : List Lk} (hv : Valid n ll) {t : Nat} (ht : t < n) {first : Int} (h0 : -1 ≤ first ∧ first ≤ 1) : ∀ k, k ≤ t → Within (foldTo wth ll n t first k) ((k : Int) * 1073741824 + 1)
  | 0, _ => fun j => by
    by_cases e : j = t
    · subst e; rw [foldTo, List.getElem?_set_self (by simpa using ht)]; simp; omega
    · rw [foldTo, List.getElem?_set_ne (Ne.symm e)]
      by_cases hj : j < n
      · simp [hj]
      · rw [List.getElem?_eq_none (by simp; omega)]; simp
  | k + 1, hk => fun j => by
    have ih := foldTo_within hw hv ht h0 k (by omega)
    have hl : (foldTo wth ll n t first k).length = n := foldTo_length k
    have hM : (0 : Int) ≤ (k : Int) * 1073741824 + 1 := by omega
    by_cases e : j = t - 1 - k
    · subst e
      rw [foldTo, List.getElem?_set_self (by omega)]
      have := frow_within hw hv hM ih (idx ll (t - 1 - k)) (fun i hi => (mem_idx.1 hi).1) (-1) ⟨by omega, by omega⟩
      have e2 : frow wth ll (foldTo wth ll n t first k) (t - 1 - k) = (idx ll (t - 1 - k)).foldl (fstep wth ll (foldTo wth ll n t first k)) (-1) := rfl
      rw [← e2] at this
      simp only [Option.getD_some]
      omega
    · rw [foldTo, List.getElem?_set_ne (Ne.symm e)]
      have := ih j
      omega
end Go.Proofs.Ytebmachppbpdmaa
