/- Plain lists: the sums of weights of increasing subsequences. No program. -/
import Derived.Test.YtdkokpehcmcnpaaPure1
namespace Go.Proofs.Ytdkokpehcmcnpaa

/-- The greatest of 0 and S at those of the c indices behind i whose elements are greater than that at i. -/
def aft (l S : List Int) (i : Nat) : Nat → Int
  | 0 => 0
  | c + 1 => if l[i]?.getD 0 < l[i + 1 + c]?.getD 0 then max (aft l S i c) (S[i + 1 + c]?.getD 0) else aft l S i c

theorem aft_yes {l S : List Int} {i c : Nat} (h : l[i]?.getD 0 < l[i + 1 + c]?.getD 0) : aft l S i (c + 1) = max (aft l S i c) (S[i + 1 + c]?.getD 0) := if_pos h
theorem aft_no {l S : List Int} {i c : Nat} (h : ¬ l[i]?.getD 0 < l[i + 1 + c]?.getD 0) : aft l S i (c + 1) = aft l S i c := if_neg h

theorem aft_congr {l S S' : List Int} {i : Nat} : ∀ c, (∀ j, i < j → j ≤ i + c → S[j]?.getD 0 = S'[j]?.getD 0) → aft l S i c = aft l S' i c
  | 0, _ => rfl
  | c + 1, h => by
    have ih := aft_congr (l := l) c (fun j h1 h2 => h j h1 (by omega))
    simp only [aft, ih, h (i + 1 + c) (by omega) (by omega)]

theorem aft_nonneg {l S : List Int} {i : Nat} : ∀ c, 0 ≤ aft l S i c
  | 0 => Int.le_refl _
  | c + 1 => by
    have := aft_nonneg (l := l) (S := S) (i := i) c
    simp only [aft]
    split
    · exact Int.le_trans this (Int.le_max_left _ _)
    · exact this
theorem aft_le {l S : List Int} {i : Nat} {M : Int} (hM : 0 ≤ M) : ∀ c, (∀ j, i < j → j ≤ i + c → S[j]?.getD 0 ≤ M) → aft l S i c ≤ M
  | 0, _ => hM
  | c + 1, h => by
    have := aft_le (l := l) hM c (fun j h1 h2 => h j h1 (by omega))
    have h2 := h (i + 1 + c) (by omega) (by omega)
    simp only [aft]
    split
    · exact Int.max_le.2 ⟨this, h2⟩
    · exact this

/-- From index m on, S holds the greatest weights of what begins there. -/
def SumsFrom (l wt S : List Int) (m : Nat) : Prop :=
  S.length = l.length ∧ ∀ j, m ≤ j → j < l.length → S[j]?.getD 0 = wt[j]?.getD 0 + aft l S j (l.length - 1 - j)

theorem SumsFrom.bounds {l wt S : List Int} {m : Nat} (h : SumsFrom l wt S m) {W : Int} (hW : ∀ j, j < l.length → 0 ≤ wt[j]?.getD 0 ∧ wt[j]?.getD 0 ≤ W) (hW0 : 0 ≤ W) :
    ∀ d j, l.length - j = d → m ≤ j → j < l.length → 0 ≤ S[j]?.getD 0 ∧ S[j]?.getD 0 ≤ W * d := by
  intro d
  induction d using Nat.strongRecOn with
  | _ d ih =>
    intro j hd hm hj
    rw [h.2 j hm hj]
    obtain ⟨w0, w1⟩ := hW j hj
    have a0 := aft_nonneg (l := l) (S := S) (i := j) (l.length - 1 - j)
    have a1 : aft l S j (l.length - 1 - j) ≤ W * (d - 1 : Nat) := by
      refine aft_le (Int.mul_nonneg hW0 (by omega)) _ fun k h1 h2 => ?_
      refine Int.le_trans (ih (l.length - k) (by omega) k rfl (by omega) (by omega)).2 ?_
      exact Int.mul_le_mul_of_nonneg_left (by omega) hW0
    have e : W * (d : Int) = W + W * ((d - 1 : Nat) : Int) := by
      obtain ⟨d', rfl⟩ : ∃ d', d = d' + 1 := ⟨d - 1, by omega⟩
      simp [Int.mul_add]; omega
    rw [e]
    exact ⟨by omega, by omega⟩

theorem SumsFrom.set {l wt S : List Int} {m : Nat} (h : SumsFrom l wt S (m + 1)) (hm : m < l.length) {v : Int} (hv : v = wt[m]?.getD 0 + aft l S m (l.length - 1 - m)) :
    SumsFrom l wt (S.set m v) m := by
  refine ⟨by simp [h.1], fun j hj hj' => ?_⟩
  have hne : ∀ k, m < k → (S.set m v)[k]?.getD 0 = S[k]?.getD 0 := fun k hk => by rw [List.getElem?_set_ne (by omega)]
  rw [aft_congr (S' := S) (i := j) _ (fun k h1 _ => hne k (by omega))]
  by_cases e : j = m
  · subst e
    rw [List.getElem?_set_self (by rw [h.1]; exact hj')]
    exact hv
  · rw [hne j (by omega)]
    exact h.2 j (by omega) hj'

theorem SumsFrom.unique {l wt S S' : List Int} (h : SumsFrom l wt S 0) (h' : SumsFrom l wt S' 0) : S = S' := by
  have key : ∀ d j, l.length - j = d → j < l.length → S[j]?.getD 0 = S'[j]?.getD 0 := by
    intro d
    induction d using Nat.strongRecOn with
    | _ d ih =>
      intro j hd hj
      rw [h.2 j (by omega) hj, h'.2 j (by omega) hj, aft_congr _ (fun k h1 h2 => ih (l.length - k) (by omega) k rfl (by omega))]
  apply List.ext_getElem (by rw [h.1, h'.1])
  intro i a b
  have := key _ i rfl (by rw [← h.1]; exact a)
  simpa [List.getElem?_eq_getElem, a, b] using this

/-- The greatest of 0 and S from index m on. -/
def top (S : List Int) (m : Nat) : Int := (S.drop m).foldr max 0
theorem top_end {S : List Int} {m : Nat} (h : S.length ≤ m) : top S m = 0 := by simp [top, List.drop_eq_nil_of_le h]
theorem top_step {S : List Int} {m : Nat} (h : m < S.length) : top S m = max (S[m]?.getD 0) (top S (m + 1)) := by
  unfold top; rw [List.drop_eq_getElem_cons h, List.foldr_cons, List.getElem?_eq_getElem h]; rfl
theorem top_set {S : List Int} {m : Nat} {v : Int} : top (S.set m v) (m + 1) = top S (m + 1) := by
  unfold top; rw [List.drop_set_of_lt (by omega)]
theorem foldr_max_nonneg : ∀ S : List Int, 0 ≤ S.foldr max 0
  | [] => Int.le_refl _
  | _ :: S => Int.le_trans (foldr_max_nonneg S) (Int.le_max_right _ _)
theorem top_nonneg (S : List Int) (m : Nat) : 0 ≤ top S m := foldr_max_nonneg _
theorem foldr_max_le {M : Int} (hM : 0 ≤ M) : ∀ S : List Int, (∀ x ∈ S, x ≤ M) → S.foldr max 0 ≤ M
  | [], _ => hM
  | x :: S, h => Int.max_le.2 ⟨h x (by simp), foldr_max_le hM S (fun y hy => h y (by simp [hy]))⟩
theorem foldr_max_ge : ∀ (S : List Int) (x : Int), x ∈ S → x ≤ S.foldr max 0
  | y :: S, x, h => by
    rcases List.mem_cons.1 h with rfl | h
    · exact Int.le_max_left _ _
    · exact Int.le_trans (foldr_max_ge S x h) (Int.le_max_right _ _)
theorem foldr_max_mem : ∀ S : List Int, S.foldr max 0 = 0 ∨ S.foldr max 0 ∈ S
  | [] => .inl rfl
  | x :: S => by
    rcases foldr_max_mem S with h | h
    · simp only [List.foldr_cons, h]
      by_cases hx : x ≤ 0
      · left; exact Int.max_eq_right hx
      · right; rw [Int.max_eq_left (by omega)]; simp
    · simp only [List.foldr_cons]
      by_cases hx : x ≤ S.foldr max 0
      · right; rw [Int.max_eq_right hx]; simp [h]
      · right; rw [Int.max_eq_left (by omega)]; simp

/-- One step of the greedy choice: the indices chosen so far, and what is left of the weight. -/
def pick1 (l wt S : List Int) (st : List Int × Int) (i : Nat) : List Int × Int :=
  if 0 < st.2 ∧ S[i]?.getD 0 = st.2 ∧ (st.1 = [] ∨ l[(st.1.getLast?.getD 0).toNat]?.getD 0 < l[i]?.getD 0) then (st.1 ++ [(i : Int)], st.2 - wt[i]?.getD 0) else st
def picks (l wt S : List Int) (tot : Int) : Nat → List Int × Int
  | 0 => ([], tot)
  | i + 1 => pick1 l wt S (picks l wt S tot i) i

theorem picks_stop {l wt S : List Int} {tot : Int} {i : Nat} (h : (picks l wt S tot i).2 ≤ 0) : ∀ d, picks l wt S tot (i + d) = picks l wt S tot i
  | 0 => rfl
  | d + 1 => by
    have ih := picks_stop (l := l) (wt := wt) (S := S) (tot := tot) (i := i) h d
    show pick1 l wt S (picks l wt S tot (i + d)) (i + d) = _
    rw [ih, pick1, if_neg (by omega)]

/-- What the choice holds: indices, ascending, below i; what is left is not negative unless.. -/
theorem picks_mem {l wt S : List Int} {tot : Int} : ∀ i, ∀ x ∈ (picks l wt S tot i).1, 0 ≤ x ∧ x < i
  | 0, x, h => by simp [picks] at h
  | i + 1, x, h => by
    have ih := picks_mem (l := l) (wt := wt) (S := S) (tot := tot) i
    simp only [picks, pick1] at h
    split at h
    · rcases List.mem_append.1 h with h | h
      · have := ih x h; omega
      · simp at h; omega
    · have := ih x h; omega
theorem picks_length {l wt S : List Int} {tot : Int} : ∀ i, (picks l wt S tot i).1.length ≤ i
  | 0 => by simp [picks]
  | i + 1 => by
    have ih := picks_length (l := l) (wt := wt) (S := S) (tot := tot) i
    simp only [picks, pick1]
    split
    · simp; omega
    · omega
theorem picks_last {l wt S : List Int} {tot : Int} {i : Nat} (h : (picks l wt S tot i).1 ≠ []) :
    ∃ x : Nat, x < i ∧ (picks l wt S tot i).1[(picks l wt S tot i).1.length - 1]? = some (x : Int) ∧ (picks l wt S tot i).1.getLast? = some (x : Int) := by
  obtain ⟨y, hy⟩ : ∃ y, (picks l wt S tot i).1.getLast? = some y := ⟨_, List.getLast?_eq_some_getLast h⟩
  have hm := picks_mem (l := l) (wt := wt) (S := S) (tot := tot) i y (List.mem_of_getLast? hy)
  refine ⟨y.toNat, by omega, ?_, ?_⟩
  · rw [← List.getLast?_eq_getElem?, hy]; congr 1; omega
  · rw [hy]; congr 1; omega
theorem picks_yes {l wt S : List Int} {tot : Int} {i : Nat} (h0 : 0 < (picks l wt S tot i).2) (h1 : S[i]?.getD 0 = (picks l wt S tot i).2)
    (h2 : (picks l wt S tot i).1 = [] ∨ ∃ x : Nat, (picks l wt S tot i).1.getLast? = some (x : Int) ∧ l[x]?.getD 0 < l[i]?.getD 0) :
    picks l wt S tot (i + 1) = ((picks l wt S tot i).1 ++ [(i : Int)], (picks l wt S tot i).2 - wt[i]?.getD 0) := by
  show pick1 _ _ _ _ _ = _
  rw [pick1, if_pos]
  refine ⟨h0, h1, ?_⟩
  rcases h2 with h | ⟨x, e, h⟩
  · exact .inl h
  · right; rw [e]; simpa using h
theorem picks_no1 {l wt S : List Int} {tot : Int} {i : Nat} (h1 : ¬ S[i]?.getD 0 = (picks l wt S tot i).2) : picks l wt S tot (i + 1) = picks l wt S tot i := by
  show pick1 _ _ _ _ _ = _
  rw [pick1, if_neg (fun h => h1 h.2.1)]
theorem picks_no2 {l wt S : List Int} {tot : Int} {i : Nat} {x : Nat} (e : (picks l wt S tot i).1.getLast? = some (x : Int)) (h : ¬ l[x]?.getD 0 < l[i]?.getD 0) : picks l wt S tot (i + 1) = picks l wt S tot i := by
  show pick1 _ _ _ _ _ = _
  rw [pick1, if_neg]
  rintro ⟨_, _, h1 | h1⟩
  · rw [h1] at e; cases e
  · rw [e] at h1; exact h (by simpa using h1)

theorem picks_le {l wt S : List Int} {tot : Int} (hw : ∀ j : Nat, 0 ≤ wt[j]?.getD 0) : ∀ i, (picks l wt S tot i).2 ≤ tot
  | 0 => Int.le_refl _
  | i + 1 => by
    have ih := picks_le (l := l) (S := S) (tot := tot) hw i
    have := hw i
    simp only [picks, pick1]
    split <;> omega

/-- The weights lie between 0 and 1048576. -/
def Light (wt : List Int) (n : Nat) : Prop := wt.length = n ∧ ∀ j : Nat, 0 ≤ wt[j]?.getD 0 ∧ wt[j]?.getD 0 ≤ 1048576
theorem SumsFrom.light {l wt S : List Int} {m n : Nat} (h : SumsFrom l wt S m) (hw : Light wt n) (hn : l.length ≤ 1024) : ∀ j, m ≤ j → j < l.length → 0 ≤ S[j]?.getD 0 ∧ S[j]?.getD 0 ≤ 1073741824 := by
  intro j h1 h2
  have := h.bounds (W := 1048576) (fun j _ => hw.2 j) (by omega) _ j rfl h1 h2
  omega
theorem SumsFrom.aft_le {l wt S : List Int} {m n : Nat} (h : SumsFrom l wt S (m + 1)) (hw : Light wt n) (hn : l.length ≤ 1024) : aft l S m (l.length - 1 - m) ≤ 1073741824 :=
  Go.Proofs.Ytdkokpehcmcnpaa.aft_le (by omega) _ fun k h1 h2 => (h.light hw hn k (by omega) (by omega)).2
theorem SumsFrom.top_le {l wt S : List Int} {n : Nat} (h : SumsFrom l wt S 0) (hw : Light wt n) (hn : l.length ≤ 1024) : top S 0 ≤ 1073741824 := by
  refine foldr_max_le (by omega) _ fun x hx => ?_
  rw [List.drop_zero] at hx
  obtain ⟨j, hj, rfl⟩ := List.getElem_of_mem hx
  have := (h.light hw hn j (by omega) (by rw [← h.1]; exact hj)).2
  simpa [List.getElem?_eq_getElem hj] using this
theorem sums_step {l wt S : List Int} {j : Nat} (h : SumsFrom l wt S (j + 1)) (hj : j < l.length) :
    SumsFrom l wt (S.set j (wt[j]?.getD 0 + aft l S j (l.length - 1 - j))) j ∧ top (S.set j (wt[j]?.getD 0 + aft l S j (l.length - 1 - j))) j = max (top S (j + 1)) (wt[j]?.getD 0 + aft l S j (l.length - 1 - j)) := by
  refine ⟨h.set hj rfl, ?_⟩
  have hj' : j < S.length := by rw [h.1]; exact hj
  rw [top_step (by simpa using hj'), top_set, List.getElem?_set_self hj', Int.max_comm]
  rfl

/-- The sums, computed from the end of the list. -/
def sumsGo (l wt : List Int) : Nat → List Int → List Int
  | 0, S => S
  | m + 1, S => sumsGo l wt m (S.set m (wt[m]?.getD 0 + aft l S m (l.length - 1 - m)))
def sums (l wt : List Int) : List Int := sumsGo l wt l.length (List.replicate l.length 0)
theorem sumsGo_spec {l wt : List Int} : ∀ m S, m ≤ l.length → SumsFrom l wt S m → SumsFrom l wt (sumsGo l wt m S) 0
  | 0, _, _, h => h
  | m + 1, _, hm, h => sumsGo_spec m _ (by omega) (h.set (by omega) rfl)
theorem sums_spec (l wt : List Int) : SumsFrom l wt (sums l wt) 0 :=
  sumsGo_spec _ _ (Nat.le_refl _) ⟨by simp, fun j h1 h2 => by omega⟩
/-- The first of the heaviest increasing subsequences, as the program chooses it; its weight. -/
def heavy (l wt : List Int) : List Int := (picks l wt (sums l wt) (top (sums l wt) 0) l.length).1
def weight (l wt : List Int) : Int := top (sums l wt) 0
def ones (l : List Int) : List Int := List.replicate l.length 1
def lis (l : List Int) : List Int := heavy l (ones l)
theorem ones_light (l : List Int) : Light (ones l) l.length := by
  refine ⟨by simp [ones], fun j => ?_⟩
  by_cases h : j < l.length <;> simp [ones, h]
theorem ones_at (l : List Int) (j : Nat) (h : j < l.length) : 1 = (ones l)[j]?.getD 0 := by simp [ones, h]
theorem heavy_mem (l wt : List Int) : ∀ x ∈ heavy l wt, 0 ≤ x ∧ x < l.length := picks_mem _
theorem heavy_length (l wt : List Int) : (heavy l wt).length ≤ l.length := picks_length _
theorem heavy_i64 (l wt : List Int) (h : l.length ≤ 1073741824) : ∀ x ∈ heavy l wt, I64 x := fun x hx => by
  have := heavy_mem l wt x hx
  exact I64.small (by omega) (by omega)
end Go.Proofs.Ytdkokpehcmcnpaa
