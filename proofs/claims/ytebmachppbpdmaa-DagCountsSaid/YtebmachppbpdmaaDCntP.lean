/- Plain lists: as many paths as are counted, and where there are some. No program. -/
import Derived.Test.YtebmachppbpdmaaDPathP
import Derived.Test.YtebmachppbpdmaaDReach
namespace Go.Proofs.Ytebmachppbpdmaa

def sumL (ll : List Lk) (n t : Nat) (l : List Nat) : Int := (l.map fun i => ((pathsL ll n (dst ll i) t).length : Int)).sum
theorem sumL_nil (ll : List Lk) (n t : Nat) : sumL ll n t [] = 0 := rfl
theorem sumL_cons (ll : List Lk) (n t i : Nat) (l : List Nat) : sumL ll n t (i :: l) = ((pathsL ll n (dst ll i) t).length : Int) + sumL ll n t l := by simp [sumL]
theorem sumL_append (ll : List Lk) (n t : Nat) (l m : List Nat) : sumL ll n t (l ++ m) = sumL ll n t l + sumL ll n t m := by simp [sumL]
theorem sumL_ge (ll : List Lk) (n t : Nat) : ∀ l, 0 ≤ sumL ll n t l
  | [] => by simp [sumL]
  | i :: l => by have := sumL_ge ll n t l; rw [sumL_cons]; omega
theorem length_flat (ll : List Lk) (n t : Nat) : ∀ l : List Nat, ((l.flatMap fun i => (pathsL ll n (dst ll i) t).map ((i : Int) :: ·)).length : Int) = sumL ll n t l
  | [] => rfl
  | i :: l => by
    have := length_flat ll n t l
    rw [List.flatMap_cons, List.length_append, List.length_map, sumL_cons]; omega
theorem pathsL_sum {ll : List Lk} {n : Nat} (hv : Valid n ll) {s t : Nat} (hs : s < n) (hst : s ≠ t) : ((pathsL ll n s t).length : Int) = sumL ll n t (idx ll s) := by
  rw [pathsL_next hv hs hst]; exact length_flat ll n t _
theorem pathsL_small {ll : List Lk} {n : Nat} (hv : Valid n ll) (hm : ll.length ≤ 14) (s t : Nat) : (pathsL ll n s t).length ≤ 16384 := pathsF_small hv hm t n s
theorem cnt_len {ll : List Lk} {n t : Nat} (hv : Valid n ll) (hm : ll.length ≤ 14) {out : List Int} (h : FoldOk cntW ll n t 1 out) (hge : ∀ j : Nat, -1 ≤ out[j]?.getD 0) : ∀ d s, n - s ≤ d → s < n → max 0 (out[s]?.getD 0) = ((pathsL ll n s t).length : Int)
  | 0, s, h1, h2 => by omega
  | d + 1, s, h1, h2 => by
    by_cases hst : s = t
    · subst hst
      rw [h.at_, pathsL_self]; rfl
    · rw [h.row_all hv h2 hst, pathsL_sum hv h2 hst]
      have hsm := pathsL_small hv hm s t
      have hsum := pathsL_sum hv h2 hst
      have key : ∀ (l : List Nat) (b : Int), (∀ i ∈ l, i ∈ idx ll s) → -1 ≤ b → max 0 b + sumL ll n t l ≤ 1073741824 → max 0 (l.foldl (fstep cntW ll out) b) = max 0 b + sumL ll n t l := by
        intro l
        induction l with
        | nil => intro b _ _ _; rw [sumL_nil]; simp
        | cons i l ih =>
          intro b hl hb hle
          have hi := hl i (by simp)
          have g1 := hv.dst_gt hi
          have g2 := hv.dst_lt (mem_idx.1 hi).1
          have e := cnt_len hv hm h hge d (dst ll i) (by omega) g2
          have hg := hge (dst ll i)
          have hs0 := sumL_ge ll n t l
          rw [sumL_cons] at hle ⊢
          rw [List.foldl_cons]
          have hst : fstep cntW ll out b i = if 0 ≤ out[dst ll i]?.getD 0 then cntW b (cst ll i) (out[dst ll i]?.getD 0) else b := rfl
          generalize out[dst ll i]?.getD 0 = v at hst e hg
          generalize fstep cntW ll out b i = z at *
          by_cases hv0 : 0 ≤ v
          · rw [if_pos hv0] at hst
            unfold cntW at hst
            rw [ih z (fun j hj => hl j (by simp [hj])) (by omega) (by omega)]
            omega
          · rw [if_neg hv0] at hst
            rw [ih z (fun j hj => hl j (by simp [hj])) (by omega) (by omega)]
            omega
      have := key (idx ll s) (-1) (fun i hi => hi) (by omega) (by omega)
      rw [show frow cntW ll out s = (idx ll s).foldl (fstep cntW ll out) (-1) from rfl, this]; omega
theorem cntN_len {k : Nat} {ll : List Lk} (hf : fineB k ll = true) {u b : Nat} (hu : u < k) (hb : b < k) : cntN k ll u b = ((pathsL ll k u b).length : Int) := by
  obtain ⟨k', e, _, hk8, hm, hv, hc⟩ := fineB_ok hf
  obtain rfl : k = k' := by omega
  rw [cntN, if_pos (chk2_of hc hu hb), Int.toNat_natCast, Int.toNat_natCast, Int.toNat_natCast]
  exact cnt_len hv hm (foldL_ok hv hb) (fun j => (fold_small cntW_tame hv (by omega) hb ⟨by omega, by omega⟩ j).1) (k - u) u (by omega) hu
theorem pathsL_above {ll : List Lk} {n : Nat} (hv : Valid n ll) : ∀ (d s t : Nat), n - s ≤ d → s < n → t < s → pathsL ll n s t = []
  | 0, s, t, h1, h2, _ => by omega
  | d + 1, s, t, h1, h2, h3 => by
    rw [pathsL_next hv h2 (by omega)]
    refine List.flatMap_eq_nil_iff.2 fun i hi => ?_
    have g1 := hv.dst_gt hi
    have g2 := hv.dst_lt (mem_idx.1 hi).1
    rw [pathsL_above hv d _ t (by omega) g2 (by omega)]; rfl

/-- What the loop of DagCounts has summed up. -/
def cntTo (ll : List Lk) (n u b j : Nat) : Int := (if u = b then 1 else 0) + sumL ll n b (idxTo ll u j)
theorem cntTo_yes {ll : List Lk} {n u b j : Nat} (h : (lkAt ll j).1 = (u : Int)) : cntTo ll n u b (j + 1) = cntTo ll n u b j + ((pathsL ll n (dst ll j) b).length : Int) := by
  rw [cntTo, cntTo, idxTo_yes h, sumL_append, sumL_cons, sumL_nil]; omega
theorem cntTo_no {ll : List Lk} {n u b j : Nat} (h : (lkAt ll j).1 ≠ (u : Int)) : cntTo ll n u b (j + 1) = cntTo ll n u b j := by
  rw [cntTo, cntTo, idxTo_no h]
theorem cntTo_full {ll : List Lk} {n u b : Nat} (hv : Valid n ll) (hu : u < n) : cntTo ll n u b ll.length = ((pathsL ll n u b).length : Int) := by
  rw [cntTo]
  by_cases e : u = b
  · subst e
    have key : ∀ l : List Nat, (∀ i ∈ l, i ∈ idx ll u) → sumL ll n u l = 0 := by
      intro l
      induction l with
      | nil => intro _; rfl
      | cons i l ih =>
        intro hl
        have hi := hl i (by simp)
        rw [sumL_cons, ih (fun j hj => hl j (by simp [hj])), pathsL_above hv n _ u (by omega) (hv.dst_lt (mem_idx.1 hi).1) (hv.dst_gt hi)]; rfl
    rw [if_pos rfl, pathsL_self]
    show 1 + sumL ll n u (idx ll u) = _
    rw [key _ fun i hi => hi]; rfl
  · rw [if_neg e, pathsL_sum hv hu e]
    show 0 + sumL ll n b (idx ll u) = _
    omega
theorem sumL_le {ll : List Lk} {n b u j : Nat} : ∀ e, sumL ll n b (idxTo ll u j) ≤ sumL ll n b (idxTo ll u (j + e))
  | 0 => Int.le_refl _
  | e + 1 => by
    have := sumL_le (ll := ll) (n := n) (b := b) (u := u) (j := j) e
    rw [show j + (e + 1) = (j + e) + 1 by omega]
    by_cases h : (lkAt ll (j + e)).1 = (u : Int)
    · rw [idxTo_yes h, sumL_append, sumL_cons, sumL_nil]; omega
    · rw [idxTo_no h]; exact this
theorem cntTo_small {ll : List Lk} {n u b j : Nat} (hv : Valid n ll) (hm : ll.length ≤ 14) (hu : u < n) (hj : j ≤ ll.length) : 0 ≤ cntTo ll n u b j ∧ cntTo ll n u b j ≤ 16384 := by
  have h1 := sumL_le (ll := ll) (n := n) (b := b) (u := u) (j := j) (ll.length - j)
  rw [show j + (ll.length - j) = ll.length by omega] at h1
  have h2 := cntTo_full (b := b) hv hu
  have h3 := pathsL_small hv hm u b
  have h4 := sumL_ge ll n b (idxTo ll u j)
  rw [cntTo] at h2 ⊢
  split at h2 <;> rename_i e <;> simp [e] at * <;> omega

/-- A path leads from s to t. -/
inductive Conn (ll : List Lk) (t : Nat) : Nat → Prop
  | here : Conn ll t t
  | link {s i : Nat} : i ∈ idx ll s → Conn ll t (dst ll i) → Conn ll t s
theorem Conn.trans {ll : List Lk} {t v s : Nat} (h : Conn ll v s) (k : Conn ll t v) : Conn ll t s := by
  induction h with
  | here => exact k
  | link hi _ ih => exact .link hi ih
theorem conn_paths {ll : List Lk} {n : Nat} (hv : Valid n ll) {t : Nat} : ∀ d s, n - s ≤ d → s < n → (Conn ll t s ↔ pathsL ll n s t ≠ [])
  | 0, s, h1, h2 => by omega
  | d + 1, s, h1, h2 => by
    by_cases hst : s = t
    · subst hst; rw [pathsL_self]; exact ⟨fun _ => by simp, fun _ => .here⟩
    · constructor
      · intro h
        cases h with
        | here => exact absurd rfl hst
        | link hi hc =>
          have g1 := hv.dst_gt hi
          have g2 := hv.dst_lt (mem_idx.1 hi).1
          have := (conn_paths hv d _ (by omega) g2).1 hc
          obtain ⟨q, hq⟩ := List.exists_mem_of_ne_nil _ this
          exact List.ne_nil_of_mem ((mem_pathsL hv h2 hst).2 ⟨_, hi, q, hq, rfl⟩)
      · intro h
        obtain ⟨q, hq⟩ := List.exists_mem_of_ne_nil _ h
        obtain ⟨i, hi, r, hr, _⟩ := (mem_pathsL hv h2 hst).1 hq
        have g1 := hv.dst_gt hi
        have g2 := hv.dst_lt (mem_idx.1 hi).1
        exact .link hi ((conn_paths hv d _ (by omega) g2).2 (List.ne_nil_of_mem hr))
theorem mark_stays {ll : List Lk} {bs : List Bool} {u j : Nat} (h : bs[j]?.getD false = true) : ∀ k, (mark ll bs u k)[j]?.getD false = true
  | 0 => h
  | k + 1 => by
    have ih := mark_stays (ll := ll) (u := u) h k
    by_cases e : (lkAt ll k).1 = (u : Int)
    · rw [mark_yes e, List.getElem?_set]
      split
      · rename_i e2; subst e2; split
        · rfl
        · rename_i e3
          rw [List.getElem?_eq_none (by omega)] at ih; cases ih
      · exact ih
    · rw [mark_no e]; exact ih
theorem mark_from {ll : List Lk} {bs : List Bool} {u j : Nat} : ∀ k, k ≤ ll.length → (mark ll bs u k)[j]?.getD false = true → bs[j]?.getD false = true ∨ ∃ i ∈ idx ll u, j = dst ll i
  | 0, _, h => .inl h
  | k + 1, hk, h => by
    by_cases e : (lkAt ll k).1 = (u : Int)
    · rw [mark_yes e, List.getElem?_set] at h
      split at h
      · rename_i e2; exact .inr ⟨k, mem_idx.2 ⟨by omega, e⟩, e2.symm⟩
      · exact mark_from k (by omega) h
    · rw [mark_no e] at h; exact mark_from k (by omega) h
theorem mark_to {ll : List Lk} {n : Nat} (hv : Valid n ll) {bs : List Bool} (hl : bs.length = n) {u i : Nat} (hi : (lkAt ll i).1 = (u : Int)) (hil : i < ll.length) : ∀ k, i < k → (mark ll bs u k)[dst ll i]?.getD false = true
  | 0, h => by omega
  | k + 1, h => by
    by_cases e : i = k
    · subst e
      rw [mark_yes hi, List.getElem?_set_self (by rw [mark_length]; have := hv.dst_lt hil; omega)]; rfl
    · have ih := mark_to hv hl hi hil k (by omega)
      by_cases e2 : (lkAt ll k).1 = (u : Int)
      · rw [mark_yes e2, List.getElem?_set]
        split
        · rename_i e3; rw [if_pos (by rw [mark_length]; have := hv.dst_lt hil; omega)]; rfl
        · exact ih
      · rw [mark_no e2]; exact ih
theorem reachB_conn {ll : List Lk} {n s : Nat} : ∀ k j, (reachB ll n s k)[j]?.getD false = true → Conn ll j s
  | 0, j, h => by
    rw [reachB, List.getElem?_set] at h
    split at h
    · rename_i e; subst e; exact .here
    · rw [List.getElem?_replicate] at h; split at h <;> simp at h
  | k + 1, j, h => by
    rw [reachB, rnext] at h
    split at h
    · rename_i hu
      rcases mark_from _ (Nat.le_refl _) h with h | ⟨i, hi, rfl⟩
      · exact reachB_conn k j h
      · exact (reachB_conn k _ hu).trans (.link hi .here)
    · exact reachB_conn k j h
theorem reachB_mono {ll : List Lk} {n s k j : Nat} (h : (reachB ll n s k)[j]?.getD false = true) : ∀ d, (reachB ll n s (k + d))[j]?.getD false = true
  | 0 => h
  | d + 1 => by
    have ih := reachB_mono h d
    rw [show k + (d + 1) = (k + d) + 1 by omega, reachB, rnext]
    split
    · exact mark_stays ih _
    · exact ih
theorem reachF_link {ll : List Lk} {n : Nat} (hv : Valid n ll) {s u i : Nat} (hsu : s ≤ u) (hu : u < n) (h : (reachF ll n s)[u]?.getD false = true) (hi : i ∈ idx ll u) : (reachF ll n s)[dst ll i]?.getD false = true := by
  rw [reachF_at hv (k := u - s) (by omega) (by omega)] at h
  obtain ⟨h1, h2⟩ := mem_idx.1 hi
  have : (reachB ll n s (u - s + 1))[dst ll i]?.getD false = true := by
    rw [reachB, rnext, show s + (u - s) = u by omega, if_pos h]
    exact mark_to hv (reachB_length _) h2 h1 _ h1
  have := reachB_mono this (n - s - (u - s + 1))
  rw [show u - s + 1 + (n - s - (u - s + 1)) = n - s by omega] at this
  exact this
theorem reachF_conn {ll : List Lk} {n : Nat} (hv : Valid n ll) {s t : Nat} {u : Nat} (hc : Conn ll t u) (hsu : s ≤ u) (hu : u < n) (h : (reachF ll n s)[u]?.getD false = true) : (reachF ll n s)[t]?.getD false = true := by
  induction hc with
  | here => exact h
  | link hi _ ih =>
    have g1 := hv.dst_gt hi
    have g2 := hv.dst_lt (mem_idx.1 hi).1
    exact ih (by omega) g2 (reachF_link hv hsu hu h hi)
theorem mem_reachL {ll : List Lk} {n : Nat} (hv : Valid n ll) {s t : Nat} (hs : s < n) (ht : t < n) : (t : Int) ∈ reachL ll n s ↔ pathsL ll n s t ≠ [] := by
  rw [reachL, marked_mem, ← conn_paths hv (n - s) s (by omega) hs]
  constructor
  · rintro ⟨j, _, e, h⟩
    obtain rfl : t = j := by omega
    exact reachB_conn _ _ h
  · intro h
    refine ⟨t, ht, rfl, reachF_conn hv h (Nat.le_refl _) hs ?_⟩
    have h0 : (reachB ll n s 0)[s]?.getD false = true := by rw [reachB, List.getElem?_set_self (by simpa using hs)]; rfl
    have := reachB_mono h0 (n - s)
    rw [Nat.zero_add] at this
    exact this
theorem marked_sorted (bs : List Bool) (k : Nat) : ∀ j : Nat, j + 1 < (marked bs k).length → (marked bs k)[j]?.getD 0 ≤ (marked bs k)[j + 1]?.getD 0 := by
  have hp : (marked bs k).Pairwise (· ≤ ·) := by
    unfold marked
    refine List.Pairwise.map _ (fun a b h => ?_) ((List.pairwise_lt_range (n := k)).filter _)
    exact Int.ofNat_le.2 (Nat.le_of_lt h)
  intro j hj
  rw [List.getElem?_eq_getElem hj, List.getElem?_eq_getElem (by omega)]
  exact List.pairwise_iff_getElem.1 hp j (j + 1) (by omega) hj (by omega)
end Go.Proofs.Ytebmachppbpdmaa
