/- Plain lists: the greedy cover is a cover, and has as many lists as the longest increasing subsequence has elements. No program. -/
import Derived.Test.YtdkokpehcmcnpaaPure3
import Derived.Test.YtdkokpehcmcnpaaPure7
import Derived.Test.YtdkokpehcmcnpaaPureA
namespace Go.Proofs.Ytdkokpehcmcnpaa

/-- What is known of the lists of a cover of the first i elements. -/
def CovOk (l : List Int) (cov : List (List Int)) (i : Nat) : Prop :=
  (∀ k, k < cov.length → ordB l false (cov[k]?.getD []) = true ∧ cov[k]?.getD [] ≠ [] ∧ ∀ x ∈ cov[k]?.getD [], x < (i : Int)) ∧
  (∀ v : Nat, cov.flatten.count (v : Int) = if v < i then 1 else 0) ∧
  ∀ k, 0 < k → k < cov.length → ∀ x ∈ cov[k]?.getD [], ∃ y ∈ cov[k - 1]?.getD [], y < x ∧ elemAt l y < elemAt l x

theorem ordB_get {l : List Int} {st : Bool} {s : List Int} (h : ordB l st s = true) : Ord l st s s.length := of_decide_eq_true h
/-- In an ordered list a later index is greater, and its element fits. -/
theorem Ord.pair {l s : List Int} (h : Ord l false s s.length) : ∀ d i, i + d + 1 < s.length → s[i]?.getD 0 < s[i + d + 1]?.getD 0 ∧ elemAt l (s[i + d + 1]?.getD 0) ≤ elemAt l (s[i]?.getD 0)
  | 0, i, hi => by
    have := (h (i + 1) hi).2.2 (by omega)
    rw [Nat.add_sub_cancel] at this
    refine ⟨this.1, ?_⟩
    have h2 := this.2
    simpa [fitR] using h2
  | d + 1, i, hi => by
    have ih := Ord.pair h d i (by omega)
    have := (h (i + (d + 1) + 1) hi).2.2 (by omega)
    rw [Nat.add_sub_cancel] at this
    have h2 : elemAt l (s[i + (d + 1) + 1]?.getD 0) ≤ elemAt l (s[i + (d + 1)]?.getD 0) := by
      have h3 := this.2
      simpa [fitR] using h3
    have e : i + d + 1 = i + (d + 1) := rfl
    rw [e] at ih
    exact ⟨Int.lt_trans ih.1 this.1, Int.le_trans h2 ih.2⟩
theorem ord_mem_le {l s : List Int} (h : Ord l false s s.length) {x y : Int} (hx : x ∈ s) (hy : y ∈ s) (hxy : x < y) : elemAt l y ≤ elemAt l x := by
  obtain ⟨i, hi, rfl⟩ := List.getElem_of_mem hx
  obtain ⟨j, hj, rfl⟩ := List.getElem_of_mem hy
  have ei : s[i]?.getD 0 = s[i] := by rw [List.getElem?_eq_getElem hi]; rfl
  have ej : s[j]?.getD 0 = s[j] := by rw [List.getElem?_eq_getElem hj]; rfl
  rcases Nat.lt_trichotomy i j with hlt | he | hgt
  · have := h.pair (j - i - 1) i (by omega)
    rw [show i + (j - i - 1) + 1 = j by omega, ei, ej] at this
    exact this.2
  · subst he; omega
  · have := h.pair (i - j - 1) j (by omega)
    rw [show j + (i - j - 1) + 1 = i by omega, ei, ej] at this
    omega

/-- Which list holds x. -/
def rk (cov : List (List Int)) (x : Int) : Nat := cov.findIdx fun s => decide (x ∈ s)
theorem rk_spec {cov : List (List Int)} {x : Int} (h : x ∈ cov.flatten) : rk cov x < cov.length ∧ x ∈ cov[rk cov x]?.getD [] := by
  obtain ⟨s, hs, hxs⟩ := List.mem_flatten.1 h
  have hlt : rk cov x < cov.length := List.findIdx_lt_length_of_exists ⟨s, hs, by simpa using hxs⟩
  refine ⟨hlt, ?_⟩
  have := List.findIdx_getElem (p := fun s => decide (x ∈ s)) (xs := cov) (w := hlt)
  rw [List.getElem?_eq_getElem hlt, Option.getD_some]
  exact of_decide_eq_true this
theorem inc_ranks {l : List Int} {cov : List (List Int)} (hc : CovOk l cov l.length) : ∀ {b : List Int} {k : Nat} {lv : Option Int}, Inc l k lv b →
    (b.map fun x => ((rk cov x : Nat) : Int)).Nodup ∧ (∀ x ∈ b, (k : Int) ≤ x ∧ x < l.length ∧ ∀ v, lv = some v → v < elemAt l x)
  | [], _, _, _ => ⟨by simp, by simp⟩
  | z :: b, k, lv, h => by
    obtain ⟨i, rfl, h1, h2, h3, h4⟩ := h
    obtain ⟨n1, n2⟩ := inc_ranks hc h4
    have hmem : ∀ x : Int, 0 ≤ x → x < l.length → x ∈ cov.flatten := fun x h0 hx => by
      obtain ⟨v, rfl⟩ := Int.eq_ofNat_of_zero_le h0
      have := hc.2.1 v
      rw [if_pos (by omega)] at this
      exact List.count_pos_iff.1 (by omega)
    refine ⟨?_, ?_⟩
    · rw [List.map_cons, List.nodup_cons]
      refine ⟨fun hm => ?_, n1⟩
      obtain ⟨y, hy, e⟩ := List.mem_map.1 hm
      obtain ⟨y1, y2, y3⟩ := n2 y hy
      have e' : rk cov y = rk cov (i : Int) := by omega
      obtain ⟨r1, r2⟩ := rk_spec (hmem (i : Int) (by omega) (by omega))
      obtain ⟨s1, s2⟩ := rk_spec (hmem y (by omega) y2)
      rw [e'] at s2
      have h5 := ord_mem_le (ordB_get (hc.1 _ r1).1) r2 s2 (by omega)
      have h6 := y3 _ rfl
      have e3 : elemAt l (i : Int) = l[i]?.getD 0 := by simp [elemAt]
      omega
    · intro x hx
      rcases List.mem_cons.1 hx with rfl | hx
      · exact ⟨by omega, by omega, fun v hv => by have := h3 v hv; simpa [elemAt] using this⟩
      · obtain ⟨y1, y2, y3⟩ := n2 x hx
        have := y3 _ rfl
        exact ⟨by omega, y2, fun v hv => by have := h3 v hv; omega⟩
theorem inc_le_cover {l : List Int} {cov : List (List Int)} (hc : CovOk l cov l.length) {b : List Int} (h : Inc l 0 none b) : b.length ≤ cov.length := by
  obtain ⟨h1, h2⟩ := inc_ranks hc h
  have := pigeon cov.length _ h1 (fun x hx => by
    obtain ⟨y, hy, rfl⟩ := List.mem_map.1 hx
    obtain ⟨y1, y2, _⟩ := h2 y hy
    obtain ⟨v, rfl⟩ := Int.eq_ofNat_of_zero_le (show 0 ≤ y by omega)
    have hcv := hc.2.1 v
    rw [if_pos (by omega)] at hcv
    have := (rk_spec (List.count_pos_iff.1 (by omega : 0 < cov.flatten.count (v : Int)))).1
    omega)
  simpa using this
theorem chain {l : List Int} {cov : List (List Int)} (hc : CovOk l cov l.length) : ∀ k, k < cov.length → ∀ x : Nat, (x : Int) ∈ cov[k]?.getD [] → ∃ b, Inc l 0 none b ∧ b.length = k + 1 ∧ b.getLast? = some (x : Int)
  | 0, hk, x, hx => by
    have := (hc.1 0 hk).2.2 _ hx
    exact ⟨[(x : Int)], ⟨x, rfl, Nat.zero_le _, by omega, fun v hv => (by cases hv), trivial⟩, rfl, rfl⟩
  | k + 1, hk, x, hx => by
    obtain ⟨y, hy, hyx, hv⟩ := hc.2.2 (k + 1) (by omega) hk _ hx
    rw [Nat.add_sub_cancel] at hy
    obtain ⟨y', rfl⟩ := Int.eq_ofNat_of_zero_le (ordB_mem (hc.1 k (by omega)).1 y hy).1
    obtain ⟨b, h1, h2, h3⟩ := chain hc k (by omega) y' hy
    have hxl := (hc.1 (k + 1) hk).2.2 _ hx
    refine ⟨b ++ [(x : Int)], h1.snoc (by omega) (fun e => by rw [e] at h2; simp at h2) (fun z hz => ?_), by simp [h2], by simp⟩
    rw [h3] at hz
    have : y' = z := by have := Option.some.inj hz; omega
    subst this
    exact ⟨by omega, by simpa [elemAt] using hv⟩
theorem cover_lis {l : List Int} {cov : List (List Int)} (hc : CovOk l cov l.length) : (lis l).length = cov.length := by
  obtain ⟨h1, h2⟩ := lis_best l
  have a := inc_le_cover hc h1
  rcases Nat.eq_zero_or_pos cov.length with h0 | h0
  · omega
  · have hne := (hc.1 (cov.length - 1) (by omega)).2.1
    obtain ⟨x, hx⟩ := List.exists_mem_of_ne_nil _ hne
    obtain ⟨x', rfl⟩ := Int.eq_ofNat_of_zero_le (ordB_mem (hc.1 (cov.length - 1) (by omega)).1 x hx).1
    obtain ⟨b, b1, b2, _⟩ := chain hc (cov.length - 1) (by omega) x' hx
    have := (h2 b b1).1
    omega
end Go.Proofs.Ytdkokpehcmcnpaa
