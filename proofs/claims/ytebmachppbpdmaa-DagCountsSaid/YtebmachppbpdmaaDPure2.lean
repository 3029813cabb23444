/- Plain lists: the first path of least cost. No program. -/
import Derived.Test.YtebmachppbpdmaaDPure1
namespace Go.Proofs.Ytebmachppbpdmaa

/-- Link i leads on a least path from s. -/
def Fit (ll : List Lk) (p : List Int) (s i : Nat) : Prop := (lkAt ll i).1 = (s : Int) ∧ 0 ≤ p[dst ll i]?.getD 0 ∧ cst ll i + p[dst ll i]?.getD 0 = p[s]?.getD 0
instance (ll : List Lk) (p : List Int) (s i : Nat) : Decidable (Fit ll p s i) := by unfold Fit; exact inferInstance
def FirstFit (ll : List Lk) (p : List Int) (s i : Nat) : Prop := i < ll.length ∧ Fit ll p s i ∧ ∀ j, j < i → ¬ Fit ll p s j
theorem FirstFit.unique {ll : List Lk} {p : List Int} {s i j : Nat} (h : FirstFit ll p s i) (k : FirstFit ll p s j) : i = j := by
  rcases Nat.lt_trichotomy i j with e | e | e
  · exact absurd h.2.1 (k.2.2 i e)
  · exact e
  · exact absurd k.2.1 (h.2.2 j e)
theorem firstFit_of {ll : List Lk} {p : List Int} {s : Nat} : ∀ (i : Nat), i < ll.length → Fit ll p s i → ∃ j, FirstFit ll p s j := by
  intro i
  induction i using Nat.strongRecOn with
  | _ i ih =>
    intro hi hf
    by_cases h : ∃ j, j < i ∧ Fit ll p s j
    · obtain ⟨j, hj, hfj⟩ := h
      exact ih j hj (by omega) hfj
    · exact ⟨i, hi, hf, fun j hj hfj => h ⟨j, hj, hfj⟩⟩
/-- The first path of least cost from s to t. -/
def GPath (ll : List Lk) (p : List Int) (t : Nat) : Nat → List Int → Prop
  | s, [] => s = t
  | s, x :: r => s ≠ t ∧ ∃ i : Nat, x = (i : Int) ∧ FirstFit ll p s i ∧ GPath ll p t (dst ll i) r
theorem GPath.unique {ll : List Lk} {p : List Int} {t : Nat} : ∀ {s : Nat} {a b : List Int}, GPath ll p t s a → GPath ll p t s b → a = b
  | _, [], [], _, _ => rfl
  | _, [], _ :: _, h, k => absurd h k.1
  | _, _ :: _, [], h, k => absurd k h.1
  | _, x :: a, y :: b, h, k => by
    obtain ⟨_, i, rfl, hi, ha⟩ := h
    obtain ⟨_, j, rfl, hj, hb⟩ := k
    obtain rfl := hi.unique hj
    rw [GPath.unique ha hb]

/-- What a fold with potW comes to: one of the links' costs, and none is less. -/
theorem pot_fold {ll : List Lk} {out : List Int} (hc : ∀ i, i < ll.length → 0 ≤ cst ll i) : ∀ (l : List Nat) (b : Int), (∀ i ∈ l, i < ll.length) →
    (l.foldl (fstep potW ll out) b = b ∨ ∃ i ∈ l, 0 ≤ out[dst ll i]?.getD 0 ∧ l.foldl (fstep potW ll out) b = cst ll i + out[dst ll i]?.getD 0) ∧
    (0 ≤ b → 0 ≤ l.foldl (fstep potW ll out) b ∧ l.foldl (fstep potW ll out) b ≤ b) ∧
    (∀ i ∈ l, 0 ≤ out[dst ll i]?.getD 0 → 0 ≤ l.foldl (fstep potW ll out) b ∧ l.foldl (fstep potW ll out) b ≤ cst ll i + out[dst ll i]?.getD 0)
  | [], b, _ => ⟨.inl rfl, fun h => ⟨h, Int.le_refl _⟩, by simp⟩
  | i :: l, b, hl => by
    have hci := hc i (hl i (by simp))
    obtain ⟨h1, h2, h3⟩ := pot_fold hc l (fstep potW ll out b i) (fun j hj => hl j (by simp [hj]))
    rw [List.foldl_cons]
    by_cases h0 : 0 ≤ out[dst ll i]?.getD 0
    · have e : fstep potW ll out b i = potW b (cst ll i) (out[dst ll i]?.getD 0) := if_pos h0
      have hb : 0 ≤ fstep potW ll out b i ∧ fstep potW ll out b i ≤ cst ll i + out[dst ll i]?.getD 0 ∧ (0 ≤ b → fstep potW ll out b i ≤ b) ∧ (fstep potW ll out b i = b ∨ fstep potW ll out b i = cst ll i + out[dst ll i]?.getD 0) := by
        rw [e]; unfold potW; split <;> omega
      obtain ⟨b1, b2, b3, b4⟩ := hb
      obtain ⟨c1, c2⟩ := h2 b1
      refine ⟨?_, fun hb => ⟨c1, by have := b3 hb; omega⟩, fun j hj hj0 => ?_⟩
      · rcases h1 with h1 | ⟨j, hj, h1⟩
        · rcases b4 with b4 | b4
          · exact .inl (h1.trans b4)
          · exact .inr ⟨i, by simp, h0, h1.trans b4⟩
        · exact .inr ⟨j, by simp [hj], h1⟩
      · rcases List.mem_cons.1 hj with rfl | hj
        · exact ⟨c1, by omega⟩
        · exact h3 j hj hj0
    · have e : fstep potW ll out b i = b := if_neg h0
      rw [e] at h1 h2 h3 ⊢
      refine ⟨?_, h2, fun j hj hj0 => ?_⟩
      · rcases h1 with h1 | ⟨j, hj, h1⟩
        · exact .inl h1
        · exact .inr ⟨j, by simp [hj], h1⟩
      · rcases List.mem_cons.1 hj with rfl | hj
        · exact absurd hj0 h0
        · exact h3 j hj hj0
theorem Valid.cst0 {n : Nat} {ll : List Lk} (h : Valid n ll) : ∀ i, i < ll.length → 0 ≤ cst ll i := fun _ hi => (h.cst_ge hi).1
theorem mem_idx_lt {ll : List Lk} {s : Nat} : ∀ i ∈ idx ll s, i < ll.length := fun _ h => (mem_idx.1 h).1

/-- It goes on to a node that reaches t. -/
theorem fit_next {ll : List Lk} {n : Nat} {p : List Int} (hv : Valid n ll) {s i : Nat} (hf : FirstFit ll p s i) : s < dst ll i ∧ dst ll i < n ∧ 0 ≤ p[dst ll i]?.getD 0 := by
  obtain ⟨hl, ⟨h1, h2, _⟩, _⟩ := hf
  exact ⟨hv.dst_gt (mem_idx.2 ⟨hl, h1⟩), hv.dst_lt hl, h2⟩

section
variable {ll : List Lk} {n t : Nat} {p : List Int} (hv : Valid n ll) (hp : FoldOk potW ll n t 0 p)
include hv hp
/-- From a node that reaches t a link leads on. -/
theorem pot_fit {s : Nat} (hs : s < n) (hst : s ≠ t) (h0 : 0 ≤ p[s]?.getD 0) : s < t ∧ ∃ i, FirstFit ll p s i := by
  have hlt : s < t := by
    rcases Nat.lt_trichotomy s t with h | h | h
    · exact h
    · exact absurd h hst
    · have := hp.above s h hs; omega
  have e := hp.row s hlt
  refine ⟨hlt, ?_⟩
  rcases (pot_fold hv.cst0 (idx ll s) (-1) mem_idx_lt (out := p)).1 with h | ⟨i, hi, h1, h2⟩
  · have e2 : frow potW ll p s = (idx ll s).foldl (fstep potW ll p) (-1) := rfl
    rw [← e2] at h; omega
  · obtain ⟨hl, hf⟩ := mem_idx.1 hi
    exact firstFit_of i hl ⟨hf, h1, by rw [e]; exact h2.symm⟩
theorem gpath_exists : ∀ (d s : Nat), n - s = d → s < n → 0 ≤ p[s]?.getD 0 → ∃ r, GPath ll p t s r := by
  intro d
  induction d using Nat.strongRecOn with
  | _ d ih =>
    intro s hd hs h0
    by_cases hst : s = t
    · exact ⟨[], hst⟩
    · obtain ⟨hlt, i, hi⟩ := pot_fit hv hp hs hst h0
      obtain ⟨h1, h2, h3⟩ := fit_next hv hi
      obtain ⟨r, hr⟩ := ih (n - dst ll i) (by omega) (dst ll i) rfl h2 h3
      exact ⟨(i : Int) :: r, hst, i, rfl, hi, hr⟩
end
theorem GPath.length_le {n : Nat} {ll : List Lk} (hv : Valid n ll) {p : List Int} {t : Nat} (ht : t < n) : ∀ {s : Nat} {r : List Int}, s < n → GPath ll p t s r → r.length + s ≤ t
  | s, [], _, h => by have : s = t := h; simp; omega
  | s, x :: r, hs, h => by
    obtain ⟨_, i, rfl, hi, hr⟩ := h
    have h1 := hv.dst_gt (mem_idx.2 ⟨hi.1, hi.2.1.1⟩)
    have := GPath.length_le hv ht (hv.dst_lt hi.1) hr
    simp; omega
theorem GPath.i64 {ll : List Lk} {p : List Int} {t : Nat} : ∀ {s : Nat} {r : List Int}, GPath ll p t s r → ∀ x ∈ r, 0 ≤ x ∧ x < ll.length
  | _, [], _, x, hx => by cases hx
  | s, y :: r, h, x, hx => by
    obtain ⟨_, i, rfl, hi, hr⟩ := h
    rcases List.mem_cons.1 hx with rfl | hx
    · have := hi.1; omega
    · exact GPath.i64 hr x hx
end Go.Proofs.Ytebmachppbpdmaa
