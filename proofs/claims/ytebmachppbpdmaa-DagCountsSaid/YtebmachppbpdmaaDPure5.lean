/- Plain lists: two foldings side by side; one link more. No program. -/
import Derived.Test.YtebmachppbpdmaaDPure2
namespace Go.Proofs.Ytebmachppbpdmaa

theorem FoldOk.row_all {wth : Int → Int → Int → Int} {n : Nat} {ll : List Lk} (hv : Valid n ll) {t : Nat} {first : Int} {out : List Int} (h : FoldOk wth ll n t first out) {s : Nat} (hs : s < n) (hne : s ≠ t) : out[s]?.getD 0 = frow wth ll out s := by
  rcases Nat.lt_or_ge s t with e | e
  · exact h.row s e
  · rw [h.above s (by omega) hs]
    have key : ∀ (l : List Nat), (∀ i ∈ l, i ∈ idx ll s) → l.foldl (fstep wth ll out) (-1) = -1 := by
      intro l
      induction l with
      | nil => intro _; rfl
      | cons i l ih =>
        intro hl
        rw [List.foldl_cons]
        have hi := hl i (by simp)
        have h1 := hv.dst_gt hi
        have h2 := hv.dst_lt (mem_idx.1 hi).1
        rw [fstep, h.above _ (by omega) h2, if_neg (by decide)]
        exact ih (fun j hj => hl j (by simp [hj]))
    exact (key (idx ll s) (fun i hi => hi)).symm
/-- Two foldings over the same links. -/
theorem fold_rel {w1 w2 : Int → Int → Int → Int} {n : Nat} {ll : List Lk} (hv : Valid n ll) {t : Nat} (R : Int → Int → Prop) (h0 : R (-1) (-1)) {f1 f2 : Int} (hf : R f1 f2) (hsgn : ∀ x y, R x y → (0 ≤ x ↔ 0 ≤ y))
    (hstep : ∀ s1 s2 c n1 n2, R s1 s2 → 0 ≤ c → R n1 n2 → 0 ≤ n1 → R (w1 s1 c n1) (w2 s2 c n2)) {o1 o2 : List Int} (k1 : FoldOk w1 ll n t f1 o1) (k2 : FoldOk w2 ll n t f2 o2) :
    ∀ (d s : Nat), n - s = d → s < n → R (o1[s]?.getD 0) (o2[s]?.getD 0) := by
  intro d
  induction d using Nat.strongRecOn with
  | _ d ih =>
    intro s hd hs
    by_cases e : s = t
    · subst e; rw [k1.at_, k2.at_]; exact hf
    · rw [k1.row_all hv hs e, k2.row_all hv hs e]
      have key : ∀ (l : List Nat) (b1 b2 : Int), (∀ i ∈ l, i ∈ idx ll s) → R b1 b2 → R (l.foldl (fstep w1 ll o1) b1) (l.foldl (fstep w2 ll o2) b2) := by
        intro l
        induction l with
        | nil => intro b1 b2 _ h; exact h
        | cons i l ihl =>
          intro b1 b2 hl h
          rw [List.foldl_cons, List.foldl_cons]
          refine ihl _ _ (fun j hj => hl j (by simp [hj])) ?_
          have hi := hl i (by simp)
          have g1 := hv.dst_gt hi
          have g2 := hv.dst_lt (mem_idx.1 hi).1
          have hr := ih (n - dst ll i) (by omega) (dst ll i) rfl g2
          have hc := (hv.cst_ge (mem_idx.1 hi).1).1
          unfold fstep
          by_cases hp : 0 ≤ o1[dst ll i]?.getD 0
          · rw [if_pos hp, if_pos ((hsgn _ _ hr).1 hp)]; exact hstep _ _ _ _ _ h hc hr hp
          · rw [if_neg hp, if_neg (fun e => hp ((hsgn _ _ hr).2 e))]; exact h
      exact key (idx ll s) (-1) (-1) (fun i hi => hi) h0
/-- Least and longest paths. -/
theorem pot_long {n : Nat} {ll : List Lk} (hv : Valid n ll) {t : Nat} {p q : List Int} (k1 : FoldOk potW ll n t 0 p) (k2 : FoldOk longW ll n t 0 q) {s : Nat} (hs : s < n) :
    (p[s]?.getD 0 = -1 ∧ q[s]?.getD 0 = -1) ∨ (0 ≤ p[s]?.getD 0 ∧ p[s]?.getD 0 ≤ q[s]?.getD 0) := by
  refine fold_rel hv (fun x y => (x = -1 ∧ y = -1) ∨ (0 ≤ x ∧ x ≤ y)) (by omega) (by omega) (fun x y h => by omega) (fun s1 s2 c n1 n2 h hc hn h1 => ?_) k1 k2 (n - s) s rfl hs
  right
  unfold potW longW
  split <;> omega
theorem lkAt_app {ll : List Lk} {x : Lk} {i : Nat} (hi : i < ll.length) : lkAt (ll ++ [x]) i = lkAt ll i := by
  unfold lkAt; rw [List.getElem?_append_left hi]
theorem lkAt_last (ll : List Lk) (x : Lk) : lkAt (ll ++ [x]) ll.length = x := by simp [lkAt]
theorem idx_app (ll : List Lk) (x : Lk) (s : Nat) : idx (ll ++ [x]) s = idx ll s ++ (if x.1 = (s : Int) then [ll.length] else []) := by
  have h1 : idxTo (ll ++ [x]) s ll.length = idx ll s := by
    unfold idx idxTo
    refine List.filter_congr fun i hi => ?_
    rw [lkAt_app (List.mem_range.1 hi)]
  have h2 : (ll ++ [x]).length = ll.length + 1 := by simp
  unfold idx
  rw [h2]
  by_cases e : x.1 = (s : Int)
  · rw [if_pos e, idxTo_yes (by rw [lkAt_last]; exact e), h1]; rfl
  · rw [if_neg e, idxTo_no (by rw [lkAt_last]; exact e), h1, List.append_nil]; rfl
/-- One link more. -/
theorem fold_more {wth : Int → Int → Int → Int} {n : Nat} {ll : List Lk} {x : Lk} (hv : Valid n ll) (hv' : Valid n (ll ++ [x])) {t : Nat} (R : Int → Int → Prop) (h0 : R (-1) (-1)) {f : Int} (hf : R f f) (hsgn : ∀ x y, R x y → 0 ≤ x → 0 ≤ y)
    (hstep : ∀ s1 s2 c n1 n2, R s1 s2 → 0 ≤ c → R n1 n2 → 0 ≤ n1 → R (wth s1 c n1) (wth s2 c n2)) (hskip : ∀ s1 s2 c n2, R s1 s2 → 0 ≤ c → 0 ≤ n2 → R s1 (wth s2 c n2)) {o1 o2 : List Int} (k1 : FoldOk wth ll n t f o1) (k2 : FoldOk wth (ll ++ [x]) n t f o2) :
    ∀ (d s : Nat), n - s = d → s < n → R (o1[s]?.getD 0) (o2[s]?.getD 0) := by
  intro d
  induction d using Nat.strongRecOn with
  | _ d ih =>
    intro s hd hs
    by_cases e : s = t
    · subst e; rw [k1.at_, k2.at_]; exact hf
    · rw [k1.row_all hv hs e, k2.row_all hv' hs e]
      have key : ∀ (l : List Nat) (b1 b2 : Int), (∀ i ∈ l, i ∈ idx ll s) → R b1 b2 → R (l.foldl (fstep wth ll o1) b1) (l.foldl (fstep wth (ll ++ [x]) o2) b2) := by
        intro l
        induction l with
        | nil => intro b1 b2 _ h; exact h
        | cons i l ihl =>
          intro b1 b2 hl h
          rw [List.foldl_cons, List.foldl_cons]
          refine ihl _ _ (fun j hj => hl j (by simp [hj])) ?_
          have hi := hl i (by simp)
          have g1 := hv.dst_gt hi
          have g2 := hv.dst_lt (mem_idx.1 hi).1
          have hr := ih (n - dst ll i) (by omega) (dst ll i) rfl g2
          have hc := (hv.cst_ge (mem_idx.1 hi).1).1
          have ed : dst (ll ++ [x]) i = dst ll i := by unfold dst; rw [lkAt_app (mem_idx.1 hi).1]
          have ec : cst (ll ++ [x]) i = cst ll i := by unfold cst; rw [lkAt_app (mem_idx.1 hi).1]
          unfold fstep
          rw [ed, ec]
          by_cases hp : 0 ≤ o1[dst ll i]?.getD 0
          · rw [if_pos hp, if_pos (hsgn _ _ hr hp)]; exact hstep _ _ _ _ _ h hc hr hp
          · rw [if_neg hp]
            by_cases hq : 0 ≤ o2[dst ll i]?.getD 0
            · rw [if_pos hq]; exact hskip _ _ _ _ h hc hq
            · rw [if_neg hq]; exact h
      have hk := key (idx ll s) (-1) (-1) (fun i hi => hi) h0
      have e2 : frow wth (ll ++ [x]) o2 s = (idx (ll ++ [x]) s).foldl (fstep wth (ll ++ [x]) o2) (-1) := rfl
      rw [e2, idx_app, List.foldl_append]
      by_cases hx : x.1 = (s : Int)
      · rw [if_pos hx, List.foldl_cons, List.foldl_nil]
        have hc := (hv'.cst_ge (i := ll.length) (by simp)).1
        rw [fstep]
        split
        · rename_i hq; exact hskip _ _ _ _ hk hc hq
        · exact hk
      · rw [if_neg hx]; exact hk
theorem pot_more {n : Nat} {ll : List Lk} {x : Lk} (hv : Valid n ll) (hv' : Valid n (ll ++ [x])) {t : Nat} {p q : List Int} (k1 : FoldOk potW ll n t 0 p) (k2 : FoldOk potW (ll ++ [x]) n t 0 q) {s : Nat} (hs : s < n) (h : 0 ≤ p[s]?.getD 0) : 0 ≤ q[s]?.getD 0 ∧ q[s]?.getD 0 ≤ p[s]?.getD 0 := by
  refine fold_more hv hv' (fun x y => 0 ≤ x → 0 ≤ y ∧ y ≤ x) (by omega) (by omega) (fun x y h hx => (h hx).1) (fun s1 s2 c n1 n2 h hc hn h1 => ?_) (fun s1 s2 c n2 h hc hn => ?_) k1 k2 (n - s) s rfl hs h
  · intro _
    unfold potW
    split <;> split <;> omega
  · intro h1
    unfold potW
    split <;> omega
theorem long_more {n : Nat} {ll : List Lk} {x : Lk} (hv : Valid n ll) (hv' : Valid n (ll ++ [x])) {t : Nat} {p q : List Int} (k1 : FoldOk longW ll n t 0 p) (k2 : FoldOk longW (ll ++ [x]) n t 0 q) {s : Nat} (hs : s < n) : p[s]?.getD 0 ≤ q[s]?.getD 0 := by
  refine fold_more hv hv' (fun x y => x ≤ y) (by omega) (by omega) (fun x y h hx => by omega) (fun s1 s2 c n1 n2 h hc hn h1 => ?_) (fun s1 s2 c n2 h hc hn => ?_) k1 k2 (n - s) s rfl hs
  · unfold longW; omega
  · unfold longW; omega
theorem cnt_more {n : Nat} {ll : List Lk} {x : Lk} (hv : Valid n ll) (hv' : Valid n (ll ++ [x])) {t : Nat} {p q : List Int} (k1 : FoldOk cntW ll n t 1 p) (k2 : FoldOk cntW (ll ++ [x]) n t 1 q) {s : Nat} (hs : s < n) : p[s]?.getD 0 ≤ q[s]?.getD 0 := by
  have key := fold_more hv hv' (fun x y => x ≤ y ∧ x ≤ 1073741824) (by omega) (f := 1) (by omega) (fun x y h hx => by omega) (fun s1 s2 c n1 n2 h hc hn h1 => ?_) (fun s1 s2 c n2 h hc hn => ?_) k1 k2 (n - s) s rfl hs
  · exact key.1
  · unfold cntW; omega
  · unfold cntW; omega
end Go.Proofs.Ytebmachppbpdmaa
