/- Plain values: how many, how deep, valid or not. No program. -/
import Derived.Test.YtancjkaoocgeeaaDoorCVal
namespace Go.Proofs.YtancjkaoocgeeaaDoor

/-- A value, without addresses. -/
inductive V where
  | mk (kind num : Int) (text : ByteArray) (items : List V)
namespace V
def kind : V → Int | mk k _ _ _ => k
def num : V → Int | mk _ n _ _ => n
def text : V → ByteArray | mk _ _ t _ => t
def items : V → List V | mk _ _ _ l => l
theorem ind {P : V → Prop} (h : ∀ v, (∀ u ∈ v.items, P u) → P v) : ∀ v, P v
  | mk k n t l => h _ fun u hu => by
    have := List.sizeOf_lt_of_mem hu
    exact ind h u
  termination_by v => SizeOf.sizeOf v
  decreasing_by
    simp only [items] at hu
    have := List.sizeOf_lt_of_mem hu
    simp; omega
theorem eta : ∀ v : V, v = mk v.kind v.num v.text v.items | mk _ _ _ _ => rfl
end V
mutual
def Vl.er : Vl → V | .mk k n t _ _ l => .mk k n t (Vl.erL l)
def Vl.erL : List Vl → List V | [] => [] | v :: r => Vl.er v :: Vl.erL r
end
theorem Vl.erL_map : ∀ l : List Vl, Vl.erL l = l.map Vl.er
  | [] => rfl
  | v :: r => by rw [Vl.erL, Vl.erL_map r]; rfl
namespace Vl
theorem er_kind : ∀ v : Vl, v.er.kind = v.kind | .mk _ _ _ _ _ _ => by rw [er]; rfl
theorem er_num : ∀ v : Vl, v.er.num = v.num | .mk _ _ _ _ _ _ => by rw [er]; rfl
theorem er_text : ∀ v : Vl, v.er.text = v.text | .mk _ _ _ _ _ _ => by rw [er]; rfl
theorem er_items : ∀ v : Vl, v.er.items = v.items.map er | .mk _ _ _ _ _ _ => by rw [er, erL_map]; rfl
theorem er_len (v : Vl) : v.er.items.length = v.items.length := by rw [er_items]; simp
end Vl

/-- How many values there are, at most some more than 'most'. -/
def cntV (most : Int) : Nat → V → Int
  | 0, _ => most + 1
  | n + 1, v => v.items.foldl (fun s u => if s ≤ most then s + cntV most n u else s) 1
/-- Whether a string is too long. -/
def longV : Nat → V → Bool
  | 0, _ => true
  | n + 1, v => decide (40 < v.text.size) || v.items.any (longV n)
/-- Great, of the reference. -/
def greatV (v : V) : Bool :=
  if v.items.length ≤ 4096 ∨ 4100 ≤ v.items.length then decide (60 < cntV 60 70 v) || longV 70 v
  else v.items.any (fun u => decide (0 < u.items.length)) || longV 70 v
/-- What is wrong with a value alone. -/
def singV (v : V) : Int :=
  if (v.kind = 1 ∧ v.text.size = 0 ∧ v.items.length = 0) ∨ (v.kind = 2 ∧ v.num = 0 ∧ v.items.length = 0) ∨ (v.kind = 3 ∧ v.num = 0 ∧ v.text.size = 0) then
    (if 1048576 < v.text.size ∨ 4096 < v.items.length then 4 else 0) else 8
/-- The first number that is not 0. -/
def firstE : List Int → Int
  | [] => 0
  | e :: r => if e ≠ 0 then e else firstE r
theorem firstE_append : ∀ a b, firstE (a ++ b) = if firstE a ≠ 0 then firstE a else firstE b
  | [], b => by simp [firstE]
  | e :: a, b => by
    rw [List.cons_append, firstE, firstE, firstE_append a b]
    split
    · first | rfl | (rename_i h; rw [if_pos h])
    · rfl
mutual
/-- The first error in a value. -/
def allV : V → Int | .mk k n t l => if singV (.mk k n t l) ≠ 0 then singV (.mk k n t l) else allVL l
def allVL : List V → Int | [] => 0 | v :: r => if allV v ≠ 0 then allV v else allVL r
end
theorem allVL_first : ∀ l, allVL l = firstE (l.map allV)
  | [] => rfl
  | v :: r => by rw [allVL, allVL_first r]; rfl
theorem allV_eq (v : V) : allV v = if singV v ≠ 0 then singV v else firstE (v.items.map allV) := by
  cases v with
  | mk k n t l => rw [allV, allVL_first]; rfl
/-- The number of values, none if there are too many or too deep ones. -/
def measR : Nat → Int → V → Option Int
  | 0, _, _ => none
  | n + 1, most, v => if most < 1 then none else if v.kind = 3 then v.items.foldl (fun s u => s.bind fun size => (measR n (most - size) u).bind fun k => some (size + k)) (some 1) else some 1
def chkV (v : V) : Int := if measR 64 65536 v = none then 4 else allV v
def sizV (v : V) : Int := if chkV v = 0 then (measR 64 65536 v).getD 0 else 0

/-- The values in a value, with their depths. -/
def visits : Nat → Nat → Vl → List (Nat × Vl)
  | 0, d, v => [(d, v)]
  | f + 1, d, v => (d, v) :: if v.kind = 3 then v.items.flatMap (visits f (d + 1)) else []
theorem visits_ne (f d : Nat) (v : Vl) : visits f d v ≠ [] := by cases f <;> simp [visits]
theorem visits_rd {S : Nat → Prop} {w : World} : ∀ (f d : Nat) (v : Vl), Rd S w v → ∀ p ∈ visits f d v, Rd S w p.2
  | 0, d, v, h, p, hp => by simp [visits] at hp; subst hp; exact h
  | f + 1, d, v, h, p, hp => by
    rw [visits, List.mem_cons] at hp
    rcases hp with rfl | hp
    · exact h
    · split at hp
      · obtain ⟨u, hu, hp⟩ := List.mem_flatMap.1 hp
        obtain ⟨j, hj⟩ := List.mem_iff_getElem?.1 hu
        exact visits_rd f (d + 1) u ((rd_iff.1 h).2.2.2.2.2.2 j u hj).2 p hp
      · cases hp
/-- How many there are, if none is too deep. -/
def cntD : Nat → V → Option Nat
  | 0, _ => none
  | n + 1, v => if v.kind = 3 then v.items.foldl (fun s u => s.bind fun size => (cntD n u).bind fun k => some (size + k)) (some 1) else some 1
theorem foldl_none {α β : Type} (f : α → β → Option α) : ∀ l : List β, l.foldl (fun s u => s.bind fun a => f a u) none = none
  | [] => rfl
  | _ :: l => foldl_none f l
theorem cntD_pos : ∀ (n : Nat) (v : V) (k : Nat), cntD n v = some k → 1 ≤ k
  | 0, _, _, h => by cases h
  | n + 1, v, k, h => by
    rw [cntD] at h
    split at h
    · have key : ∀ (l : List V) (s : Nat), 1 ≤ s → l.foldl (fun s u => s.bind fun size => (cntD n u).bind fun k => some (size + k)) (some s) = some k → 1 ≤ k := by
        intro l
        induction l with
        | nil => intro s hs h; cases h; exact hs
        | cons u l ih =>
          intro s hs h
          rw [List.foldl_cons] at h
          cases hc : cntD n u with
          | none => rw [hc] at h; simp only [Option.bind_some, Option.bind_none] at h; rw [foldl_none (fun size u => (cntD n u).bind fun k => some (size + k))] at h; cases h
          | some c => rw [hc] at h; exact ih (s + c) (by omega) h
      exact key _ 1 (Nat.le_refl _) h
    · cases h; exact Nat.le_refl _
theorem measR_eq : ∀ (n : Nat) (most : Int) (v : V), measR n most v = match cntD n v with | none => none | some k => if (k : Int) ≤ most then some (k : Int) else none
  | 0, _, _ => rfl
  | n + 1, most, v => by
    rw [measR, cntD]
    by_cases hk : v.kind = 3
    · rw [if_pos hk, if_pos hk]
      have key : ∀ (l : List V) (s : Nat), 1 ≤ s → (l.foldl (fun s u => s.bind fun size => (measR n (most - size) u).bind fun k => some (size + k)) (some (s : Int)) : Option Int) =
          if most < s then (if l = [] then some (s : Int) else none) else match (l.foldl (fun s u => s.bind fun size => (cntD n u).bind fun k => some (size + k)) (some s) : Option Nat) with | none => none | some k => if (k : Int) ≤ most then some (k : Int) else none := by
        intro l
        induction l with
        | nil =>
          intro s hs
          by_cases h : most < (s : Int)
          · rw [if_pos h]; rfl
          · rw [if_neg h]; simp; omega
        | cons u l ih =>
          intro s hs
          rw [List.foldl_cons, List.foldl_cons]
          have hm := measR_eq n (most - s) u
          cases hc : cntD n u with
          | none =>
            rw [hc] at hm
            simp only [Option.bind_some, hm, Option.bind_none]
            rw [foldl_none (fun size u => (cntD n u).bind fun k => some (size + k)), foldl_none (fun size u => (measR n (most - size) u).bind fun k => some (size + k))]
            split <;> simp
          | some c =>
            have hc1 := cntD_pos n u c hc
            rw [hc] at hm
            simp only at hm
            simp only [Option.bind_some, hm]
            by_cases hle : (c : Int) ≤ most - s
            · rw [if_pos hle]
              simp only [Option.bind_some]
              rw [show (s : Int) + (c : Int) = ((s + c : Nat) : Int) by omega, ih (s + c) (by omega), if_neg (by omega), if_neg (by omega)]
            · rw [if_neg hle]
              simp only [Option.bind_none]
              rw [foldl_none (fun size u => (measR n (most - size) u).bind fun k => some (size + k))]
              split
              · simp
              · have grow : ∀ (l : List V) (s : Nat), most < s → (match (l.foldl (fun s u => s.bind fun size => (cntD n u).bind fun k => some (size + k)) (some s) : Option Nat) with | none => none | some k => if (k : Int) ≤ most then some (k : Int) else none) = none := by
                  intro l
                  induction l with
                  | nil => intro s hs; simp; omega
                  | cons u l ih =>
                    intro s hs
                    rw [List.foldl_cons]
                    cases hc : cntD n u with
                    | none => simp only [Option.bind_some, Option.bind_none]; rw [foldl_none (fun size u => (cntD n u).bind fun k => some (size + k))]
                    | some c => simp only [Option.bind_some]; exact ih (s + c) (by omega)
                exact (grow l (s + c) (by omega)).symm
      by_cases hm1 : most < 1
      · rw [if_pos hm1]
        have grow : ∀ (l : List V) (s : Nat), most < s → (match (l.foldl (fun s u => s.bind fun size => (cntD n u).bind fun k => some (size + k)) (some s) : Option Nat) with | none => none | some k => if (k : Int) ≤ most then some (k : Int) else none) = none := by
          intro l
          induction l with
          | nil => intro s hs; simp; omega
          | cons u l ih =>
            intro s hs
            rw [List.foldl_cons]
            cases hc : cntD n u with
            | none => simp only [Option.bind_some, Option.bind_none]; rw [foldl_none (fun size u => (cntD n u).bind fun k => some (size + k))]
            | some c => simp only [Option.bind_some]; exact ih (s + c) (by omega)
        exact (grow v.items 1 (by omega)).symm
      · rw [if_neg hm1]
        have := key v.items 1 (Nat.le_refl _)
        rw [if_neg (by omega)] at this
        exact this
    · rw [if_neg hk, if_neg hk]
      by_cases hm1 : most < 1
      · rw [if_pos hm1]; simp; omega
      · rw [if_neg hm1]; simp; omega
end Go.Proofs.YtancjkaoocgeeaaDoor

namespace Go.Proofs.YtancjkaoocgeeaaDoor

theorem visits_cnt : ∀ (f d : Nat) (v : Vl), d + f = 65 → match cntD f v.er with
    | some k => (visits f d v).length = k ∧ ∀ p ∈ visits f d v, p.1 ≤ 64
    | none => ∃ p ∈ visits f d v, 64 < p.1
  | 0, d, v, h => by
    rw [cntD]
    exact ⟨(d, v), by simp [visits], by show 64 < d; omega⟩
  | f + 1, d, v, h => by
    rw [cntD, visits, Vl.er_kind, Vl.er_items]
    by_cases hk : v.kind = 3
    · rw [if_pos hk, if_pos hk]
      have key : ∀ (l : List Vl) (s : Nat), match ((l.map Vl.er).foldl (fun s u => s.bind fun size => (cntD f u).bind fun k => some (size + k)) (some s) : Option Nat) with
          | some k => s + (l.flatMap (visits f (d + 1))).length = k ∧ ∀ p ∈ l.flatMap (visits f (d + 1)), p.1 ≤ 64
          | none => ∃ p ∈ l.flatMap (visits f (d + 1)), 64 < p.1 := by
        intro l
        induction l with
        | nil => intro s; simp
        | cons u l ih =>
          intro s
          have hu := visits_cnt f (d + 1) u (by omega)
          rw [List.map_cons, List.foldl_cons, List.flatMap_cons]
          cases hc : cntD f u.er with
          | none =>
            rw [hc] at hu
            simp only [Option.bind_some, Option.bind_none]
            rw [foldl_none (fun size u => (cntD f u).bind fun k => some (size + k))]
            obtain ⟨p, hp, h1⟩ := hu
            exact ⟨p, by simp [hp], h1⟩
          | some c =>
            rw [hc] at hu
            obtain ⟨h1, h2⟩ := hu
            have := ih (s + c)
            simp only [Option.bind_some]
            cases hx : ((l.map Vl.er).foldl (fun s u => s.bind fun size => (cntD f u).bind fun k => some (size + k)) (some (s + c)) : Option Nat) with
            | none =>
              rw [hx] at this
              obtain ⟨p, hp, h3⟩ := this
              exact ⟨p, by rw [List.mem_append]; exact .inr hp, h3⟩
            | some k =>
              rw [hx] at this
              obtain ⟨h3, h4⟩ := this
              refine ⟨by rw [List.length_append]; omega, fun p hp => ?_⟩
              rcases List.mem_append.1 hp with hp | hp
              · exact h2 p hp
              · exact h4 p hp
      have := key v.items 1
      split at this
      · rename_i k hx
        exact ⟨by rw [List.length_cons]; omega, fun p hp => by
          rcases List.mem_cons.1 hp with rfl | hp
          · show d ≤ 64; omega
          · exact this.2 p hp⟩
      · obtain ⟨p, hp, h1⟩ := this
        exact ⟨p, List.mem_cons_of_mem _ hp, h1⟩
    · rw [if_neg hk, if_neg hk]
      exact ⟨rfl, fun p hp => by simp at hp; subst hp; show d ≤ 64; omega⟩
/-- All values in a value. -/
def vis (v : Vl) : List (Nat × Vl) := visits 64 1 v
/-- Whether there are not too many, nor too deep ones. -/
def okM (v : Vl) : Prop := (∀ p ∈ vis v, p.1 ≤ 64) ∧ (vis v).length ≤ 65536
theorem measR_vis (v : Vl) : (okM v → measR 64 65536 v.er = some ((vis v).length : Int)) ∧ (¬ okM v → measR 64 65536 v.er = none) := by
  have h := visits_cnt 64 1 v rfl
  have hm := measR_eq 64 65536 v.er
  cases hc : cntD 64 v.er with
  | none =>
    rw [hc] at h hm
    refine ⟨fun ho => ?_, fun _ => hm⟩
    obtain ⟨p, hp, h1⟩ := h
    have := ho.1 p hp
    omega
  | some k =>
    rw [hc] at h hm
    obtain ⟨h1, h2⟩ := h
    have h1 : (vis v).length = k := h1
    constructor
    · intro ho
      rw [hm, h1]
      exact if_pos (by have := ho.2; omega)
    · intro ho
      rw [hm]
      refine if_neg fun hle => ho ⟨h2, by omega⟩
/-- The first error of a value alone among some. -/
def firstV (l : List (Nat × Vl)) : Int := firstE (l.map fun p => singV p.2.er)
theorem firstV_append (a b : List (Nat × Vl)) : firstV (a ++ b) = if firstV a ≠ 0 then firstV a else firstV b := by
  rw [firstV, List.map_append, firstE_append]; rfl
theorem firstV_all : ∀ (f d : Nat) (v : Vl), d + f = 65 → (∀ p ∈ visits f d v, p.1 ≤ 64) → firstV (visits f d v) = allV v.er
  | 0, d, v, h, hd => by have := hd (d, v) (by simp [visits]); simp at this; omega
  | f + 1, d, v, h, hd => by
    rw [allV_eq, Vl.er_items]
    rw [visits] at hd ⊢
    have e0 : ∀ l, firstV ((d, v) :: l) = if singV v.er ≠ 0 then singV v.er else firstV l := fun l => rfl
    rw [e0]
    by_cases hs : singV v.er ≠ 0
    · rw [if_pos hs, if_pos hs]
    · rw [if_neg hs, if_neg hs]
      by_cases hk : v.kind = 3
      · rw [if_pos hk] at hd ⊢
        have key : ∀ l : List Vl, (∀ p ∈ l.flatMap (visits f (d + 1)), p.1 ≤ 64) → firstV (l.flatMap (visits f (d + 1))) = firstE ((l.map Vl.er).map allV) := by
          intro l
          induction l with
          | nil => intro _; rfl
          | cons u l ih =>
            intro hp
            rw [List.flatMap_cons] at hp ⊢
            rw [firstV_append, firstV_all f (d + 1) u (by omega) (fun p h => hp p (by rw [List.mem_append]; exact .inl h)), ih (fun p h => hp p (by rw [List.mem_append]; exact .inr h))]
            rfl
        exact key _ fun p hp => hd p (List.mem_cons_of_mem _ hp)
      · rw [if_neg hk]
        have : v.items = [] := by
          have hs' : singV v.er = 0 := by simpa using hs
          unfold singV at hs'
          rw [Vl.er_kind, Vl.er_len] at hs'
          split at hs'
          · rename_i hc
            exact List.eq_nil_of_length_eq_zero (by omega)
          · cases hs'
        rw [this]; rfl
theorem firstV_ok {v : Vl} (h : okM v) : firstV (vis v) = allV v.er := firstV_all 64 1 v rfl h.1
theorem singV_zero_or (v : V) : singV v = 0 ∨ singV v = 4 ∨ singV v = 8 := by unfold singV; split <;> (try split) <;> simp
end Go.Proofs.YtancjkaoocgeeaaDoor
