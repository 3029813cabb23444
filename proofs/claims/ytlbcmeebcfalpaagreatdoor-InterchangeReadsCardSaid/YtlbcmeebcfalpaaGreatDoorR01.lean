/- Joined: CPure1, IDv, CBld, CEnv, CPure3, CAppS. -/
import Derived.Test.YtlbcmeebcfalpaaGreatDoorR00
import Derived.Lib.AppendStr
import Derived.Lib.AtoiErrMem
import Derived.Lib.AtoiAllCases
import Derived.Lib.ItoaLen
import Derived.Lib.LaidTab
set_option linter.unusedVariables false
set_option linter.unusedSimpArgs false
set_option maxRecDepth 100000
set_option maxHeartbeats 16000000
namespace Go.Proofs.YtlbcmeebcfalpaaGreatDoor

/-- A value, without addresses. -/
inductive V where
  | mk (kind num : Int) (text : ByteArray) (items : List V)
namespace V
def kind : V -> Int | mk k _ _ _ => k
def num : V -> Int | mk _ n _ _ => n
def text : V -> ByteArray | mk _ _ t _ => t
def items : V -> List V | mk _ _ _ l => l
theorem ind {P : V -> Prop} (h : ∀ v, (∀ u ∈ v.items, P u) -> P v) : ∀ v, P v
  | mk k n t l => h _ fun u hu => by
    have := List.sizeOf_lt_of_mem hu
    exact ind h u
  termination_by v => SizeOf.sizeOf v
  decreasing_by
    simp only [items] at hu
    have := List.sizeOf_lt_of_mem hu
    simp; omega
theorem eta : ∀ v : V, v = mk v.kind v.num v.text v.items | mk _ _ _ _ => rfl
end V
mutual
def Vl.er : Vl -> V | .mk k n t _ _ l => .mk k n t (Vl.erL l)
def Vl.erL : List Vl -> List V | [] => [] | v :: r => Vl.er v :: Vl.erL r
end
theorem Vl.erL_map : ∀ l : List Vl, Vl.erL l = l.map Vl.er
  | [] => rfl
  | v :: r => by rw [Vl.erL, Vl.erL_map r]; rfl
namespace Vl
theorem er_kind : ∀ v : Vl, v.er.kind = v.kind | .mk _ _ _ _ _ _ => by rw [er]; rfl
theorem er_num : ∀ v : Vl, v.er.num = v.num | .mk _ _ _ _ _ _ => by rw [er]; rfl
theorem er_text : ∀ v : Vl, v.er.text = v.text | .mk _ _ _ _ _ _ => by rw [er]; rfl
theorem er_items : ∀ v : Vl, v.er.items = v.items.map er | .mk _ _ _ _ _ _ => by rw [er, erL_map]; rfl
theorem er_len (v : Vl) : v.er.items.length = v.items.length := by rw [er_items]; simp
end Vl

/-- What is wrong with a value alone. -/
def singV (v : V) : Int :=
  if (v.kind = 1 /\ v.text.size = 0 /\ v.items.length = 0) \/ (v.kind = 2 /\ v.num = 0 /\ v.items.length = 0) \/ (v.kind = 3 /\ v.num = 0 /\ v.text.size = 0) then
    (if 1048576 < v.text.size \/ 4096 < v.items.length then 4 else 0) else 8
/-- The first number that is not 0. -/
def firstE : List Int -> Int
  | [] => 0
  | e :: r => if e ≠ 0 then e else firstE r
theorem firstE_append : ∀ a b, firstE (a ++ b) = if firstE a ≠ 0 then firstE a else firstE b
  | [], b => by simp [firstE]
  | e :: a, b => by
    rw [List.cons_append, firstE, firstE, firstE_append a b]
    split
    · first | rfl | (rename_i h; rw [if_pos h])
    · rfl
mutual
/-- The first error in a value. -/
def allV : V -> Int | .mk k n t l => if singV (.mk k n t l) ≠ 0 then singV (.mk k n t l) else allVL l
def allVL : List V -> Int | [] => 0 | v :: r => if allV v ≠ 0 then allV v else allVL r
end
theorem allVL_first : ∀ l, allVL l = firstE (l.map allV)
  | [] => rfl
  | v :: r => by rw [allVL, allVL_first r]; rfl
theorem allV_eq (v : V) : allV v = if singV v ≠ 0 then singV v else firstE (v.items.map allV) := by
  cases v with
  | mk k n t l => rw [allV, allVL_first]; rfl
/-- The number of values, none if there are too many or too deep ones. -/
def measR : Nat -> Int -> V -> Option Int
  | 0, _, _ => none
  | n + 1, most, v => if most < 1 then none else if v.kind = 3 then v.items.foldl (fun s u => s.bind fun size => (measR n (most - size) u).bind fun k => some (size + k)) (some 1) else some 1
def chkV (v : V) : Int := if measR 64 65536 v = none then 4 else allV v
def sizV (v : V) : Int := if chkV v = 0 then (measR 64 65536 v).getD 0 else 0

/-- The values in a value, with their depths. -/
def visits : Nat -> Nat -> Vl -> List (Nat × Vl)
  | 0, d, v => [(d, v)]
  | f + 1, d, v => (d, v) :: if v.kind = 3 then v.items.flatMap (visits f (d + 1)) else []
theorem visits_rd {S : Nat -> Prop} {w : World} : ∀ (f d : Nat) (v : Vl), Rd S w v -> ∀ p ∈ visits f d v, Rd S w p.2
  | 0, d, v, h, p, hp => by simp [visits] at hp; subst hp; exact h
  | f + 1, d, v, h, p, hp => by
    rw [visits, List.mem_cons] at hp
    rcases hp with rfl | hp
    · exact h
    · split at hp
      · obtain ⟨u, hu, hp⟩ := List.mem_flatMap.1 hp
        obtain ⟨j, hj⟩ := List.mem_iff_getElem?.1 hu
        exact visits_rd f (d + 1) u ((rd_iff.1 h).2.2.2.2.2.2 j u hj).2 p hp
      · cases hp
/-- How many there are, if none is too deep. -/
def cntD : Nat -> V -> Option Nat
  | 0, _ => none
  | n + 1, v => if v.kind = 3 then v.items.foldl (fun s u => s.bind fun size => (cntD n u).bind fun k => some (size + k)) (some 1) else some 1
theorem foldl_none {α β : Type} (f : α -> β -> Option α) : ∀ l : List β, l.foldl (fun s u => s.bind fun a => f a u) none = none
  | [] => rfl
  | _ :: l => foldl_none f l
theorem cntD_pos : ∀ (n : Nat) (v : V) (k : Nat), cntD n v = some k -> 1 <= k
  | 0, _, _, h => by cases h
  | n + 1, v, k, h => by
    rw [cntD] at h
    split at h
    · have key : ∀ (l : List V) (s : Nat), 1 <= s -> l.foldl (fun s u => s.bind fun size => (cntD n u).bind fun k => some (size + k)) (some s) = some k -> 1 <= k := by
        intro l
        induction l with
        | nil => intro s hs h; cases h; exact hs
        | cons u l ih =>
          intro s hs h
          rw [List.foldl_cons] at h
          cases hc : cntD n u with
          | none => rw [hc] at h; simp only [Option.bind_some, Option.bind_none] at h; rw [foldl_none (fun size u => (cntD n u).bind fun k => some (size + k))] at h; cases h
          | some c => rw [hc] at h; exact ih (s + c) (by omega) h
      exact key _ 1 (Nat.le_refl _) h
    · cases h; exact Nat.le_refl _
theorem measR_eq : ∀ (n : Nat) (most : Int) (v : V), measR n most v = match cntD n v with | none => none | some k => if (k : Int) <= most then some (k : Int) else none
  | 0, _, _ => rfl
  | n + 1, most, v => by
    rw [measR, cntD]
    by_cases hk : v.kind = 3
    · rw [if_pos hk, if_pos hk]
      have key : ∀ (l : List V) (s : Nat), 1 <= s -> (l.foldl (fun s u => s.bind fun size => (measR n (most - size) u).bind fun k => some (size + k)) (some (s : Int)) : Option Int) =
          if most < s then (if l = [] then some (s : Int) else none) else match (l.foldl (fun s u => s.bind fun size => (cntD n u).bind fun k => some (size + k)) (some s) : Option Nat) with | none => none | some k => if (k : Int) <= most then some (k : Int) else none := by
        intro l
        induction l with
        | nil =>
          intro s hs
          by_cases h : most < (s : Int)
          · rw [if_pos h]; rfl
          · rw [if_neg h]; simp; omega
        | cons u l ih =>
          intro s hs
          rw [List.foldl_cons, List.foldl_cons]
          have hm := measR_eq n (most - s) u
          cases hc : cntD n u with
          | none =>
            rw [hc] at hm
            simp only [Option.bind_some, hm, Option.bind_none]
            rw [foldl_none (fun size u => (cntD n u).bind fun k => some (size + k)), foldl_none (fun size u => (measR n (most - size) u).bind fun k => some (size + k))]
            split <;> simp
          | some c =>
            have hc1 := cntD_pos n u c hc
            rw [hc] at hm
            simp only at hm
            simp only [Option.bind_some, hm]
            by_cases hle : (c : Int) <= most - s
            · rw [if_pos hle]
              simp only [Option.bind_some]
              rw [show (s : Int) + (c : Int) = ((s + c : Nat) : Int) by omega, ih (s + c) (by omega), if_neg (by omega), if_neg (by omega)]
            · rw [if_neg hle]
              simp only [Option.bind_none]
              rw [foldl_none (fun size u => (measR n (most - size) u).bind fun k => some (size + k))]
              split
              · simp
              · have grow : ∀ (l : List V) (s : Nat), most < s -> (match (l.foldl (fun s u => s.bind fun size => (cntD n u).bind fun k => some (size + k)) (some s) : Option Nat) with | none => none | some k => if (k : Int) <= most then some (k : Int) else none) = none := by
                  intro l
                  induction l with
                  | nil => intro s hs; simp; omega
                  | cons u l ih =>
                    intro s hs
                    rw [List.foldl_cons]
                    cases hc : cntD n u with
                    | none => simp only [Option.bind_some, Option.bind_none]; rw [foldl_none (fun size u => (cntD n u).bind fun k => some (size + k))]
                    | some c => simp only [Option.bind_some]; exact ih (s + c) (by omega)
                exact (grow l (s + c) (by omega)).symm
      by_cases hm1 : most < 1
      · rw [if_pos hm1]
        have grow : ∀ (l : List V) (s : Nat), most < s -> (match (l.foldl (fun s u => s.bind fun size => (cntD n u).bind fun k => some (size + k)) (some s) : Option Nat) with | none => none | some k => if (k : Int) <= most then some (k : Int) else none) = none := by
          intro l
          induction l with
          | nil => intro s hs; simp; omega
          | cons u l ih =>
            intro s hs
            rw [List.foldl_cons]
            cases hc : cntD n u with
            | none => simp only [Option.bind_some, Option.bind_none]; rw [foldl_none (fun size u => (cntD n u).bind fun k => some (size + k))]
            | some c => simp only [Option.bind_some]; exact ih (s + c) (by omega)
        exact (grow v.items 1 (by omega)).symm
      · rw [if_neg hm1]
        have := key v.items 1 (Nat.le_refl _)
        rw [if_neg (by omega)] at this
        exact this
    · rw [if_neg hk, if_neg hk]
      by_cases hm1 : most < 1
      · rw [if_pos hm1]; simp; omega
      · rw [if_neg hm1]; simp; omega
end Go.Proofs.YtlbcmeebcfalpaaGreatDoor

namespace Go.Proofs.YtlbcmeebcfalpaaGreatDoor

theorem visits_cnt : ∀ (f d : Nat) (v : Vl), d + f = 65 -> match cntD f v.er with
    | some k => (visits f d v).length = k /\ ∀ p ∈ visits f d v, p.1 <= 64
    | none => ∃ p ∈ visits f d v, 64 < p.1
  | 0, d, v, h => by
    rw [cntD]
    exact ⟨(d, v), by simp [visits], by show 64 < d; omega⟩
  | f + 1, d, v, h => by
    rw [cntD, visits, Vl.er_kind, Vl.er_items]
    by_cases hk : v.kind = 3
    · rw [if_pos hk, if_pos hk]
      have key : ∀ (l : List Vl) (s : Nat), match ((l.map Vl.er).foldl (fun s u => s.bind fun size => (cntD f u).bind fun k => some (size + k)) (some s) : Option Nat) with
          | some k => s + (l.flatMap (visits f (d + 1))).length = k /\ ∀ p ∈ l.flatMap (visits f (d + 1)), p.1 <= 64
          | none => ∃ p ∈ l.flatMap (visits f (d + 1)), 64 < p.1 := by
        intro l
        induction l with
        | nil => intro s; simp
        | cons u l ih =>
          intro s
          have hu := visits_cnt f (d + 1) u (by omega)
          rw [List.map_cons, List.foldl_cons, List.flatMap_cons]
          cases hc : cntD f u.er with
          | none =>
            rw [hc] at hu
            simp only [Option.bind_some, Option.bind_none]
            rw [foldl_none (fun size u => (cntD f u).bind fun k => some (size + k))]
            obtain ⟨p, hp, h1⟩ := hu
            exact ⟨p, by simp [hp], h1⟩
          | some c =>
            rw [hc] at hu
            obtain ⟨h1, h2⟩ := hu
            have := ih (s + c)
            simp only [Option.bind_some]
            cases hx : ((l.map Vl.er).foldl (fun s u => s.bind fun size => (cntD f u).bind fun k => some (size + k)) (some (s + c)) : Option Nat) with
            | none =>
              rw [hx] at this
              obtain ⟨p, hp, h3⟩ := this
              exact ⟨p, by rw [List.mem_append]; exact .inr hp, h3⟩
            | some k =>
              rw [hx] at this
              obtain ⟨h3, h4⟩ := this
              refine ⟨by rw [List.length_append]; omega, fun p hp => ?_⟩
              rcases List.mem_append.1 hp with hp | hp
              · exact h2 p hp
              · exact h4 p hp
      have := key v.items 1
      split at this
      · rename_i k hx
        exact ⟨by rw [List.length_cons]; omega, fun p hp => by
          rcases List.mem_cons.1 hp with rfl | hp
          · show d <= 64; omega
          · exact this.2 p hp⟩
      · obtain ⟨p, hp, h1⟩ := this
        exact ⟨p, List.mem_cons_of_mem _ hp, h1⟩
    · rw [if_neg hk, if_neg hk]
      exact ⟨rfl, fun p hp => by simp at hp; subst hp; show d <= 64; omega⟩
/-- All values in a value. -/
def vis (v : Vl) : List (Nat × Vl) := visits 64 1 v
/-- Whether there are not too many, nor too deep ones. -/
def okM (v : Vl) : Prop := (∀ p ∈ vis v, p.1 <= 64) /\ (vis v).length <= 65536
theorem measR_vis (v : Vl) : (okM v -> measR 64 65536 v.er = some ((vis v).length : Int)) /\ (¬ okM v -> measR 64 65536 v.er = none) := by
  have h := visits_cnt 64 1 v rfl
  have hm := measR_eq 64 65536 v.er
  cases hc : cntD 64 v.er with
  | none =>
    rw [hc] at h hm
    refine ⟨fun ho => ?_, fun _ => hm⟩
    obtain ⟨p, hp, h1⟩ := h
    have := ho.1 p hp
    omega
  | some k =>
    rw [hc] at h hm
    obtain ⟨h1, h2⟩ := h
    have h1 : (vis v).length = k := h1
    constructor
    · intro ho
      rw [hm, h1]
      exact if_pos (by have := ho.2; omega)
    · intro ho
      rw [hm]
      refine if_neg fun hle => ho ⟨h2, by omega⟩
/-- The first error of a value alone among some. -/
def firstV (l : List (Nat × Vl)) : Int := firstE (l.map fun p => singV p.2.er)
theorem firstV_append (a b : List (Nat × Vl)) : firstV (a ++ b) = if firstV a ≠ 0 then firstV a else firstV b := by
  rw [firstV, List.map_append, firstE_append]; rfl
theorem firstV_all : ∀ (f d : Nat) (v : Vl), d + f = 65 -> (∀ p ∈ visits f d v, p.1 <= 64) -> firstV (visits f d v) = allV v.er
  | 0, d, v, h, hd => by have := hd (d, v) (by simp [visits]); simp at this; omega
  | f + 1, d, v, h, hd => by
    rw [allV_eq, Vl.er_items]
    rw [visits] at hd ⊢
    have e0 : ∀ l, firstV ((d, v) :: l) = if singV v.er ≠ 0 then singV v.er else firstV l := fun l => rfl
    rw [e0]
    by_cases hs : singV v.er ≠ 0
    · rw [if_pos hs, if_pos hs]
    · rw [if_neg hs, if_neg hs]
      by_cases hk : v.kind = 3
      · rw [if_pos hk] at hd ⊢
        have key : ∀ l : List Vl, (∀ p ∈ l.flatMap (visits f (d + 1)), p.1 <= 64) -> firstV (l.flatMap (visits f (d + 1))) = firstE ((l.map Vl.er).map allV) := by
          intro l
          induction l with
          | nil => intro _; rfl
          | cons u l ih =>
            intro hp
            rw [List.flatMap_cons] at hp ⊢
            rw [firstV_append, firstV_all f (d + 1) u (by omega) (fun p h => hp p (by rw [List.mem_append]; exact .inl h)), ih (fun p h => hp p (by rw [List.mem_append]; exact .inr h))]
            rfl
        exact key _ fun p hp => hd p (List.mem_cons_of_mem _ hp)
      · rw [if_neg hk]
        have : v.items = [] := by
          have hs' : singV v.er = 0 := by simpa using hs
          unfold singV at hs'
          rw [Vl.er_kind, Vl.er_len] at hs'
          split at hs'
          · rename_i hc
            exact List.eq_nil_of_length_eq_zero (by omega)
          · cases hs'
        rw [this]; rfl
theorem firstV_ok {v : Vl} (h : okM v) : firstV (vis v) = allV v.er := firstV_all 64 1 v rfl h.1
end Go.Proofs.YtlbcmeebcfalpaaGreatDoor
namespace Go.Proofs.YtlbcmeebcfalpaaGreatDoor
open Go.RowKit

inductive Dv where
  | int (n : Int)
  | bool (b : Bool)
  | text (t : ByteArray)
  | struc (l : List Dv)
  | list (k s : Nat) (a : Option Addr) (c : Nat) (l : List Dv)
namespace Dv
theorem ind {P : Dv -> Prop} (hi : ∀ n, P (.int n)) (hb : ∀ b, P (.bool b)) (ht : ∀ t, P (.text t)) (hs : ∀ l, (∀ d ∈ l, P d) -> P (.struc l)) (hl : ∀ k s a c l, (∀ d ∈ l, P d) -> P (.list k s a c l)) : ∀ d, P d
  | .int n => hi n
  | .bool b => hb b
  | .text t => ht t
  | .struc l => hs l fun d hd => by
    have := List.sizeOf_lt_of_mem hd
    exact ind hi hb ht hs hl d
  | .list k s a c l => hl k s a c l fun d hd => by
    have := List.sizeOf_lt_of_mem hd
    exact ind hi hb ht hs hl d
  termination_by d => SizeOf.sizeOf d
  decreasing_by
    · have := List.sizeOf_lt_of_mem hd
      simp; omega
    · have := List.sizeOf_lt_of_mem hd
      simp; omega
mutual
def cells : Dv -> List Value
  | .int n => [.int .i64 n]
  | .bool b => [.bool b]
  | .text t => [.string t]
  | .struc l => cellsL l
  | .list _ _ a c l => [.slice a l.length c]
def cellsL : List Dv -> List Value
  | [] => []
  | d :: r => cells d ++ cellsL r
end
mutual
/-- The value of codec that stands for it. -/
def toV : Dv -> V
  | .int n => .mk 1 n ⟨#[]⟩ []
  | .bool b => .mk 1 (if b then 1 else 0) ⟨#[]⟩ []
  | .text t => .mk 2 0 t []
  | .struc l => .mk 3 0 ⟨#[]⟩ (toVL l)
  | .list _ _ _ _ l => .mk 3 0 ⟨#[]⟩ (toVL l)
def toVL : List Dv -> List V
  | [] => []
  | d :: r => toV d :: toVL r
end
theorem toVL_map : ∀ l : List Dv, toVL l = l.map toV
  | [] => rfl
  | d :: r => by rw [toVL, toVL_map r]; rfl
end Dv
/-- These cells, one behind the other. -/
def AtC (w : World) (b o : Nat) (cs : List Value) : Prop := ∀ i x, cs[i]? = some x -> w.cell? ⟨b, o + i, none⟩ = some x
theorem AtC.keep {S : Nat -> Prop} {w w' : World} {b o : Nat} {cs : List Value} (h : AtC w b o cs) (hs : S b) (k : KeepS S w w') : AtC w' b o cs := fun i x hx => k.cell hs (h i x hx)
theorem AtC.append {w : World} {b o : Nat} {cs ds : List Value} : AtC w b o (cs ++ ds) ↔ AtC w b o cs /\ AtC w b (o + cs.length) ds := by
  constructor
  · intro h
    refine ⟨fun i x hx => h i x ?_, fun i x hx => ?_⟩
    · rw [List.getElem?_append_left (List.getElem?_eq_some_iff.1 hx).1]; exact hx
    · rw [Nat.add_assoc]
      exact h (cs.length + i) x (by rw [List.getElem?_append_right (by omega), Nat.add_sub_cancel_left]; exact hx)
  · rintro ⟨h1, h2⟩ i x hx
    by_cases hi : i < cs.length
    · rw [List.getElem?_append_left hi] at hx; exact h1 i x hx
    · rw [List.getElem?_append_right (by omega)] at hx
      have := h2 (i - cs.length) x hx
      rwa [show o + cs.length + (i - cs.length) = o + i by omega] at this
mutual
/-- The data reads in w; its lists lie in blocks of S. -/
def RdD (S : Nat -> Prop) (w : World) : Dv -> Prop
  | .int n => I64 n
  | .bool _ => True
  | .text t => t.size <= 140737488355328
  | .struc l => RdDL S w l
  | .list k s a c l => l.length <= c /\ l.length * s <= 140737488355328 /\ RdDI S w k a 0 l
def RdDL (S : Nat -> Prop) (w : World) : List Dv -> Prop
  | [] => True
  | d :: r => RdD S w d /\ RdDL S w r
def RdDI (S : Nat -> Prop) (w : World) (k : Nat) (a : Option Addr) : Nat -> List Dv -> Prop
  | _, [] => True
  | j, d :: r => (∃ b off, a = some ⟨b, off, none⟩ /\ S b /\ AtC w b (off + j * k) d.cells) /\ RdD S w d /\ RdDI S w k a (j + 1) r
end
theorem rdDL_iff {S : Nat -> Prop} {w : World} : ∀ l : List Dv, RdDL S w l ↔ ∀ d ∈ l, RdD S w d
  | [] => by simp [RdDL]
  | d :: r => by rw [RdDL, rdDL_iff r]; simp
theorem rdDI_iff {S : Nat -> Prop} {w : World} {k : Nat} {a : Option Addr} : ∀ (l : List Dv) (i : Nat), RdDI S w k a i l ↔ ∀ j d, l[j]? = some d -> (∃ b off, a = some ⟨b, off, none⟩ /\ S b /\ AtC w b (off + (i + j) * k) d.cells) /\ RdD S w d
  | [], i => by simp [RdDI]
  | u :: r, i => by
    rw [RdDI, rdDI_iff r (i + 1)]
    constructor
    · rintro ⟨h1, h2, h3⟩ j d hj
      cases j with
      | zero => simp at hj; subst hj; exact ⟨h1, h2⟩
      | succ j =>
        have := h3 j d (by simpa using hj)
        rw [show i + 1 + j = i + (j + 1) by omega] at this
        exact this
    · intro h
      obtain ⟨h1, h2⟩ := h 0 u rfl
      refine ⟨h1, h2, fun j d hj => ?_⟩
      have := h (j + 1) d (by simpa using hj)
      rw [show i + 1 + j = i + (j + 1) by omega]
      exact this
/-- The slice value 'a n c' reads as a list of data, k cells each. -/
def Items (S : Nat -> Prop) (w : World) (k s : Nat) (a : Option Addr) (n c : Nat) (l : List Dv) : Prop :=
  n = l.length /\ n <= c /\ n * s <= 140737488355328 /\ ∀ j d, l[j]? = some d -> (∃ b off, a = some ⟨b, off, none⟩ /\ S b /\ AtC w b (off + j * k) d.cells) /\ RdD S w d
theorem rdD_list {S : Nat -> Prop} {w : World} {k s : Nat} {a : Option Addr} {c : Nat} {l : List Dv} : RdD S w (.list k s a c l) ↔ Items S w k s a l.length c l := by
  rw [RdD, rdDI_iff]
  simp only [Nat.zero_add, Items, true_and]
theorem rdD_struc {S : Nat -> Prop} {w : World} {l : List Dv} : RdD S w (.struc l) ↔ ∀ d ∈ l, RdD S w d := by rw [RdD, rdDL_iff]
theorem RdD.keep {S : Nat -> Prop} {w w' : World} (h : KeepS S w w') (d : Dv) : RdD S w d -> RdD S w' d := by
  induction d using Dv.ind with
  | hi n => intro k; exact k
  | hb b => intro _; trivial
  | ht t => intro k; exact k
  | hs l ih => rw [rdD_struc, rdD_struc]; exact fun k d hd => ih d hd (k d hd)
  | hl k s a c l ih =>
    rw [rdD_list, rdD_list]
    rintro ⟨h1, h2, h3, h4⟩
    refine ⟨h1, h2, h3, fun j d hj => ?_⟩
    obtain ⟨⟨b, off, e, hs, hat⟩, hr⟩ := h4 j d hj
    exact ⟨⟨b, off, e, hs, hat.keep hs h⟩, ih d (List.mem_of_getElem? hj) hr⟩
theorem RdD.below {S : Nat -> Prop} {w w' : World} {d : Dv} (h : RdD S w d) (hb : Below w.heap.size w w') : RdD S w' d := h.keep (.below hb)
namespace Items
variable {S S' : Nat -> Prop} {w w' : World} {k s : Nat} {a : Option Addr} {n c : Nat} {l : List Dv}
theorem keep (kk : KeepS S w w') (h : Items S w k s a n c l) : Items S w' k s a n c l :=
  ⟨h.1, h.2.1, h.2.2.1, fun j d hj => by
    obtain ⟨⟨b, off, e, hs, hat⟩, hr⟩ := h.2.2.2 j d hj
    exact ⟨⟨b, off, e, hs, hat.keep hs kk⟩, hr.keep kk⟩⟩
theorem below (h : Items S w k s a n c l) (hb : Below w.heap.size w w') : Items S w' k s a n c l := h.keep (.below hb)
theorem get (h : Items S w k s a n c l) {j : Nat} (hj : j < n) : ∃ d b off, l[j]? = some d /\ d ∈ l /\ a = some ⟨b, off, none⟩ /\ S b /\ AtC w b (off + j * k) d.cells /\ RdD S w d := by
  have hl : j < l.length := by rw [<- h.1]; exact hj
  have e := List.getElem?_eq_getElem hl
  obtain ⟨⟨b, off, ea, hs, hat⟩, hr⟩ := h.2.2.2 j _ e
  exact ⟨l[j], b, off, e, List.getElem_mem hl, ea, hs, hat, hr⟩
theorem nil (S : Nat -> Prop) (w : World) (k s : Nat) : Items S w k s none 0 0 [] := ⟨rfl, Nat.le_refl _, by omega, fun j v hj => by simp at hj⟩
end Items
mutual
/-- Every list in it has at most 70000 items. -/
def Sm : Dv -> Prop
  | .int _ => True
  | .bool _ => True
  | .text _ => True
  | .struc l => SmL l
  | .list _ _ _ _ l => l.length <= 70000 /\ SmL l
def SmL : List Dv -> Prop
  | [] => True
  | d :: r => Sm d /\ SmL r
end
theorem smL_iff : ∀ l : List Dv, SmL l ↔ ∀ d ∈ l, Sm d
  | [] => by simp [SmL]
  | d :: r => by rw [SmL, smL_iff r]; simp
theorem sm_struc {l : List Dv} : Sm (.struc l) ↔ ∀ d ∈ l, Sm d := by rw [Sm, smL_iff]
theorem sm_list {k s : Nat} {a : Option Addr} {c : Nat} {l : List Dv} : Sm (.list k s a c l) ↔ l.length <= 70000 /\ ∀ d ∈ l, Sm d := by rw [Sm, smL_iff]
/-- Types: how the data is built. -/
inductive Ty where
  | int
  | bool
  | text
  | node
  | expr
  | struc (l : List Ty)
  | list (k s : Nat) (t : Ty)
abbrev nodeTy : Ty := .struc [.int, .text, .int, .list 4 56 .node]
abbrev exprTy : Ty := .struc [.int, .int, .text, .list 4 56 .expr]
mutual
inductive Has : Ty -> Dv -> Prop
  | int (n : Int) : Has .int (.int n)
  | bool (b : Bool) : Has .bool (.bool b)
  | text (t : ByteArray) : Has .text (.text t)
  | struc {ts : List Ty} {l : List Dv} : HasL ts l -> Has (.struc ts) (.struc l)
  | list {k s : Nat} {t : Ty} {a : Option Addr} {c : Nat} {l : List Dv} : (∀ d ∈ l, Has t d) -> Has (.list k s t) (.list k s a c l)
  | node {d : Dv} : Has nodeTy d -> Has .node d
  | expr {d : Dv} : Has exprTy d -> Has .expr d
inductive HasL : List Ty -> List Dv -> Prop
  | nil : HasL [] []
  | cons {t : Ty} {ts : List Ty} {d : Dv} {l : List Dv} : Has t d -> HasL ts l -> HasL (t :: ts) (d :: l)
end
theorem Has.int_inv {d : Dv} (h : Has .int d) : ∃ n, d = .int n := by cases h; exact ⟨_, rfl⟩
theorem Has.bool_inv {d : Dv} (h : Has .bool d) : ∃ b, d = .bool b := by cases h; exact ⟨_, rfl⟩
theorem Has.text_inv {d : Dv} (h : Has .text d) : ∃ t, d = .text t := by cases h; exact ⟨_, rfl⟩
theorem Has.struc_inv {ts : List Ty} {d : Dv} (h : Has (.struc ts) d) : ∃ l, d = .struc l /\ HasL ts l := by cases h with | struc h => exact ⟨_, rfl, h⟩
theorem Has.list_inv {k s : Nat} {t : Ty} {d : Dv} (h : Has (.list k s t) d) : ∃ a c l, d = .list k s a c l /\ ∀ x ∈ l, Has t x := by cases h with | list h => exact ⟨_, _, _, rfl, h⟩
theorem Has.node_inv {d : Dv} (h : Has .node d) : Has nodeTy d := by cases h with | node h => exact h
theorem Has.expr_inv {d : Dv} (h : Has .expr d) : Has exprTy d := by cases h with | expr h => exact h
theorem HasL.cons_inv {t : Ty} {ts : List Ty} {l : List Dv} (h : HasL (t :: ts) l) : ∃ d r, l = d :: r /\ Has t d /\ HasL ts r := by cases h with | cons h1 h2 => exact ⟨_, _, rfl, h1, h2⟩
theorem HasL.nil_inv {l : List Dv} (h : HasL [] l) : l = [] := by cases h; rfl
end Go.Proofs.YtlbcmeebcfalpaaGreatDoor
namespace Go.Proofs.YtlbcmeebcfalpaaGreatDoor
open Go.RowKit Go.Shelf

abbrev Bld (B b : Nat) (bs : List Value) (w : World) : Prop := Lib.IsBuilder 265 5 B b bs w
theorem Tryz.sizeBld : (Tryz.prog.info? 265).map (fun i => i.size) = some 2 := by kernel_rfl
theorem Tryz.infoByte : (Tryz.prog.info? 5).map (fun i => (i.zero, i.size, i.bytes)) = some (some (.int .u8 0), 1, 1) := by kernel_rfl
theorem copyCheck_used (b : Nat) (w : World) (h0 : w.cell? ⟨b, 0, none⟩ = some (.pointer (some ⟨b, 0, none⟩))) :
    Calls Tryz.prog 241 #[.pointer (some ⟨b, 0, none⟩)] w fun e w' => e = .returned (.tuple #[]) /\ w' = w := by
  obtain ⟨j, hj, _⟩ := Option.map_eq_some_iff.1 Tryz.sizeBld
  go_enter Tryz.func241, Tryz.ntmps241
  go_wp2
  rw [Lib.run_neq_ptr_same w _ Tryz.underlying263 hj]
  go_wp2
  go_end0
  exact ⟨rfl, rfl⟩
theorem copyCheck_fresh (b : Nat) (w : World) (h0 : w.cell? ⟨b, 0, none⟩ = some (.pointer none)) (hsh : w.shape? b = some (265, 2)) (hfz : w.frozen? ⟨b, 0, none⟩ = false) :
    Calls Tryz.prog 241 #[.pointer (some ⟨b, 0, none⟩)] w fun e w' => e = .returned (.tuple #[]) /\ w' = w.setCell ⟨b, 0, none⟩ (.pointer (some ⟨b, 0, none⟩)) := by
  obtain ⟨j, hj, hjs⟩ := Option.map_eq_some_iff.1 Tryz.sizeBld
  go_enter Tryz.func241, Tryz.ntmps241
  go_wp2
  rw [Lib.run_to_unsafe w ⟨b, 0, none⟩ Tryz.underlying263 Tryz.underlying316 hj (by rw [hjs]; decide) hsh (Nat.zero_lt_succ 1)]
  simp only [Result.andThen]
  rw [Oper.upon_value]
  go_wp2
  rw [run_callFunc_extern Tryz.func259 (by kernel_rfl) (by kernel_rfl) (by kernel_rfl) (e := Extern.AbiNoEscape.same) (by kernel_rfl)]
  rw [Lib.run_noEscape]
  simp only [Result.andThen]
  rw [Oper.upon_value]
  go_wp2
  rw [Lib.run_from_unsafe w ⟨b, 0, none⟩ Tryz.underlying316 Tryz.underlying263 hj hsh (by kernel_rfl)]
  simp only [Result.andThen]
  rw [Oper.upon_value]
  go_wp2
  go_end0
  exact ⟨rfl, rfl⟩
end Go.Proofs.YtlbcmeebcfalpaaGreatDoor
namespace Go.Proofs.YtlbcmeebcfalpaaGreatDoor
open Go.RowKit Go.Shelf Go.Sort

/-- The tables and the errors of the library are what they are. -/
structure Env (w : World) : Prop where
  tab : Lib.TabIs Tryz.prog w "internal/strconv.uint64pow10" .u64 Lib.pow10Tab
  syn : ∃ tp p, w.var? Tryz.prog "strconv.ErrSyntax" = some #[.iface tp p]
  rng : ∃ tp p, w.var? Tryz.prog "strconv.ErrRange" = some #[.iface tp p]
theorem var_below {P : Program} {w w' : World} (hb : Below w.heap.size w w') {name : String} {x : Array Value} (h : w.var? P name = some x) : w'.var? P name = some x := by
  unfold World.var? at h ⊢
  cases hg : P.globalNamed name with
  | none => rw [hg] at h; cases h
  | some g =>
    rw [hg] at h
    simp only [Option.bind_some] at h ⊢
    cases ho : w.heap[g]? with
    | none => rw [ho] at h; cases h
    | some o => rw [hb.block g (Array.getElem?_eq_some_iff.1 ho).1, ho]; rw [ho] at h; exact h
theorem Env.below {w w' : World} (h : Env w) (hb : Below w.heap.size w w') : Env w' := by
  obtain ⟨h1, ⟨t, p, h2⟩, ⟨t', p', h3⟩⟩ := h
  exact ⟨var_below hb h1, ⟨t, p, var_below hb h2⟩, ⟨t', p', var_below hb h3⟩⟩
theorem below_grow {n : Nat} {A : World} : ∀ (l : List Obj) (W : World), Below n A W -> n <= W.heap.size -> Below n A (grow W ⟨l⟩)
  | [], W, h, _ => by simpa using h
  | o :: l, W, h, hn => by
    have := below_grow l (W.alloc o) (h.alloc hn o) (by simp; omega)
    rw [alloc_eq_grow, grow_grow] at this
    simpa using this
theorem itoa_any (n : Int) (hn : I64 n) (w : World) (hE : Env w) : Calls Tryz.prog 198 #[.int .i64 n] w fun e w' => e = .returned (.string ⟨(Lib.itoa n).toArray⟩) /\ Below w.heap.size w w' := by
  refine (Tryz.strconv_Itoa n hn.1 hn.2 w hE.tab).mono ?_
  rintro e w' ⟨rfl, k, os, rfl⟩
  exact ⟨rfl, below_grow os.toList _ (below_drewN (Below.refl _ _) k) (Nat.le_refl _)⟩
/-- What Atoi answers: the number, and whether there is an error. -/
def atoiN (l : List UInt8) : Int := match Lib.atoiAll l with | .ok v => v | .range => Lib.atoiSat l | _ => 0
def atoiOk (l : List UInt8) : Bool := match Lib.atoiAll l with | .ok _ => true | _ => false
theorem atoi_any (s : ByteArray) (hs : s.size <= 281474976710656) (w : World) (hE : Env w) : Calls Tryz.prog 219 #[.string s] w fun e w' => ∃ err : Value, e = .returned (.tuple #[.int .i64 (atoiN s.data.toList), err]) /\
    ((atoiOk s.data.toList = true /\ err = .nilIface) \/ (atoiOk s.data.toList = false /\ ∃ p, err = .iface 323 p)) /\ Below w.heap.size w w' := by
  have hbw : ∀ w', (w' = w \/ ∃ t, w' = Lib.bytesWorld w 5 t) -> Below w.heap.size w w' := by
    rintro w' (rfl | ⟨t, rfl⟩)
    · exact Below.refl _ _
    · exact Lib.bytesWorld_below w _ t
  unfold atoiN atoiOk
  rcases h : Lib.atoiAll s.data.toList with v | _ | _
  · skip
    refine (Tryz.strconv_Atoi_ok s (by omega) v h w).mono ?_
    rintro e w' ⟨rfl, hw⟩
    exact ⟨_, rfl, .inl ⟨rfl, rfl⟩, hbw w' hw⟩
  · skip
    obtain ⟨tp, p, hv⟩ := hE.syn
    refine (Tryz.strconv_Atoi_syntax_var s hs h tp p w hv).mono ?_
    rintro e w' ⟨N, rfl, _, _, hb⟩
    exact ⟨_, rfl, .inr ⟨rfl, _, rfl⟩, hb⟩
  · skip
    obtain ⟨tp, p, hv⟩ := hE.rng
    refine (Tryz.strconv_Atoi_range_var s hs h tp p w hv).mono ?_
    rintro e w' ⟨N, rfl, _, _, hb⟩
    exact ⟨_, rfl, .inr ⟨rfl, _, rfl⟩, hb⟩

/-- A slice of bytes of the call's own. -/
def OwnY (w : World) (B : Nat) (a : Option Addr) (n cap : Nat) (l : List UInt8) : Prop := n = l.length /\ w.ownsRow B 5 1 (.slice a n cap) n (Lib.byteCells l)
namespace OwnY
variable {w w' : World} {B : Nat} {a : Option Addr} {n cap : Nat} {l : List UInt8}
theorem nil (w : World) (B : Nat) : OwnY w B none 0 0 [] := ⟨rfl, World.ownsRow_nil _ _ _ _⟩
theorem len (h : OwnY w B a n cap l) : n = l.length := h.1
theorem below (h : OwnY w B a n cap l) (hb : Below w.heap.size w w') : OwnY w' B a n cap l := ⟨h.1, ownsRow_below h.2 hb⟩
theorem lt (h : OwnY w B a n cap l) : ∀ q, (Value.slice a n cap).ownBlock = some q -> B <= q /\ q < w.heap.size := h.2.lt
theorem mono {B' : Nat} (h : OwnY w B a n cap l) (hB : B' <= B) : OwnY w B' a n cap l := by
  refine ⟨h.1, h.2.1, ?_⟩
  rcases h.2.2 with h0 | ⟨g, cap', cur, hv, hb, hrest⟩
  · exact .inl h0
  · exact .inr ⟨g, cap', cur, hv, Nat.le_trans hB hb, hrest⟩
end OwnY
section
variable {ops : Array Oper} {rest : List Oper} {o : Oper} {act : Act} {Q : Exit -> Act -> World -> Prop} {w w0 : World} {B : Nat} {a : Option Addr} {n cap b : Nat} {l : List UInt8} {y : UInt8} {s : ByteArray}
end
end Go.Proofs.YtlbcmeebcfalpaaGreatDoor
namespace Go.Proofs.YtlbcmeebcfalpaaGreatDoor

/-- The encoding of an integer or a string. -/
def leafV (v : V) : List UInt8 := if v.kind = 1 then 105 :: (Lib.itoa v.num ++ [59]) else 115 :: (Lib.itoa v.text.size ++ 58 :: v.text.data.toList)
mutual
def encV : V -> List UInt8 | .mk k n t l => if k = 1 \/ k = 2 then leafV (.mk k n t l) else 108 :: (encL l ++ [101])
def encL : List V -> List UInt8 | [] => [] | v :: r => encV v ++ encL r
end
theorem encL_append : ∀ a b, encL (a ++ b) = encL a ++ encL b
  | [], b => rfl
  | v :: a, b => by rw [List.cons_append, encL, encL, encL_append a b, List.append_assoc]
theorem encV_leaf {v : V} (h : v.kind = 1 \/ v.kind = 2) : encV v = leafV v := by
  cases v with
  | mk k n t l => rw [encV]; exact if_pos h
theorem encV_list {v : V} (h : ¬ (v.kind = 1 \/ v.kind = 2)) : encV v = 108 :: (encL v.items ++ [101]) := by
  cases v with
  | mk k n t l => rw [encV]; exact if_neg h
/-- Valid values that are not too deep. -/
def GoodD (f : Nat) (v : V) : Prop := cntD f v ≠ none /\ allV v = 0
theorem cntD_items {f : Nat} {v : V} (h : cntD (f + 1) v ≠ none) (hk : v.kind = 3) : ∀ u ∈ v.items, cntD f u ≠ none := by
  rw [cntD, if_pos hk] at h
  have key : ∀ (l : List V) (s : Option Nat), l.foldl (fun s u => s.bind fun size => (cntD f u).bind fun k => some (size + k)) s ≠ none -> ∀ u ∈ l, cntD f u ≠ none := by
    intro l
    induction l with
    | nil => intro s _ u hu; cases hu
    | cons x l ih =>
      intro s hs u hu
      rw [List.foldl_cons] at hs
      rcases List.mem_cons.1 hu with rfl | hu
      · intro e
        rw [e] at hs
        cases s with
        | none => exact hs (foldl_none (fun size u => (cntD f u).bind fun k => some (size + k)) l)
        | some y => exact hs (foldl_none (fun size u => (cntD f u).bind fun k => some (size + k)) l)
      · exact ih _ hs u hu
  exact key _ _ h
theorem allV_items {v : V} (h : allV v = 0) : singV v = 0 /\ ∀ u ∈ v.items, allV u = 0 := by
  rw [allV_eq] at h
  split at h
  · exact absurd h ‹_›
  · rename_i hs
    refine ⟨by simpa using hs, ?_⟩
    have key : ∀ l : List V, firstE (l.map allV) = 0 -> ∀ u ∈ l, allV u = 0 := by
      intro l
      induction l with
      | nil => intro _ u hu; cases hu
      | cons x l ih =>
        intro hf u hu
        rw [List.map_cons, firstE] at hf
        split at hf
        · rename_i hx; exact absurd hf hx
        · rename_i hx
          rcases List.mem_cons.1 hu with rfl | hu
          · simpa using hx
          · exact ih hf u hu
    exact key _ h
theorem singV_ok {v : V} (h : singV v = 0) : (v.kind = 1 \/ v.kind = 2 \/ v.kind = 3) /\ v.text.size <= 1048576 /\ v.items.length <= 4096 /\ (v.kind ≠ 3 -> v.items = []) /\ (v.kind ≠ 1 -> v.num = 0) /\ (v.kind ≠ 2 -> v.text.size = 0) := by
  unfold singV at h
  split at h
  · rename_i hc
    split at h
    · cases h
    · refine ⟨by omega, by omega, by omega, fun hk => List.eq_nil_of_length_eq_zero (by omega), by omega, by omega⟩
  · cases h
theorem GoodD.items {f : Nat} {v : V} (h : GoodD (f + 1) v) (hk : v.kind = 3) : ∀ u ∈ v.items, GoodD f u := fun u hu => ⟨cntD_items h.1 hk u hu, (allV_items h.2).2 u hu⟩
/-- Every number fits. -/
inductive NumOk : V -> Prop
  | mk {v : V} : (-9223372036854775808 <= v.num /\ v.num <= 9223372036854775807) -> (∀ u ∈ v.items, NumOk u) -> NumOk v
theorem NumOk.num {v : V} (h : NumOk v) : -9223372036854775808 <= v.num /\ v.num <= 9223372036854775807 := by cases h; assumption
theorem NumOk.items {v : V} (h : NumOk v) : ∀ u ∈ v.items, NumOk u := by cases h; assumption
end Go.Proofs.YtlbcmeebcfalpaaGreatDoor
namespace Go.Proofs.YtlbcmeebcfalpaaGreatDoor
open Go.RowKit Go.Shelf

section
variable {ops : Array Oper} {rest : List Oper} {o : Oper} {act : Act} {Q : Exit -> Act -> World -> Prop} {w w0 : World} {B : Nat} {a : Option Addr} {n cap : Nat} {l : List UInt8} {s : ByteArray}
end
/-- Blocks that are not the slice's own. -/
abbrev Oth (a : Option Addr) (n cap : Nat) : Nat -> Prop := fun b => (Value.slice a n cap).ownBlock ≠ some b
/-- From (a n cap, w) to (a' n' cap', w') only the slice's own row was turned. -/
structure Grew (B : Nat) (a : Option Addr) (n cap : Nat) (w : World) (a' : Option Addr) (n' cap' : Nat) (w' : World) : Prop where
  below : Below B w w'
  keep : KeepS (Oth a n cap) w w'
  own : ∀ q, (Value.slice a' n' cap').ownBlock = some q -> (Value.slice a n cap).ownBlock = some q \/ w.heap.size <= q
namespace Grew
variable {B : Nat} {a a' a'' : Option Addr} {n cap n' cap' n'' cap'' : Nat} {w w' w'' : World}
theorem refl (B : Nat) (a : Option Addr) (n cap : Nat) (w : World) : Grew B a n cap w a n cap w := ⟨Below.refl _ _, KeepS.refl _ _, fun _ h => .inl h⟩
theorem trans (h : Grew B a n cap w a' n' cap' w') (k : Grew B a' n' cap' w' a'' n'' cap'' w'') : Grew B a n cap w a'' n'' cap'' w'' := by
  refine ⟨h.below.trans k.below, ⟨Nat.le_trans h.keep.1 k.keep.1, fun b cs t fr hs hb => k.keep.2 b cs t fr (fun e => ?_) (h.keep.2 b cs t fr hs hb)⟩, fun q hq => ?_⟩
  · have hlt := (Array.getElem?_eq_some_iff.1 hb).1
    rcases h.own b e with h1 | h1
    · exact hs h1
    · omega
  · rcases k.own q hq with h1 | h1
    · exact h.own q h1
    · right; exact Nat.le_trans h.keep.1 h1
end Grew
end Go.Proofs.YtlbcmeebcfalpaaGreatDoor
