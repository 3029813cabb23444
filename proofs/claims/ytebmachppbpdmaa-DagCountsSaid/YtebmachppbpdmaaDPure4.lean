/- Plain lists: what Verify says. No program. -/
import Derived.Test.YtebmachppbpdmaaDPure2
import Derived.Test.YtebmachppbpdmaaDRChk
namespace Go.Proofs.Ytebmachppbpdmaa

/-- Where a path leads, and what it costs. -/
def walkP (ll : List Lk) : Int → Int → List Int → Option (Int × Int)
  | u, c, [] => some (u, c)
  | u, c, i :: r => if 0 ≤ i ∧ i < ll.length ∧ (lkAt ll i.toNat).1 = u then walkP ll (lkAt ll i.toNat).2.1 (c + (lkAt ll i.toNat).2.2) r else none
theorem walkP_drop {ll : List Lk} {u c : Int} {path : List Int} {k : Nat} {i : Int} (h : path[k]? = some i) :
    walkP ll u c (path.drop k) = if 0 ≤ i ∧ i < ll.length ∧ (lkAt ll i.toNat).1 = u then walkP ll (lkAt ll i.toNat).2.1 (c + (lkAt ll i.toNat).2.2) (path.drop (k + 1)) else none := by
  obtain ⟨hk, rfl⟩ := List.getElem?_eq_some_iff.1 h
  rw [List.drop_eq_getElem_cons hk, walkP]
/-- Potentials that no link contradicts. -/
def PotLink (ps : List Int) (x : Lk) : Prop := 0 ≤ ps[x.2.1.toNat]?.getD 0 → 0 ≤ ps[x.1.toNat]?.getD 0 ∧ ps[x.1.toNat]?.getD 0 - x.2.2 ≤ ps[x.2.1.toNat]?.getD 0
instance (ps : List Int) (x : Lk) : Decidable (PotLink ps x) := by unfold PotLink; exact inferInstance
def PotOk (ll : List Lk) (n t : Nat) (ps : List Int) : Prop := ps.length = n ∧ ps[t]?.getD 0 = 0 ∧ (∀ i, i < n → -1 ≤ ps[i]?.getD 0) ∧ ∀ i, i < ll.length → PotLink ps (lkAt ll i)
def VerOk (ll : List Lk) (n s t : Nat) (path ps : List Int) : Prop := PotOk ll n t ps ∧ walkP ll s 0 path = some ((t : Int), ps[s]?.getD 0)
instance (ll : List Lk) (n s t : Nat) (path ps : List Int) : Decidable (VerOk ll n s t path ps) := by unfold VerOk PotOk; exact inferInstance
def verD (n : Int) (ll : List Lk) (s t : Int) (path ps : List Int) : Int := if chk2 n ll s t ≠ 0 then chk2 n ll s t else if VerOk ll n.toNat s.toNat t.toNat path ps then 0 else 18
theorem potLink_no {ps : List Int} {x : Lk} (h1 : 0 ≤ ps[x.2.1.toNat]?.getD 0) (h2 : ps[x.1.toNat]?.getD 0 < 0 ∨ ps[x.2.1.toNat]?.getD 0 < ps[x.1.toNat]?.getD 0 - x.2.2) : ¬ PotLink ps x := fun h => by
  have := h h1
  omega
end Go.Proofs.Ytebmachppbpdmaa
