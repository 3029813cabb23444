/- dag.leaving. -/
import Derived.Test.YtebmachppbpdmaaDPure1
import Derived.Test.YtebmachppbpdmaaOwnII
import Derived.Test.YtebmachppbpdmaaApp
import Derived.Test.YtebmachppbpdmaaHead
namespace Go.Proofs.Ytebmachppbpdmaa
open Go.RowKit

/-- The indices, as ints, below k of the links that leave s. -/
def rowTo (ll : List Lk) (s k : Nat) : List Int := (idxTo ll s k).map fun i : Nat => (i : Int)
def leaveTo (ll : List Lk) (n k : Nat) : List (List Int) := (List.range n).map fun s => rowTo ll s k
theorem leaveTo_length (ll : List Lk) (n k : Nat) : (leaveTo ll n k).length = n := by simp [leaveTo]
theorem leaveTo_at {ll : List Lk} {n k s : Nat} (hs : s < n) : (leaveTo ll n k)[s]?.getD [] = rowTo ll s k := by simp [leaveTo, hs]
theorem rowTo_length (ll : List Lk) (s k : Nat) : (rowTo ll s k).length ≤ k := by rw [rowTo, List.length_map]; exact idxTo_length ll s k
theorem leaveTo_zero (ll : List Lk) (n : Nat) : leaveTo ll n 0 = List.replicate n [] := by
  apply List.ext_getElem (by simp [leaveTo])
  intro i a b
  simp [leaveTo, rowTo, idxTo]
theorem leaveTo_step {ll : List Lk} {n k f : Nat} (hf : (lkAt ll k).1 = (f : Int)) : leaveTo ll n (k + 1) = (leaveTo ll n k).set f ((leaveTo ll n k)[f]?.getD [] ++ [(k : Int)]) := by
  apply List.ext_getElem (by simp [leaveTo])
  intro i a b
  have hi : i < n := by simpa [leaveTo] using a
  rw [List.getElem_set]
  split
  · rename_i e
    subst e
    rw [leaveTo_at hi]
    simp [leaveTo, rowTo, idxTo_yes hf]
  · rename_i e
    simp [leaveTo, rowTo, idxTo_no (s := i) (k := k) (ll := ll) (by rw [hf]; omega)]
theorem OwnII.madeN {w : World} {B n cap : Nat} {a : Option Addr} (h : w.ownsRow B 26 1 (.slice a n cap) n (madeCells (Value.slice none 0 0).cells (n * 1)).toList) : OwnII w B a n cap (List.replicate n []) := by
  have e : (madeCells (Value.slice none 0 0).cells (n * 1)).toList = (List.replicate n ((none, 0, 0) : Row)).map rowV := by
    rw [Nat.mul_one, List.map_replicate]; exact toList_madeCells_one _ _
  rw [e] at h
  have get : ∀ j (r : Row), (List.replicate n ((none, 0, 0) : Row))[j]? = some r → r = (none, 0, 0) := fun j r hr => by
    rw [List.getElem?_replicate] at hr
    split at hr
    · exact (Option.some.inj hr).symm
    · cases hr
  refine ⟨List.replicate n (none, 0, 0), by simp, by simp, h, fun j r hr => ?_, fun i j r s _ hr _ => ?_⟩
  · rw [get j r hr]
    refine ⟨?_, fun x y hx => by cases hx⟩
    have : (List.replicate n ([] : List Int))[j]?.getD [] = [] := by
      rw [List.getElem?_replicate]; split <;> rfl
    rw [this]; exact OwnI.nil _ _
  · rw [get i r hr]; intro x y hx; cases hx

set_option maxRecDepth 100000 in
set_option maxHeartbeats 2000000 in
theorem leaving_any (n : Nat) (a : Option Addr) (m cap : Nat) (ll : List Lk) (w : World) (h : Links w a m cap ll) (hv : Valid n ll) (hn : n ≤ 4096) (hm : m ≤ 65536) :
    Calls Try.prog 41 #[.int .i64 n, .slice a m cap] w fun e w' => ∃ (a' : Option Addr) (c' : Nat), e = .returned (.slice a' n c') ∧ OwnII w' w.heap.size a' n c' (leaveTo ll n ll.length) ∧ Below w.heap.size w w' := by
  have H := Lib.hid h.len
  have HV : Hid (Valid n ll) := hv
  obtain ⟨i0, hi, hz0, hz1, hz2⟩ := info_parts Try.infoInt
  obtain ⟨i1, ki, kz0, kz1, kz2⟩ := info_parts Try.infoInts
  clear hv
  go_enter Try.func41, Try.ntmps41
  go_wp2_with (at_make; refine wpList_make_full _ rfl _ _ 46 rfl w.heap.size 26 i1 (.slice none 0 0) 1 Try.underlying46 ki kz0 kz1 .i64 .i64 n n n rfl rfl rfl rfl (by rw [kz2]; omega) (by unfold maxLen; omega) (Nat.le_refl _) ?_; intro w1 hrow hg)
  have ho1 : OwnII w1 w.heap.size (some ⟨w.heap.size, 0, none⟩) n n (leaveTo ll n 0) := by rw [leaveTo_zero]; exact OwnII.madeN hrow
  have hB1 : Below w.heap.size w w1 := (Below.refl _ w).grown hg (Nat.le_refl _) (by simp)
  clear hrow hg
  go_loopw [12] (fun i wr => ∃ k : Nat, k ≤ m ∧ i = .int .i64 k ∧ OwnII wr w.heap.size (some ⟨w.heap.size, 0, none⟩) n n (leaveTo ll n k) ∧ Below w.heap.size w wr) (fun i _ => m - (intOf i).toNat)
  case atStart => exact ⟨0, Nat.zero_le _, rfl, ho1, hB1⟩
  case round =>
    clear ho1 hB1 w1
    obtain ⟨k, hk, rfl, ho, hB⟩ := hrel
    by_cases hlt : k < m
    · obtain ⟨f0, t0, c, hx, -, -, -, b, off, rfl, hbl, k1, k2, k3⟩ := (h.below hB).get hlt
      dsimp only at k1 k2 k3
      have hxl : lkAt ll k = (f0, t0, c) := by rw [lkAt, hx]; rfl
      obtain ⟨f, tt, e1, e2, e3, e4, e5, e6⟩ := HV.out k (by rw [← H.out]; exact hlt)
      rw [hxl] at e1 e2
      dsimp only at e1 e2
      subst e1 e2
      have HX := Lib.hid hxl
      clear hx hxl e5 e6
      have hfn : f < n := by omega
      obtain ⟨g, af, nf, cf, eg, hgB, hgs, hfz, hcf, hof, hapf⟩ := ho.at_ hfn
      cases eg
      have hnf : nf ≤ k := by have := hof.len; rw [leaveTo_at hfn] at this; have := rowTo_length ll f k; omega
      have hgne : Hid (some w.heap.size ≠ (Value.slice af nf cf).ownBlock) := by
        cases af with
        | none => simp [Value.ownBlock, Hid]
        | some y => intro e; exact hapf y ⟨w.heap.size, 0, none⟩ rfl rfl (Option.some.inj e).symm
      have E2 : Hid (leaveTo ll n (k + 1) = (leaveTo ll n k).set f ((leaveTo ll n k)[f]?.getD [] ++ [(k : Int)])) := leaveTo_step (by rw [HX.out])
      have hff := hfz f
      clear hfz hapf e3 e4
      -- the world with the link's box
      obtain ⟨wb, hwb⟩ : ∃ wb, wb = wr.alloc (.cells #[.int .i64 (f : Int), .int .i64 (tt : Int), .int .i64 c] 36) := ⟨_, rfl⟩
      have hbb : Below wr.heap.size wr wb := by rw [hwb]; exact (Below.refl _ _).alloc (Nat.le_refl _) _
      have hsb : wb.heap.size = wr.heap.size + 1 := by rw [hwb]; simp
      have x0 : wb.cell? ⟨wr.heap.size, 0, none⟩ = some (.int .i64 (f : Int)) := by rw [hwb]; simp [World.cell?_alloc_at]
      have x1 := cell_later hbb hcf
      have HOB := Lib.hid (ho.below hbb)
      have HOF := Lib.hid (hof.below hbb)
      have HLT1 := Lib.hid hof.2.lt
      have hfb : wb.frozen? ⟨w.heap.size, f, none⟩ = false := (hbb.frozen (p := ⟨w.heap.size, f, none⟩) hgs).trans hff
      have HBB := Lib.hid (hB.trans (hbb.mono hB.size))
      have HSB := Lib.hid hsb
      go_wp2
      rw [← hwb]
      clear hwb hbb hsb ho hof hff
      obtain ⟨X, Wf, hX, hS1, hS2⟩ := family (fun w' => w'.cell? ⟨wr.heap.size, 0, none⟩ = some (.int .i64 (f : Int)) ∧ w'.cell? ⟨w.heap.size, f, none⟩ = some (.slice af nf cf)) wb ⟨x0, x1⟩
      have hc1 : ∀ x, (Wf x).cell? ⟨wr.heap.size, 0, none⟩ = some (.int .i64 (f : Int)) := fun x => (hS1 x).1
      have hc2 : ∀ x, (Wf x).cell? ⟨w.heap.size, f, none⟩ = some (.slice af nf cf) := fun x => (hS1 x).2
      have HS2 := Lib.hid hS2
      clear hS1 hS2
      refine wp_region_reads (Wf := Wf) 11 [0, 1, 2, 3, 4, 5, 6, 7, 8] [9, 10] (by kernel_rfl) (by kernel_rfl) (fun _ _ d _ _ h => by cases d <;> exact h) (HS2.out _ ⟨x0, x1⟩) ?_
      simp only [pickOps, List.filterMap_cons, List.filterMap_nil, List.getElem?_cons_zero, List.getElem?_cons_succ]
      repeat (refine wpReads_step (fun K hK => ?_); unfold rOp; go_simp; (refine hK _ ?_; clear hK K))
      refine wpReads_nil ?_
      refine wpActs_cons ?_
      go_wp2
      have hsz := HSB.out
      have hB2 := (HBB.out.alloc (by rw [HSB.out]; have := hB.size; omega) (.cells #[.int .i64 (k : Int)] 3)).drew
      have hcA : ∀ (A : Addr) v, wb.cell? A = some v → (wb.alloc (.cells #[.int .i64 (k : Int)] 3)).drew.cell? A = some v := fun A v hA => cell_later ((Below.refl wb.heap.size wb).alloc (Nat.le_refl _) (.cells #[.int .i64 (k : Int)] 3)).drew hA
      refine ⟨HS2.out _ ⟨hcA _ _ x0, hcA _ _ x1⟩, wpActs_cons ?_⟩
      have ho2 : OwnI (wb.alloc (.cells #[.int .i64 (k : Int)] 3)).drew w.heap.size af nf cf ((leaveTo ll n k)[f]?.getD []) := (HOF.out.alloc _).drew
      have hy : (wb.alloc (.cells #[.int .i64 (k : Int)] 3)).drew.cell? ⟨wb.heap.size, 0, none⟩ = some (.int .i64 (k : Int)) := cell_lit1 _ _ _ rfl
      have hc2' := hcA _ _ x1
      have hfz2 : (wb.alloc (.cells #[.int .i64 (k : Int)] 3)).drew.frozen? ⟨w.heap.size, f, none⟩ = false := by
        have : (wb.alloc (.cells #[.int .i64 (k : Int)] 3)).frozen? ⟨w.heap.size, f, none⟩ = false := by rw [World.frozen?_alloc_past _ _ _ (by rw [HSB.out]; show w.heap.size < _; omega)]; exact hfb
        exact this
      have hcB := hcA _ _ x0
      clear hc1 hc2 hsz
      go_wp2_with (at_builtin; refine wpList_appI rfl _ _ rfl rfl rfl ho2 hy (by omega) (by have := hB2.size; exact this) hB2 ?_; intro a3 c3 w3 o3 b3 hg3 hat3)
      have x03 : w3.cell? ⟨wr.heap.size, 0, none⟩ = some (.int .i64 (f : Int)) := hg3.cell hcB (by intro e; exact absurd (HLT1.out _ e.symm).2 (Nat.lt_irrefl _))
      have x13 : w3.cell? ⟨w.heap.size, f, none⟩ = some (.slice af nf cf) := hg3.cell hc2' hgne.out
      have f13 : w3.frozen? ⟨w.heap.size, f, none⟩ = false := by
        rw [World.frozen?_of_block (w := (wb.alloc (.cells #[.int .i64 (k : Int)] 3)).drew) (hg3.block w.heap.size (by show w.heap.size < (wb.heap.push _).size; have := HSB.out; simp; omega) hgne.out)]
        exact hfz2
      have hk0 : (wb.alloc (.cells #[.int .i64 (k : Int)] 3)).drew.heap.size = wb.heap.size + 1 := by show (wb.heap.push _).size = _; simp
      have HK0 := Lib.hid hk0
      clear hk0
      refine ⟨HS2.out _ ⟨x03, x13⟩, wpActs_nil ?_⟩
      go_wp2
      go_roundw
      case rel =>
        refine ⟨k + 1, by omega, by go_num, ?_, b3.setCell (Nat.le_refl _) _⟩
        rw [E2.out]
        exact OwnII.setRow (o := .cells #[.int .i64 (k : Int)] 3) HOB.out hfn rfl x1 (by simpa using o3.2) ⟨hg3.1, hg3.2, hg3.3, hg3.4, hg3.5⟩ (by rw [HK0.out] at hat3; exact hat3)
      case measure => simp [intOf]; omega
    · obtain rfl : m = k := by omega
      go_wp2
      go_ret
      exact ⟨_, n, rfl, by rw [← H.out]; exact ho, hB⟩
end Go.Proofs.Ytebmachppbpdmaa
