/- codec.Size, codec.Check. -/
import Derived.Test.YtancjkaoocgeeaaDoorCMsr
import Derived.Test.YtancjkaoocgeeaaDoorCRefA
namespace Go.Proofs.YtancjkaoocgeeaaDoor
open Go.RowKit Go.Shelf
attribute [local go_sem] Oper.semAt_some

theorem keepsFrom_below {B : Nat} {W W' : World} (h : Below W.heap.size W W') : KeepsFrom B W W' := ⟨h.size, fun k o _ hk _ => by rw [h.block k (Array.getElem?_eq_some_iff.1 hk).1]; exact hk⟩
def fV (v : Vl) (pre : List (El v)) : Int := firstV (pre.map fun x => x.1)
theorem fV_snoc (v : Vl) (pre : List (El v)) (x : El v) : fV v (pre ++ [x]) = if fV v pre ≠ 0 then fV v pre else singV x.1.2.er := by
  rw [fV, List.map_append, firstV_append]
  have : firstV ([x].map fun x => x.1) = singV x.1.2.er := by
    show (if singV x.1.2.er ≠ 0 then singV x.1.2.er else 0) = _
    split
    · rfl
    · rename_i h; exact (Decidable.not_not.1 h).symm
  rw [this]; rfl
theorem fV_all (v : Vl) : fV v (els v) = firstV (vis v) := by rw [fV, els, List.attach_map_subtype_val]
theorem fV_stop {v : Vl} {pre : List (El v)} (h : pre <+: els v) (h0 : fV v pre ≠ 0) : firstV (vis v) = fV v pre := by
  obtain ⟨r, hr⟩ := h
  rw [← fV_all, ← hr, fV, List.map_append, firstV_append]
  exact if_pos h0
/-- What the loop of Size keeps. -/
structure ZI (v : Vl) (w : World) (pre : List (El v)) (W : World) : Prop where
  r1 : W.heap[w.heap.size + 1]? = some (.cells #[.int .i64 0] 3 (0, 0))
  r2 : W.heap[w.heap.size + 1 + 1]? = some (.cells #[.int .i64 0] 27 (0, 0))
  below : Below w.heap.size w W
  ok : fV v pre = 0
structure ZX (v : Vl) (w : World) (pre : List (El v)) (W : World) : Prop where
  r1 : W.heap[w.heap.size + 1]? = some (.cells #[.int .i64 0] 3 (0, 0))
  r2 : W.heap[w.heap.size + 1 + 1]? = some (.cells #[.int .i64 (fV v pre)] 27 (0, 0))
  below : Below w.heap.size w W
  no : fV v pre ≠ 0
/-- Behind the assignment of a round. -/
def ZA (v : Vl) (tm : Nat → El v → Array Value) (hi : Nat) (x : El v) (a' : Act) (W : World) : Prop := ∃ Bx : Nat, hi ≤ Bx ∧ W.heap[Bx]? = some (.cells x.1.2.cells 24 (0, 0)) ∧ a' = { tmps := tm Bx x, defers := [] }
theorem vat_of_heap {W : World} {b : Nat} {v : Vl} (h : W.heap[b]? = some (.cells v.cells 24 (0, 0))) : VAt W b 0 v := by
  refine ⟨?_, ?_, ?_, ?_⟩ <;> (simp [World.cell?, h]; rfl)
set_option maxRecDepth 100000 in
set_option maxHeartbeats 4000000 in
theorem size_any (S : Nat → Prop) : ∀ (v : Vl) (w : World), Rd S w v →
    Calls Tryd.prog 14 #[v.val] w fun e w' => e = .returned (.tuple #[.int .i64 (sizV v.er), .int .i64 (chkV v.er)]) ∧ Below w.heap.size w w'
  | .mk k nn t a c l, w, h => by
    change Calls _ _ #[.agg #[.int .i64 k, .int .i64 nn, .string t, .slice a l.length c]] _ _
    have HA := Lib.hid (fun m W => all_in m W (.mk k nn t a c l))
    have hbW : Below w.heap.size w (((w.alloc (.cells #[.int .i64 k, .int .i64 nn, .string t, .slice a l.length c] 24)).alloc (.cells #[.int .i64 0] 3)).alloc (.cells #[.int .i64 0] 27)) := (((Below.refl _ w).alloc (Nat.le_refl _) _).alloc (by simp) _).alloc (by simp; omega) _
    have HM := Lib.hid (measure_any S (.mk k nn t a c l) (((w.alloc (.cells #[.int .i64 k, .int .i64 nn, .string t, .slice a l.length c] 24)).alloc (.cells #[.int .i64 0] 3)).alloc (.cells #[.int .i64 0] 27)) (h.below hbW))
    have q0 : VAt (((w.alloc (.cells #[.int .i64 k, .int .i64 nn, .string t, .slice a l.length c] 24)).alloc (.cells #[.int .i64 0] 3)).alloc (.cells #[.int .i64 0] 27)) w.heap.size 0 (.mk k nn t a c l) := (((boxed S w _ h).at_.later ((Below.refl _ _).alloc (Nat.le_refl _) (.cells #[.int .i64 0] 3))).later ((Below.refl _ _).alloc (Nat.le_refl _) (.cells #[.int .i64 0] 27)))
    have q1 : (((w.alloc (.cells #[.int .i64 k, .int .i64 nn, .string t, .slice a l.length c] 24)).alloc (.cells #[.int .i64 0] 3)).alloc (.cells #[.int .i64 0] 27)).heap[w.heap.size + 1]? = some (.cells #[.int .i64 0] 3 (0, 0)) := by
      rw [Below.heap_alloc _ _ _ (by simp)]; have := World.alloc_heap_new (w.alloc (.cells #[.int .i64 k, .int .i64 nn, .string t, .slice a l.length c] 24)) (.cells #[.int .i64 0] 3); simpa using this
    have q2 : (((w.alloc (.cells #[.int .i64 k, .int .i64 nn, .string t, .slice a l.length c] 24)).alloc (.cells #[.int .i64 0] 3)).alloc (.cells #[.int .i64 0] 27)).heap[w.heap.size + 1 + 1]? = some (.cells #[.int .i64 0] 27 (0, 0)) := by
      have := World.alloc_heap_new ((w.alloc (.cells #[.int .i64 k, .int .i64 nn, .string t, .slice a l.length c] 24)).alloc (.cells #[.int .i64 0] 3)) (.cells #[.int .i64 0] 27); simpa using this
    have q3 : w.heap.size + 1 + 1 < (((w.alloc (.cells #[.int .i64 k, .int .i64 nn, .string t, .slice a l.length c] 24)).alloc (.cells #[.int .i64 0] 3)).alloc (.cells #[.int .i64 0] 27)).heap.size := by simp
    have HV := Lib.hid (measR_vis (.mk k nn t a c l))
    have HC : Hid (chkV (Vl.mk k nn t a c l).er = if measR 64 65536 (Vl.mk k nn t a c l).er = none then 4 else allV (Vl.mk k nn t a c l).er) := rfl
    have HZ : Hid (sizV (Vl.mk k nn t a c l).er = if chkV (Vl.mk k nn t a c l).er = 0 then (measR 64 65536 (Vl.mk k nn t a c l).er).getD 0 else 0) := rfl
    have HF : Hid (okM (Vl.mk k nn t a c l) → firstV (vis (Vl.mk k nn t a c l)) = allV (Vl.mk k nn t a c l).er) := firstV_ok
    dsimp only [Vl.val, Vl.cells, Vl.kind, Vl.num, Vl.text, Vl.sl, Vl.addr, Vl.items, Vl.cap] at HA HM
    refine (callsIn_wide (n := 10)).1 ?_
    refine callsIn_of_wp_marks Tryd.func14 rfl trivial ?_ rfl
    simp only [Tryd.ntmps14, List.size_toArray, List.length_cons, List.length_nil, Nat.reduceAdd, Nat.reduceSub, Array.replicate_succ, Array.replicate_zero, List.push_toArray, List.append_toArray, List.nil_append, List.cons_append]
    gi_wp2_with (fail)
    refine ⟨trivial, ?_⟩
    refine (callsIn_wide.2 HM.out).mono ?_
    rintro e w1 ⟨rfl, hb1⟩
    generalize ((w.alloc (.cells #[.int .i64 k, .int .i64 nn, .string t, .slice a l.length c] 24)).alloc (.cells #[.int .i64 0] 3)).alloc (.cells #[.int .i64 0] 27) = W0 at *
    have hb01 := hbW.trans (hb1.mono hbW.size)
    have r1 : w1.heap[w.heap.size + 1]? = some (.cells #[.int .i64 0] 3 (0, 0)) := by rw [hb1.block _ (by omega)]; exact q1
    have r2 : w1.heap[w.heap.size + 1 + 1]? = some (.cells #[.int .i64 0] 27 (0, 0)) := by rw [hb1.block _ (by omega)]; exact q2
    have hsz1 : w.heap.size + 1 + 1 < w1.heap.size := by have := hb1.size; omega
    obtain ⟨x1, x2, x3, x4⟩ := q0.later hb1
    dsimp only [Vl.val, Vl.cells, Vl.kind, Vl.num, Vl.text, Vl.sl, Vl.addr, Vl.items, Vl.cap] at x1 x2 x3 x4
    rw [Nat.zero_add] at x2 x3 x4
    clear HM q0 q1 q2 q3 hb1 hbW W0
    have c1 := cell_of_one r1
    have c2 := cell_of_one r2
    have f1 : w1.frozen? ⟨w.heap.size + 1, 0, none⟩ = false := by simp [World.frozen?, r1]
    have f2 : w1.frozen? ⟨w.heap.size + 1 + 1, 0, none⟩ = false := by simp [World.frozen?, r2]
    have R1 := Lib.hid r1
    have R2 := Lib.hid r2
    clear r1 r2
    by_cases hok : okM (.mk k nn t a c l)
    · have hmr := HV.out.1 hok
      have HN := Lib.hid hmr
      rw [hmr]
      have hF := Lib.hid (HF.out hok)
      clear hmr HV HF hok
      have hb : (!mbad (some ((vis (Vl.mk k nn t a c l)).length : Int))) = true := rfl
      have hg : mgot (some ((vis (Vl.mk k nn t a c l)).length : Int)) = ((vis (Vl.mk k nn t a c l)).length : Int) := rfl
      rw [hb, hg]
      generalize hL : (vis (Vl.mk k nn t a c l)).length = L at *
      clear hb hg hL
      gi_wp2_with (fail)
      refine ⟨trivial, ?_⟩
      refine (HA.out _ _).mono ?_
      rintro e w' ⟨rfl, rfl⟩
      gi_wp2
      have hbA : Below w1.heap.size w1 (w1.alloc (.cells #[.int .i64 k, .int .i64 nn, .string t, .slice a l.length c] 24)) := (Below.refl _ _).alloc (Nat.le_refl _) _
      have hbL := hb01.trans (hbA.mono hb01.size)
      have hat : VAt (w1.alloc (.cells #[.int .i64 k, .int .i64 nn, .string t, .slice a l.length c] 24)) w1.heap.size 0 (.mk k nn t a c l) := by
        refine ⟨?_, ?_, ?_, ?_⟩ <;> (rw [World.cell?_alloc_at _ _ _ _ rfl]; rfl)
      have h0 : ZI (.mk k nn t a c l) w [] (w1.alloc (.cells #[.int .i64 k, .int .i64 nn, .string t, .slice a l.length c] 24)) := ⟨by rw [Below.heap_alloc _ _ _ (by omega)]; exact R1.out, by rw [Below.heap_alloc _ _ _ (by omega)]; exact R2.out, hbL, rfl⟩
      have hrd : Rd (Out (fun _ => False)) (w1.alloc (.cells #[.int .i64 k, .int .i64 nn, .string t, .slice a l.length c] 24)) (.mk k nn t a c l) := (h.below hbL).mono (fun b _ _ hf => hf)
      have hszL : w1.heap.size < (w1.alloc (.cells #[.int .i64 k, .int .i64 nn, .string t, .slice a l.length c] 24)).heap.size := by simp
      generalize w1.alloc (.cells #[.int .i64 k, .int .i64 nn, .string t, .slice a l.length c] 24) = WL at *
      refine all_loop (n := 10) (by omega) w1.heap.size (.mk k nn t a c l) (fun _ => False) rfl hat hrd (fun b hb => hb.elim) (fun e => e)
        (fun pre W => ZI (.mk k nn t a c l) w pre W ∧ KeepS (Out (fun _ => False)) WL W) (fun c' pre W => c' = .ret ∧ ZX (.mk k nn t a c l) w pre W) ?hI ?hIx ⟨h0, KeepS.refl _ _⟩ (ZA (.mk k nn t a c l) (fun Bx x => #[.agg #[.int .i64 k, .int .i64 nn, .string t, .slice a l.length c], .pointer (some ⟨w.heap.size, 0, none⟩), .pointer (some ⟨w.heap.size + 1, 0, none⟩), .pointer (some ⟨w.heap.size + 1 + 1, 0, none⟩), .int .i64 (L : Int), .bool true, undef, .pointer (some ⟨Bx, 0, none⟩), undef, .tuple #[.int .i64 (L : Int), .bool true], .agg #[.int .i64 k, .int .i64 nn, .string t, .slice a l.length c], .tuple #[.int .i64 (L : Int), .bool true], .int .i64 (L : Int), .bool true, .bool true, .bool false, .agg #[.int .i64 k, .int .i64 nn, .string t, .slice a l.length c], .func (.func 54) #[] #[.pointer (some ⟨w1.heap.size, 0, none⟩)], .int .i64 (x.1.1 : Int), x.1.2.val, undef, undef, undef, undef, undef, undef]) WL.heap.size) ?hAx ?assign ?body ?done ?stop
      case hI =>
        rintro pre W W' row ⟨⟨g2, g3, g4, g5⟩, gk⟩ hg hr
        exact ⟨⟨cells_own g2 hg hr, cells_own g3 hg hr, g4.grown hg g4.size (fun r e => by have := (hr r e).1; omega), g5⟩, gk.own hg hr⟩
      case hIx =>
        rintro c' pre W W' row ⟨g0, g2, g3, g4, g5⟩ hg hr
        exact ⟨g0, cells_own g2 hg hr, cells_own g3 hg hr, g4.grown hg g4.size (fun r e => by have := (hr r e).1; omega), g5⟩
      case hAx =>
        rintro x a' _ W W' row ⟨Bx, h1, h2, h3⟩ hg hr
        exact ⟨Bx, h1, cells_own h2 hg hr, h3⟩
      case assign =>
        rintro l0 pre x W K ⟨⟨g2, g3, g4, g5⟩, gk⟩ hK
        have hb : Below W.heap.size W (W.alloc (.cells x.1.2.cells 24)) := (Below.refl _ _).alloc (Nat.le_refl _) _
        have hKx := hK _ _ (keepsFrom_below hb) (.below hb) ⟨⟨by rw [hb.block _ (Array.getElem?_eq_some_iff.1 g2).1]; exact g2, by rw [hb.block _ (Array.getElem?_eq_some_iff.1 g3).1]; exact g3, g4.trans (hb.mono g4.size), g5⟩, gk.trans (.below hb)⟩ ⟨W.heap.size, gk.1, World.alloc_heap_new _ _, rfl⟩
        obtain ⟨⟨dx, uk, un, ut, ua, uc, ul⟩, hx⟩ := x
        dsimp only [elEnc, Vl.val, Vl.cells, Vl.kind, Vl.num, Vl.text, Vl.sl, Vl.addr, Vl.items, Vl.cap] at hKx ⊢
        gi_wp2
        exact hKx
      case body =>
        rintro l0 pre x a' W ⟨hZ, gk⟩ ⟨Bx, hBx, hbx, rfl⟩ hlt
        have HZI := Lib.hid hZ
        obtain ⟨g2, g3, g4, g5⟩ := hZ
        have c1 := cell_of_one g2
        have c2 := cell_of_one g3
        have hru : Rd (Out (fun _ => False)) W x.1.2 := (visits_rd 64 1 _ hrd x.1 x.2).keep gk
        have HO := Lib.hid (own_any _ x.1.2 W hru)
        have HSN := Lib.hid (fV_snoc _ pre x)
        obtain ⟨d1, d2, d3, d4⟩ := vat_of_heap hbx
        have hn1 : W.heap.size > w.heap.size + 1 + 1 := (Array.getElem?_eq_some_iff.1 g3).1
        have hst : Hid (∀ W3, Below W.heap.size W W3 → singV x.1.2.er ≠ 0 → ZX (.mk k nn t a c l) w (pre ++ [x]) ((W3.setCell ⟨w.heap.size + 1, 0, none⟩ (.int .i64 0)).setCell ⟨w.heap.size + 1 + 1, 0, none⟩ (.int .i64 (singV x.1.2.er)))) := fun W3 hb hne => by
          have k2 : W3.heap[w.heap.size + 1]? = some (.cells #[.int .i64 0] 3 (0, 0)) := by rw [hb.block _ (by omega)]; exact g2
          have k3 : W3.heap[w.heap.size + 1 + 1]? = some (.cells #[.int .i64 0] 27 (0, 0)) := by rw [hb.block _ (by omega)]; exact g3
          have hf : fV (.mk k nn t a c l) (pre ++ [x]) = singV x.1.2.er := by rw [fV_snoc, g5, if_neg (by simp)]
          refine ⟨?_, ?_, below_setc (below_setc (g4.trans (hb.mono g4.size)) (by omega) _ _) (by omega) _ _, by rw [hf]; exact hne⟩
          · rw [heap_setCell_other (by omega), heap_setCell_self k2]; simp
          · rw [heap_setCell_self (by rw [heap_setCell_other (by omega)]; exact k3), hf]; simp
        have hgo : Hid (∀ W3, Below W.heap.size W W3 → singV x.1.2.er = 0 → ZI (.mk k nn t a c l) w (pre ++ [x]) W3) := fun W3 hb h0 =>
          ⟨by rw [hb.block _ (by omega)]; exact g2, by rw [hb.block _ (by omega)]; exact g3, g4.trans (hb.mono g4.size), by rw [fV_snoc, g5, if_neg (by simp), h0]⟩
        have hcell : Hid (∀ W3, Below W.heap.size W W3 → W3.cell? ⟨w.heap.size + 1, 0, none⟩ = some (.int .i64 0) ∧ W3.cell? ⟨w.heap.size + 1 + 1, 0, none⟩ = some (.int .i64 0) ∧ W3.frozen? ⟨w.heap.size + 1, 0, none⟩ = false ∧ W3.frozen? ⟨w.heap.size + 1 + 1, 0, none⟩ = false) := fun W3 hb => by
          have k2 : W3.heap[w.heap.size + 1]? = some (.cells #[.int .i64 0] 3 (0, 0)) := by rw [hb.block _ (by omega)]; exact g2
          have k3 : W3.heap[w.heap.size + 1 + 1]? = some (.cells #[.int .i64 0] 27 (0, 0)) := by rw [hb.block _ (by omega)]; exact g3
          exact ⟨cell_of_one k2, cell_of_one k3, by simp [World.frozen?, k2], by simp [World.frozen?, k3]⟩
        clear g2 g3 g4 g5 hru hbx hat hrd h0
        generalize hG : singV x.1.2.er = G at *
        clear hG
        obtain ⟨⟨dx, uk, un, ut, ua, uc, ul⟩, hx⟩ := x
        dsimp only [Vl.val, Vl.cells, Vl.kind, Vl.num, Vl.text, Vl.sl, Vl.addr, Vl.items, Vl.cap] at d1 d2 d3 d4 HO ⊢
        rw [Nat.zero_add] at d2 d3 d4
        gi_wp2_with (fail)
        refine ⟨trivial, ?_⟩
        refine (callsIn_wide.2 HO.out).mono ?_
        rintro e W3 ⟨rfl, hb3⟩
        obtain ⟨q1, q2, q3, q4⟩ := hcell.out W3 hb3
        by_cases hg0 : G = 0
        · subst hg0
          have hgo2 := Lib.hid (hgo.out W3 hb3 rfl)
          clear hst hgo hcell HO
          gi_wp2
          exact ⟨keepsFrom_below hb3, .below hb3, hgo2.out, gk.trans (.below hb3)⟩
        · have hst2 := Lib.hid (hst.out W3 hb3 hg0)
          have dg : ((G : Int) != 0) = true := by simp [hg0]
          clear hst hgo hcell HO hg0
          gi_wp2
          exact ⟨(keepsFrom_below hb3).trans (((KeepsOthers.setCell _ _ _).trans (KeepsOthers.setCell _ _ _)).from _), rfl, hst2.out⟩
      case done =>
        rintro D W hD ⟨⟨g2, g3, g4, g5⟩, -⟩ hd
        have c1 := cell_of_one g2
        have c2 := cell_of_one g3
        have f1 : W.frozen? ⟨w.heap.size + 1, 0, none⟩ = false := by simp [World.frozen?, g2]
        have f2 : W.frozen? ⟨w.heap.size + 1 + 1, 0, none⟩ = false := by simp [World.frozen?, g3]
        have hA0 : Hid (allV (Vl.mk k nn t a c l).er = 0) := by
          show _ = _
          rw [← hF.out, ← fV_all]; exact g5
        have hend : Hid (((W.setCell ⟨w.heap.size + 1, 0, none⟩ (.int .i64 (L : Int))).setCell ⟨w.heap.size + 1 + 1, 0, none⟩ (.int .i64 0)).heap[w.heap.size + 1]? = some (.cells #[.int .i64 (L : Int)] 3 (0, 0)) ∧ ((W.setCell ⟨w.heap.size + 1, 0, none⟩ (.int .i64 (L : Int))).setCell ⟨w.heap.size + 1 + 1, 0, none⟩ (.int .i64 0)).heap[w.heap.size + 1 + 1]? = some (.cells #[.int .i64 0] 27 (0, 0)) ∧
            ((W.setCell ⟨w.heap.size + 1, 0, none⟩ (.int .i64 (L : Int))).setCell ⟨w.heap.size + 1 + 1, 0, none⟩ (.int .i64 0)).heap[D]? = some (.deferred (some []))) := by
          refine ⟨?_, ?_, ?_⟩
          · rw [heap_setCell_other (by omega), heap_setCell_self g2]; simp
          · rw [heap_setCell_self (by rw [heap_setCell_other (by omega)]; exact g3)]; simp
          · rw [heap_setCell_other (by omega), heap_setCell_other (by omega)]; exact hd
        have hb5 := below_setc (below_setc g4 (b := w.heap.size + 1) (by omega) 0 (.int .i64 (L : Int))) (b := w.heap.size + 1 + 1) (by omega) 0 (.int .i64 0)
        clear g2 g3 g5 hd hat hrd h0
        gi_wp2
        refine leaves_marks (hi := w.heap.size) (by simp) (Φ := fun W => W.heap[w.heap.size + 1]? = some (.cells #[.int .i64 (L : Int)] 3 (0, 0)) ∧ W.heap[w.heap.size + 1 + 1]? = some (.cells #[.int .i64 0] 27 (0, 0)) ∧ Below w.heap.size w W) ?_ ?_ _ _ (Marks.one (by omega) hend.out.2.2) ⟨hend.out.1, hend.out.2.1, hb5⟩
        · rintro W D ⟨h1, h2, h3⟩ hD hd
          exact ⟨cells_putObj h1 hd rfl _, cells_putObj h2 hd rfl _, below_putObj h3 hD hd _⟩
        · rintro W ⟨h1, h2, h3⟩
          have e1 := cell_of_one h1
          have e2 := cell_of_one h2
          refine ⟨_, by simp [results, Tryd.results14, go_sem, e1, e2]; rfl, ?_, h3⟩
          rw [HZ.out, HC.out, HN.out, hA0.out]; rfl
      case stop =>
        rintro D c' pre W hD hpre ⟨rfl, g2, g3, g4, g5⟩ hd
        have hA0 : Hid (allV (Vl.mk k nn t a c l).er = fV (Vl.mk k nn t a c l) pre) := by
          show _ = _
          rw [← hF.out]; exact fV_stop hpre g5
        generalize fV (Vl.mk k nn t a c l) pre = E at *
        clear hat hrd h0
        gi_wp2
        refine leaves_marks (hi := w.heap.size) (by simp) (Φ := fun W => W.heap[w.heap.size + 1]? = some (.cells #[.int .i64 0] 3 (0, 0)) ∧ W.heap[w.heap.size + 1 + 1]? = some (.cells #[.int .i64 E] 27 (0, 0)) ∧ Below w.heap.size w W) ?_ ?_ _ _ (Marks.one (by omega) hd) ⟨g2, g3, g4⟩
        · rintro W D ⟨h1, h2, h3⟩ hD hd
          exact ⟨cells_putObj h1 hd rfl _, cells_putObj h2 hd rfl _, below_putObj h3 hD hd _⟩
        · rintro W ⟨h1, h2, h3⟩
          have e1 := cell_of_one h1
          have e2 := cell_of_one h2
          refine ⟨_, by simp [results, Tryd.results14, go_sem, e1, e2]; rfl, ?_, h3⟩
          rw [HZ.out, HC.out, HN.out, hA0.out, if_neg (by simp; exact g5), if_neg (by simp)]
    · have hmr := HV.out.2 hok
      have HN := Lib.hid hmr
      rw [hmr]
      clear hmr HV HF hok
      dsimp only [mgot, mbad, Option.getD, Option.isNone]
      have h1 : ((w1.setCell ⟨w.heap.size + 1, 0, none⟩ (.int .i64 0)).setCell ⟨w.heap.size + 1 + 1, 0, none⟩ (.int .i64 4)).heap[w.heap.size + 1]? = some (.cells #[.int .i64 0] 3 (0, 0)) := by
        rw [heap_setCell_other (by omega), heap_setCell_self R1.out]; simp
      have h2 : ((w1.setCell ⟨w.heap.size + 1, 0, none⟩ (.int .i64 0)).setCell ⟨w.heap.size + 1 + 1, 0, none⟩ (.int .i64 4)).heap[w.heap.size + 1 + 1]? = some (.cells #[.int .i64 4] 27 (0, 0)) := by
        rw [heap_setCell_self (by rw [heap_setCell_other (by omega)]; exact R2.out)]; simp
      have h3 := below_setc (below_setc hb01 (b := w.heap.size + 1) (by omega) 0 (.int .i64 0)) (b := w.heap.size + 1 + 1) (by omega) 0 (.int .i64 4)
      have H1 := Lib.hid h1
      have H2 := Lib.hid h2
      clear h1 h2
      gi_wp2
      have e1 := cell_of_one H1.out
      have e2 := cell_of_one H2.out
      refine ⟨_, by simp [results, Tryd.results14, go_sem, e1, e2]; rfl, ?_, h3⟩
      rw [HZ.out, HC.out, HN.out]; rfl
end Go.Proofs.YtancjkaoocgeeaaDoor
