/- Joined: CSize, CEnc, CDecP. -/
import Derived.Test.YtlbcmeebcfalpaaGreatDoorR19
import Derived.Test.YtlbcmeebcfalpaaGreatDoorR02
import Derived.Test.YtlbcmeebcfalpaaGreatDoorR18
import Derived.Laws.EntriesVeiled
import Derived.Test.YtlbcmeebcfalpaaGreatDoorR04
import Derived.Test.YtlbcmeebcfalpaaGreatDoorR06
import Derived.Test.YtlbcmeebcfalpaaGreatDoorR03
set_option linter.unusedVariables false
set_option linter.unusedSimpArgs false
set_option maxRecDepth 100000
set_option maxHeartbeats 16000000
namespace Go.Proofs.YtlbcmeebcfalpaaGreatDoor
open Go.RowKit Go.Shelf
attribute [local go_sem] Oper.semAt_some

theorem keepsFrom_below {B : Nat} {W W' : World} (h : Below W.heap.size W W') : KeepsFrom B W W' := ⟨h.size, fun k o _ hk _ => by rw [h.block k (Array.getElem?_eq_some_iff.1 hk).1]; exact hk⟩
def fV (v : Vl) (pre : List (El v)) : Int := firstV (pre.map fun x => x.1)
theorem fV_snoc (v : Vl) (pre : List (El v)) (x : El v) : fV v (pre ++ [x]) = if fV v pre ≠ 0 then fV v pre else singV x.1.2.er := by
  rw [fV, List.map_append, firstV_append]
  have : firstV ([x].map fun x => x.1) = singV x.1.2.er := by
    show (if singV x.1.2.er ≠ 0 then singV x.1.2.er else 0) = _
    split
    · rfl
    · rename_i h; exact (Decidable.not_not.1 h).symm
  rw [this]; rfl
theorem fV_all (v : Vl) : fV v (els v) = firstV (vis v) := by rw [fV, els, List.attach_map_subtype_val]
theorem fV_stop {v : Vl} {pre : List (El v)} (h : pre <+: els v) (h0 : fV v pre ≠ 0) : firstV (vis v) = fV v pre := by
  obtain ⟨r, hr⟩ := h
  rw [<- fV_all, <- hr, fV, List.map_append, firstV_append]
  exact if_pos h0
/-- What the loop of Size keeps. -/
structure ZI (v : Vl) (w : World) (pre : List (El v)) (W : World) : Prop where
  r1 : W.heap[w.heap.size + 1]? = some (.cells #[.int .i64 0] 3 (0, 0))
  r2 : W.heap[w.heap.size + 1 + 1]? = some (.cells #[.int .i64 0] 41 (0, 0))
  below : Below w.heap.size w W
  ok : fV v pre = 0
structure ZX (v : Vl) (w : World) (pre : List (El v)) (W : World) : Prop where
  r1 : W.heap[w.heap.size + 1]? = some (.cells #[.int .i64 0] 3 (0, 0))
  r2 : W.heap[w.heap.size + 1 + 1]? = some (.cells #[.int .i64 (fV v pre)] 41 (0, 0))
  below : Below w.heap.size w W
  no : fV v pre ≠ 0
/-- Behind the assignment of a round. -/
def ZA (v : Vl) (tm : Nat -> El v -> Array Value) (hi : Nat) (x : El v) (a' : Act) (W : World) : Prop := ∃ Bx : Nat, hi <= Bx /\ W.heap[Bx]? = some (.cells x.1.2.cells 24 (0, 0)) /\ a' = { tmps := tm Bx x, defers := [] }
theorem vat_of_heap {W : World} {b : Nat} {v : Vl} (h : W.heap[b]? = some (.cells v.cells 24 (0, 0))) : VAt W b 0 v := by
  refine ⟨?_, ?_, ?_, ?_⟩ <;> (simp [World.cell?, h]; rfl)
theorem size_any (S : Nat -> Prop) : ∀ (v : Vl) (w : World), Rd S w v ->
    Calls Tryz.prog 54 #[v.val] w fun e w' => e = .returned (.tuple #[.int .i64 (sizV v.er), .int .i64 (chkV v.er)]) /\ Below w.heap.size w w'
  | .mk k nn t a c l, w, h => by
    change Calls _ _ #[.agg #[.int .i64 k, .int .i64 nn, .string t, .slice a l.length c]] _ _
    have HA := hiq (fun m W => all_in m W (.mk k nn t a c l))
    have hbW : Below w.heap.size w (((w.alloc (.cells #[.int .i64 k, .int .i64 nn, .string t, .slice a l.length c] 24)).alloc (.cells #[.int .i64 0] 3)).alloc (.cells #[.int .i64 0] 41)) := (((Below.refl _ w).alloc (Nat.le_refl _) _).alloc (by simp) _).alloc (by simp; omega) _
    have HM := hiq (measure_any S (.mk k nn t a c l) (((w.alloc (.cells #[.int .i64 k, .int .i64 nn, .string t, .slice a l.length c] 24)).alloc (.cells #[.int .i64 0] 3)).alloc (.cells #[.int .i64 0] 41)) (h.below hbW))
    have q0 : VAt (((w.alloc (.cells #[.int .i64 k, .int .i64 nn, .string t, .slice a l.length c] 24)).alloc (.cells #[.int .i64 0] 3)).alloc (.cells #[.int .i64 0] 41)) w.heap.size 0 (.mk k nn t a c l) := (((boxed S w _ h).at_.later ((Below.refl _ _).alloc (Nat.le_refl _) (.cells #[.int .i64 0] 3))).later ((Below.refl _ _).alloc (Nat.le_refl _) (.cells #[.int .i64 0] 41)))
    have q1 : (((w.alloc (.cells #[.int .i64 k, .int .i64 nn, .string t, .slice a l.length c] 24)).alloc (.cells #[.int .i64 0] 3)).alloc (.cells #[.int .i64 0] 41)).heap[w.heap.size + 1]? = some (.cells #[.int .i64 0] 3 (0, 0)) := by
      rw [Below.heap_alloc _ _ _ (by simp)]; have := World.alloc_heap_new (w.alloc (.cells #[.int .i64 k, .int .i64 nn, .string t, .slice a l.length c] 24)) (.cells #[.int .i64 0] 3); simpa using this
    have q2 : (((w.alloc (.cells #[.int .i64 k, .int .i64 nn, .string t, .slice a l.length c] 24)).alloc (.cells #[.int .i64 0] 3)).alloc (.cells #[.int .i64 0] 41)).heap[w.heap.size + 1 + 1]? = some (.cells #[.int .i64 0] 41 (0, 0)) := by
      have := World.alloc_heap_new ((w.alloc (.cells #[.int .i64 k, .int .i64 nn, .string t, .slice a l.length c] 24)).alloc (.cells #[.int .i64 0] 3)) (.cells #[.int .i64 0] 41); simpa using this
    have q3 : w.heap.size + 1 + 1 < (((w.alloc (.cells #[.int .i64 k, .int .i64 nn, .string t, .slice a l.length c] 24)).alloc (.cells #[.int .i64 0] 3)).alloc (.cells #[.int .i64 0] 41)).heap.size := by simp
    have HV := hiq (measR_vis (.mk k nn t a c l))
    have HC : Hid (chkV (Vl.mk k nn t a c l).er = if measR 64 65536 (Vl.mk k nn t a c l).er = none then 4 else allV (Vl.mk k nn t a c l).er) := rfl
    have HZ : Hid (sizV (Vl.mk k nn t a c l).er = if chkV (Vl.mk k nn t a c l).er = 0 then (measR 64 65536 (Vl.mk k nn t a c l).er).getD 0 else 0) := rfl
    have HF : Hid (okM (Vl.mk k nn t a c l) -> firstV (vis (Vl.mk k nn t a c l)) = allV (Vl.mk k nn t a c l).er) := firstV_ok
    dsimp only [Vl.val, Vl.cells, Vl.kind, Vl.num, Vl.text, Vl.sl, Vl.addr, Vl.items, Vl.cap] at HA HM
    refine (callsIn_wide (n := 10)).1 ?_
    refine callsIn_of_wp_marks Tryz.func54 rfl trivial ?_ rfl
    simp only [Tryz.ntmps54, List.size_toArray, List.length_cons, List.length_nil, Nat.reduceAdd, Nat.reduceSub, Array.replicate_succ, Array.replicate_zero, List.push_toArray, List.append_toArray, List.nil_append, List.cons_append]
    gi_wp2_with (fail)
    refine ⟨trivial, ?_⟩
    refine (callsIn_wide.2 HM.out).mono ?_
    rintro e w1 ⟨rfl, hb1⟩
    generalize ((w.alloc (.cells #[.int .i64 k, .int .i64 nn, .string t, .slice a l.length c] 24)).alloc (.cells #[.int .i64 0] 3)).alloc (.cells #[.int .i64 0] 41) = W0 at *
    have hb01 := hbW.trans (hb1.mono hbW.size)
    have r1 : w1.heap[w.heap.size + 1]? = some (.cells #[.int .i64 0] 3 (0, 0)) := by rw [hb1.block _ (by omega)]; exact q1
    have r2 : w1.heap[w.heap.size + 1 + 1]? = some (.cells #[.int .i64 0] 41 (0, 0)) := by rw [hb1.block _ (by omega)]; exact q2
    have hsz1 : w.heap.size + 1 + 1 < w1.heap.size := by have := hb1.size; omega
    obtain ⟨x1, x2, x3, x4⟩ := q0.later hb1
    dsimp only [Vl.val, Vl.cells, Vl.kind, Vl.num, Vl.text, Vl.sl, Vl.addr, Vl.items, Vl.cap] at x1 x2 x3 x4
    rw [Nat.zero_add] at x2 x3 x4
    clear HM q0 q1 q2 q3 hb1 hbW W0
    have c1 := cell_of_one r1
    have c2 := cell_of_one r2
    have f1 : w1.frozen? ⟨w.heap.size + 1, 0, none⟩ = false := by simp [World.frozen?, r1]
    have f2 : w1.frozen? ⟨w.heap.size + 1 + 1, 0, none⟩ = false := by simp [World.frozen?, r2]
    have R1 := hiq r1
    have R2 := hiq r2
    clear r1 r2
    by_cases hok : okM (.mk k nn t a c l)
    · have hmr := HV.out.1 hok
      have HN := hiq hmr
      rw [hmr]
      have hF := hiq (HF.out hok)
      clear hmr HV HF hok
      have hb : (!mbad (some ((vis (Vl.mk k nn t a c l)).length : Int))) = true := rfl
      have hg : mgot (some ((vis (Vl.mk k nn t a c l)).length : Int)) = ((vis (Vl.mk k nn t a c l)).length : Int) := rfl
      rw [hb, hg]
      generalize hL : (vis (Vl.mk k nn t a c l)).length = L at *
      clear hb hg hL
      gi_wp2_with (fail)
      refine ⟨trivial, ?_⟩
      refine (HA.out _ _).mono ?_
      rintro e w' ⟨rfl, rfl⟩
      gi_wp2
      have hbA : Below w1.heap.size w1 (w1.alloc (.cells #[.int .i64 k, .int .i64 nn, .string t, .slice a l.length c] 24)) := (Below.refl _ _).alloc (Nat.le_refl _) _
      have hbL := hb01.trans (hbA.mono hb01.size)
      have hat : VAt (w1.alloc (.cells #[.int .i64 k, .int .i64 nn, .string t, .slice a l.length c] 24)) w1.heap.size 0 (.mk k nn t a c l) := by
        refine ⟨?_, ?_, ?_, ?_⟩ <;> (rw [World.cell?_alloc_at _ _ _ _ rfl]; rfl)
      have h0 : ZI (.mk k nn t a c l) w [] (w1.alloc (.cells #[.int .i64 k, .int .i64 nn, .string t, .slice a l.length c] 24)) := ⟨by rw [Below.heap_alloc _ _ _ (by omega)]; exact R1.out, by rw [Below.heap_alloc _ _ _ (by omega)]; exact R2.out, hbL, rfl⟩
      have hrd : Rd (Out (fun _ => False)) (w1.alloc (.cells #[.int .i64 k, .int .i64 nn, .string t, .slice a l.length c] 24)) (.mk k nn t a c l) := (h.below hbL).mono (fun b _ _ hf => hf)
      have hszL : w1.heap.size < (w1.alloc (.cells #[.int .i64 k, .int .i64 nn, .string t, .slice a l.length c] 24)).heap.size := by simp
      generalize w1.alloc (.cells #[.int .i64 k, .int .i64 nn, .string t, .slice a l.length c] 24) = WL at *
      refine all_loop (n := 10) (by omega) w1.heap.size (.mk k nn t a c l) (fun _ => False) rfl hat hrd (fun b hb => hb.elim) (fun e => e)
        (fun pre W => ZI (.mk k nn t a c l) w pre W /\ KeepS (Out (fun _ => False)) WL W) (fun c' pre W => c' = .ret /\ ZX (.mk k nn t a c l) w pre W) ?hI ?hIx ⟨h0, KeepS.refl _ _⟩ (ZA (.mk k nn t a c l) (fun Bx x => #[.agg #[.int .i64 k, .int .i64 nn, .string t, .slice a l.length c], .pointer (some ⟨w.heap.size, 0, none⟩), .pointer (some ⟨w.heap.size + 1, 0, none⟩), .pointer (some ⟨w.heap.size + 1 + 1, 0, none⟩), .int .i64 (L : Int), .bool true, undef, .pointer (some ⟨Bx, 0, none⟩), undef, .tuple #[.int .i64 (L : Int), .bool true], .agg #[.int .i64 k, .int .i64 nn, .string t, .slice a l.length c], .tuple #[.int .i64 (L : Int), .bool true], .int .i64 (L : Int), .bool true, .bool true, .bool false, .agg #[.int .i64 k, .int .i64 nn, .string t, .slice a l.length c], .func (.func 220) #[] #[.pointer (some ⟨w1.heap.size, 0, none⟩)], .int .i64 (x.1.1 : Int), x.1.2.val, undef, undef, undef, undef, undef, undef]) WL.heap.size) ?hAx ?assign ?body ?done ?stop
      case hI =>
        rintro pre W W' row ⟨⟨g2, g3, g4, g5⟩, gk⟩ hg hr
        exact ⟨⟨cells_own g2 hg hr, cells_own g3 hg hr, g4.grown hg g4.size (fun r e => by have := (hr r e).1; omega), g5⟩, gk.own hg hr⟩
      case hIx =>
        rintro c' pre W W' row ⟨g0, g2, g3, g4, g5⟩ hg hr
        exact ⟨g0, cells_own g2 hg hr, cells_own g3 hg hr, g4.grown hg g4.size (fun r e => by have := (hr r e).1; omega), g5⟩
      case hAx =>
        rintro x a' _ W W' row ⟨Bx, h1, h2, h3⟩ hg hr
        exact ⟨Bx, h1, cells_own h2 hg hr, h3⟩
      case assign =>
        rintro l0 pre x W K ⟨⟨g2, g3, g4, g5⟩, gk⟩ hK
        have hb : Below W.heap.size W (W.alloc (.cells x.1.2.cells 24)) := (Below.refl _ _).alloc (Nat.le_refl _) _
        have hKx := hK _ _ (keepsFrom_below hb) (.below hb) ⟨⟨by rw [hb.block _ (Array.getElem?_eq_some_iff.1 g2).1]; exact g2, by rw [hb.block _ (Array.getElem?_eq_some_iff.1 g3).1]; exact g3, g4.trans (hb.mono g4.size), g5⟩, gk.trans (.below hb)⟩ ⟨W.heap.size, gk.1, World.alloc_heap_new _ _, rfl⟩
        obtain ⟨⟨dx, uk, un, ut, ua, uc, ul⟩, hx⟩ := x
        dsimp only [elEnc, Vl.val, Vl.cells, Vl.kind, Vl.num, Vl.text, Vl.sl, Vl.addr, Vl.items, Vl.cap] at hKx ⊢
        gi_wp2
        exact hKx
      case body =>
        rintro l0 pre x a' W ⟨hZ, gk⟩ ⟨Bx, hBx, hbx, rfl⟩ hlt
        have HZI := hiq hZ
        obtain ⟨g2, g3, g4, g5⟩ := hZ
        have c1 := cell_of_one g2
        have c2 := cell_of_one g3
        have hru : Rd (Out (fun _ => False)) W x.1.2 := (visits_rd 64 1 _ hrd x.1 x.2).keep gk
        have HO := hiq (own_any _ x.1.2 W hru)
        have HSN := hiq (fV_snoc _ pre x)
        obtain ⟨d1, d2, d3, d4⟩ := vat_of_heap hbx
        have hn1 : W.heap.size > w.heap.size + 1 + 1 := (Array.getElem?_eq_some_iff.1 g3).1
        have hst : Hid (∀ W3, Below W.heap.size W W3 -> singV x.1.2.er ≠ 0 -> ZX (.mk k nn t a c l) w (pre ++ [x]) ((W3.setCell ⟨w.heap.size + 1, 0, none⟩ (.int .i64 0)).setCell ⟨w.heap.size + 1 + 1, 0, none⟩ (.int .i64 (singV x.1.2.er)))) := fun W3 hb hne => by
          have k2 : W3.heap[w.heap.size + 1]? = some (.cells #[.int .i64 0] 3 (0, 0)) := by rw [hb.block _ (by omega)]; exact g2
          have k3 : W3.heap[w.heap.size + 1 + 1]? = some (.cells #[.int .i64 0] 41 (0, 0)) := by rw [hb.block _ (by omega)]; exact g3
          have hf : fV (.mk k nn t a c l) (pre ++ [x]) = singV x.1.2.er := by rw [fV_snoc, g5, if_neg (by simp)]
          refine ⟨?_, ?_, below_setc (below_setc (g4.trans (hb.mono g4.size)) (by omega) _ _) (by omega) _ _, by rw [hf]; exact hne⟩
          · rw [heap_setCell_other (by omega), heap_setCell_self k2]; simp
          · rw [heap_setCell_self (by rw [heap_setCell_other (by omega)]; exact k3), hf]; simp
        have hgo : Hid (∀ W3, Below W.heap.size W W3 -> singV x.1.2.er = 0 -> ZI (.mk k nn t a c l) w (pre ++ [x]) W3) := fun W3 hb h0 =>
          ⟨by rw [hb.block _ (by omega)]; exact g2, by rw [hb.block _ (by omega)]; exact g3, g4.trans (hb.mono g4.size), by rw [fV_snoc, g5, if_neg (by simp), h0]⟩
        have hcell : Hid (∀ W3, Below W.heap.size W W3 -> W3.cell? ⟨w.heap.size + 1, 0, none⟩ = some (.int .i64 0) /\ W3.cell? ⟨w.heap.size + 1 + 1, 0, none⟩ = some (.int .i64 0) /\ W3.frozen? ⟨w.heap.size + 1, 0, none⟩ = false /\ W3.frozen? ⟨w.heap.size + 1 + 1, 0, none⟩ = false) := fun W3 hb => by
          have k2 : W3.heap[w.heap.size + 1]? = some (.cells #[.int .i64 0] 3 (0, 0)) := by rw [hb.block _ (by omega)]; exact g2
          have k3 : W3.heap[w.heap.size + 1 + 1]? = some (.cells #[.int .i64 0] 41 (0, 0)) := by rw [hb.block _ (by omega)]; exact g3
          exact ⟨cell_of_one k2, cell_of_one k3, by simp [World.frozen?, k2], by simp [World.frozen?, k3]⟩
        clear g2 g3 g4 g5 hru hbx hat hrd h0
        generalize hG : singV x.1.2.er = G at *
        clear hG
        obtain ⟨⟨dx, uk, un, ut, ua, uc, ul⟩, hx⟩ := x
        dsimp only [Vl.val, Vl.cells, Vl.kind, Vl.num, Vl.text, Vl.sl, Vl.addr, Vl.items, Vl.cap] at d1 d2 d3 d4 HO ⊢
        rw [Nat.zero_add] at d2 d3 d4
        gi_wp2_with (fail)
        refine ⟨trivial, ?_⟩
        refine (callsIn_wide.2 HO.out).mono ?_
        rintro e W3 ⟨rfl, hb3⟩
        obtain ⟨q1, q2, q3, q4⟩ := hcell.out W3 hb3
        by_cases hg0 : G = 0
        · subst hg0
          have hgo2 := hiq (hgo.out W3 hb3 rfl)
          clear hst hgo hcell HO
          gi_wp2
          exact ⟨keepsFrom_below hb3, .below hb3, hgo2.out, gk.trans (.below hb3)⟩
        · have hst2 := hiq (hst.out W3 hb3 hg0)
          have dg : ((G : Int) != 0) = true := by simp [hg0]
          clear hst hgo hcell HO hg0
          gi_wp2
          exact ⟨(keepsFrom_below hb3).trans (((KeepsOthers.setCell _ _ _).trans (KeepsOthers.setCell _ _ _)).from _), rfl, hst2.out⟩
      case done =>
        rintro D W hD ⟨⟨g2, g3, g4, g5⟩, -⟩ hd
        have c1 := cell_of_one g2
        have c2 := cell_of_one g3
        have f1 : W.frozen? ⟨w.heap.size + 1, 0, none⟩ = false := by simp [World.frozen?, g2]
        have f2 : W.frozen? ⟨w.heap.size + 1 + 1, 0, none⟩ = false := by simp [World.frozen?, g3]
        have hA0 : Hid (allV (Vl.mk k nn t a c l).er = 0) := by
          show _ = _
          rw [<- hF.out, <- fV_all]; exact g5
        have hend : Hid (((W.setCell ⟨w.heap.size + 1, 0, none⟩ (.int .i64 (L : Int))).setCell ⟨w.heap.size + 1 + 1, 0, none⟩ (.int .i64 0)).heap[w.heap.size + 1]? = some (.cells #[.int .i64 (L : Int)] 3 (0, 0)) /\ ((W.setCell ⟨w.heap.size + 1, 0, none⟩ (.int .i64 (L : Int))).setCell ⟨w.heap.size + 1 + 1, 0, none⟩ (.int .i64 0)).heap[w.heap.size + 1 + 1]? = some (.cells #[.int .i64 0] 41 (0, 0)) /\
            ((W.setCell ⟨w.heap.size + 1, 0, none⟩ (.int .i64 (L : Int))).setCell ⟨w.heap.size + 1 + 1, 0, none⟩ (.int .i64 0)).heap[D]? = some (.deferred (some []))) := by
          refine ⟨?_, ?_, ?_⟩
          · rw [heap_setCell_other (by omega), heap_setCell_self g2]; simp
          · rw [heap_setCell_self (by rw [heap_setCell_other (by omega)]; exact g3)]; simp
          · rw [heap_setCell_other (by omega), heap_setCell_other (by omega)]; exact hd
        have hb5 := below_setc (below_setc g4 (b := w.heap.size + 1) (by omega) 0 (.int .i64 (L : Int))) (b := w.heap.size + 1 + 1) (by omega) 0 (.int .i64 0)
        clear g2 g3 g5 hd hat hrd h0
        gi_wp2
        refine leaves_marks (hi := w.heap.size) (by simp) (Φ := fun W => W.heap[w.heap.size + 1]? = some (.cells #[.int .i64 (L : Int)] 3 (0, 0)) /\ W.heap[w.heap.size + 1 + 1]? = some (.cells #[.int .i64 0] 41 (0, 0)) /\ Below w.heap.size w W) ?_ ?_ _ _ (Marks.one (by omega) hend.out.2.2) ⟨hend.out.1, hend.out.2.1, hb5⟩
        · rintro W D ⟨h1, h2, h3⟩ hD hd
          exact ⟨cells_putObj h1 hd rfl _, cells_putObj h2 hd rfl _, below_putObj h3 hD hd _⟩
        · rintro W ⟨h1, h2, h3⟩
          have e1 := cell_of_one h1
          have e2 := cell_of_one h2
          refine ⟨_, by simp [results, Tryz.results54, go_sem, e1, e2]; rfl, ?_, h3⟩
          rw [HZ.out, HC.out, HN.out, hA0.out]; rfl
      case stop =>
        rintro D c' pre W hD hpre ⟨rfl, g2, g3, g4, g5⟩ hd
        have hA0 : Hid (allV (Vl.mk k nn t a c l).er = fV (Vl.mk k nn t a c l) pre) := by
          show _ = _
          rw [<- hF.out]; exact fV_stop hpre g5
        generalize fV (Vl.mk k nn t a c l) pre = E at *
        clear hat hrd h0
        gi_wp2
        refine leaves_marks (hi := w.heap.size) (by simp) (Φ := fun W => W.heap[w.heap.size + 1]? = some (.cells #[.int .i64 0] 3 (0, 0)) /\ W.heap[w.heap.size + 1 + 1]? = some (.cells #[.int .i64 E] 41 (0, 0)) /\ Below w.heap.size w W) ?_ ?_ _ _ (Marks.one (by omega) hd) ⟨g2, g3, g4⟩
        · rintro W D ⟨h1, h2, h3⟩ hD hd
          exact ⟨cells_putObj h1 hd rfl _, cells_putObj h2 hd rfl _, below_putObj h3 hD hd _⟩
        · rintro W ⟨h1, h2, h3⟩
          have e1 := cell_of_one h1
          have e2 := cell_of_one h2
          refine ⟨_, by simp [results, Tryz.results54, go_sem, e1, e2]; rfl, ?_, h3⟩
          rw [HZ.out, HC.out, HN.out, hA0.out, if_neg (by simp; exact g5), if_neg (by simp)]
    · have hmr := HV.out.2 hok
      have HN := hiq hmr
      rw [hmr]
      clear hmr HV HF hok
      dsimp only [mgot, mbad, Option.getD, Option.isNone]
      have h1 : ((w1.setCell ⟨w.heap.size + 1, 0, none⟩ (.int .i64 0)).setCell ⟨w.heap.size + 1 + 1, 0, none⟩ (.int .i64 4)).heap[w.heap.size + 1]? = some (.cells #[.int .i64 0] 3 (0, 0)) := by
        rw [heap_setCell_other (by omega), heap_setCell_self R1.out]; simp
      have h2 : ((w1.setCell ⟨w.heap.size + 1, 0, none⟩ (.int .i64 0)).setCell ⟨w.heap.size + 1 + 1, 0, none⟩ (.int .i64 4)).heap[w.heap.size + 1 + 1]? = some (.cells #[.int .i64 4] 41 (0, 0)) := by
        rw [heap_setCell_self (by rw [heap_setCell_other (by omega)]; exact R2.out)]; simp
      have h3 := below_setc (below_setc hb01 (b := w.heap.size + 1) (by omega) 0 (.int .i64 0)) (b := w.heap.size + 1 + 1) (by omega) 0 (.int .i64 4)
      have H1 := hiq h1
      have H2 := hiq h2
      clear h1 h2
      gi_wp2
      have e1 := cell_of_one H1.out
      have e2 := cell_of_one H2.out
      refine ⟨_, by simp [results, Tryz.results54, go_sem, e1, e2]; rfl, ?_, h3⟩
      rw [HZ.out, HC.out, HN.out]; rfl
end Go.Proofs.YtlbcmeebcfalpaaGreatDoor
namespace Go.Proofs.YtlbcmeebcfalpaaGreatDoor
open Go.RowKit Go.Shelf

theorem check_any (S : Nat -> Prop) : ∀ (v : Vl) (w : World), Rd S w v ->
    Calls Tryz.prog 31 #[v.val] w fun e w' => e = .returned (.int .i64 (chkV v.er)) /\ Below w.heap.size w w'
  | .mk k nn t a c l, w, h => by
    have hB := boxed S w _ h
    have hBE := hB.below
    have hlt := hB.lt
    have F := size_any S _ _ hB.rd
    change Below _ w (w.alloc (.cells #[.int .i64 k, .int .i64 nn, .string t, .slice a l.length c] 24)) at hBE
    change w.heap.size <= (w.alloc (.cells #[.int .i64 k, .int .i64 nn, .string t, .slice a l.length c] 24)).heap.size at hlt
    have HF := hiq F
    dsimp only [Vl.val, Vl.cells, Vl.kind, Vl.num, Vl.text, Vl.sl, Vl.addr, Vl.items, Vl.cap] at HF
    clear F h hB
    change Calls _ _ #[.agg #[.int .i64 k, .int .i64 nn, .string t, .slice a l.length c]] _ _
    generalize chkV (Vl.mk k nn t a c l).er = C at *
    generalize sizV (Vl.mk k nn t a c l).er = Z at *
    go_enter Tryz.func31, Tryz.ntmps31
    go_wp2_with fail
    generalize w.alloc (.cells #[.int .i64 k, .int .i64 nn, .string t, .slice a l.length c] 24) = W1 at *
    refine HF.out.mono ?_
    rintro e W2 ⟨rfl, hb2⟩
    go_wp2
    go_ret
    exact ⟨rfl, hBE.trans (hb2.mono hlt)⟩
theorem encode_A (S : Nat -> Prop) : ∀ (v : Vl) (w : World), Rd S w v -> (∀ b, S b -> b < w.heap.size) -> Env w ->
    Calls Tryz.prog 94 #[v.val] w fun e w' => e = .returned (.tuple #[.string ⟨(encB v.er).toArray⟩, .int .i64 (encE v.er)]) /\ Below w.heap.size w w'
  | .mk k nn t a c l, w, h, hS, hE => by
    have hB := boxed S w _ h
    have hBE := hB.below
    have hlt := hB.lt
    have F := check_any S (Vl.mk k nn t a c l) _ hB.rd
    have hWR : Hid (GoodD 64 (Vl.mk k nn t a c l).er -> ∀ W B b bw, w.heap.size <= B -> bw ≠ b -> Rd S W (Vl.mk k nn t a c l) -> Bld B b (Lib.byteCells []) W -> B <= W.heap.size -> EnvB B W -> W.heap[bw]? = some (.cells #[wriFn b bw] 25 (0, 0)) -> _) := fun hg W B b bw hB' hne hr ho hz he hw =>
      write_any b bw B hne 64 S (Vl.mk k nn t a c l) W [] (Nat.le_refl _) hg hr (fun x hx => Nat.lt_of_lt_of_le (hS x hx) hB') ho (by simp) hz he hw
    have hE1 : EnvB w.heap.size _ := (EnvB.of hE).below hBE
    have hrd1 := h.below hBE
    change EnvB w.heap.size (w.alloc (.cells #[.int .i64 k, .int .i64 nn, .string t, .slice a l.length c] 24)) at hE1
    change Rd S (w.alloc (.cells #[.int .i64 k, .int .i64 nn, .string t, .slice a l.length c] 24)) _ at hrd1
    change Boxed S w (w.alloc (.cells #[.int .i64 k, .int .i64 nn, .string t, .slice a l.length c] 24)) _ _ at hB
    change Below _ w (w.alloc (.cells #[.int .i64 k, .int .i64 nn, .string t, .slice a l.length c] 24)) at hBE
    change w.heap.size <= (w.alloc (.cells #[.int .i64 k, .int .i64 nn, .string t, .slice a l.length c] 24)).heap.size at hlt
    have HF := hiq F
    dsimp only [Vl.val, Vl.cells, Vl.kind, Vl.num, Vl.text, Vl.sl, Vl.addr, Vl.items, Vl.cap] at HF hWR
    have hgood : Hid (chkV (Vl.mk k nn t a c l).er = 0 -> GoodD 64 (Vl.mk k nn t a c l).er) := chkV_good
    have hb0 : Hid (encB (Vl.mk k nn t a c l).er = if chkV (Vl.mk k nn t a c l).er = 0 /\ (encV (Vl.mk k nn t a c l).er).length <= 1048576 then encV (Vl.mk k nn t a c l).er else []) := rfl
    have he0 : Hid (encE (Vl.mk k nn t a c l).er = if chkV (Vl.mk k nn t a c l).er ≠ 0 then chkV (Vl.mk k nn t a c l).er else if 1048576 < (encV (Vl.mk k nn t a c l).er).length then 4 else 0) := rfl
    have HRD := hiq hrd1
    clear F h hS hE hrd1
    change Calls _ _ #[.agg #[.int .i64 k, .int .i64 nn, .string t, .slice a l.length c]] _ _
    generalize encB (Vl.mk k nn t a c l).er = RB at *
    generalize encE (Vl.mk k nn t a c l).er = RE at *
    generalize chkV (Vl.mk k nn t a c l).er = C at *
    by_cases hc : C = 0
    · subst hc
      have A2 := hiq (hWR.out (hgood.out rfl))
      generalize encV (Vl.mk k nn t a c l).er = EV at *
      clear hWR hgood
      go_enter Tryz.func94, Tryz.ntmps94
      go_wp2_with fail
      generalize w.alloc (.cells #[.int .i64 k, .int .i64 nn, .string t, .slice a l.length c] 24) = W1 at *
      refine HF.out.mono ?_
      rintro e W2 ⟨rfl, hb2⟩
      have hB2 := hB.later hb2
      obtain ⟨c1, c2, c3, c4⟩ := hB2.at_
      change W2.cell? ⟨w.heap.size, 0, none⟩ = some (.int .i64 k) at c1
      change W2.cell? ⟨w.heap.size, 1, none⟩ = some (.int .i64 nn) at c2
      change W2.cell? ⟨w.heap.size, 2, none⟩ = some (.string t) at c3
      change W2.cell? ⟨w.heap.size, 3, none⟩ = some (.slice a l.length c) at c4
      have hbw2 := hB2.below
      have hsw2 := hB2.lt
      have hrd2 := HRD.out.below hb2
      have hE2 := hE1.below (hb2.mono hlt)
      have hb3 : Below W2.heap.size W2 (W2.alloc (.cells #[.pointer none, .slice none 0 0] 265)) := (Below.refl _ _).alloc (Nat.le_refl _) _
      have hb4 : Below W2.heap.size W2 ((W2.alloc (.cells #[.pointer none, .slice none 0 0] 265)).alloc (.cells #[wriFn W2.heap.size (W2.heap.size + 1)] 25)) := hb3.alloc hb3.size _
      obtain ⟨d1, d2, d3, d4⟩ := (hB.later (hb2.trans (hb4.mono hb2.size))).at_
      change ((W2.alloc (.cells #[.pointer none, .slice none 0 0] 265)).alloc (.cells #[wriFn W2.heap.size (W2.heap.size + 1)] 25)).cell? ⟨w.heap.size, 0, none⟩ = some (.int .i64 k) at d1
      change ((W2.alloc (.cells #[.pointer none, .slice none 0 0] 265)).alloc (.cells #[wriFn W2.heap.size (W2.heap.size + 1)] 25)).cell? ⟨w.heap.size, 1, none⟩ = some (.int .i64 nn) at d2
      change ((W2.alloc (.cells #[.pointer none, .slice none 0 0] 265)).alloc (.cells #[wriFn W2.heap.size (W2.heap.size + 1)] 25)).cell? ⟨w.heap.size, 2, none⟩ = some (.string t) at d3
      change ((W2.alloc (.cells #[.pointer none, .slice none 0 0] 265)).alloc (.cells #[wriFn W2.heap.size (W2.heap.size + 1)] 25)).cell? ⟨w.heap.size, 3, none⟩ = some (.slice a l.length c) at d4
      have ho : Bld W2.heap.size W2.heap.size (Lib.byteCells []) ((W2.alloc (.cells #[.pointer none, .slice none 0 0] 265)).alloc (.cells #[wriFn W2.heap.size (W2.heap.size + 1)] 25)) := by
        refine .inl ⟨Nat.le_refl _, .slice none 0 0, ?_, World.ownsRow_nil _ _ _ _, by simp [Value.ownBlock]⟩
        rw [Below.heap_alloc _ _ _ (by simp)]; exact World.alloc_heap_new _ _
      have A3 := A2.out _ W2.heap.size W2.heap.size (W2.heap.size + 1) (hsw2) (by omega) (hrd2.below hb4) ho hb4.size ((EnvB.mono (B' := W2.heap.size) hE2 (hsw2)).below hb4) (by rw [show W2.heap.size + 1 = (W2.alloc (.cells #[.pointer none, .slice none 0 0] 265)).heap.size by simp]; exact World.alloc_heap_new _ _)
      have HA3 := hiq A3
      clear A2 A3 hb2 hB2 hB HF hBE hlt
      go_wp2_with fail
      have hsW4 := hb4.size
      generalize ((W2.alloc (.cells #[.pointer none, .slice none 0 0] 265)).alloc (.cells #[wriFn W2.heap.size (W2.heap.size + 1)] 25)) = W4 at *
      refine HA3.out.mono ?_
      rintro e W5 ⟨ok, r, rfl, o5, b5, k5, h5, h6⟩
      have hbT := hbw2.trans ((hb4.mono hsw2).trans (b5.mono hsw2))
      by_cases hM : EV.length <= 1048576
      · obtain ⟨rfl, hr5⟩ := h5 (by simpa using hM)
        have R1 : Hid (RB = r /\ RE = 0) := ⟨by rw [hb0.out, hr5]; simp [hM], by rw [he0.out]; simp; omega⟩
        have ST := Tryz.Builder_String_any W2.heap.size W2.heap.size r W5 o5 (Nat.le_trans hsW4 k5.1)
        have HST := hiq ST
        clear ST h5 h6 hr5 hM HA3
        go_wp2_with (go_at_call 201; refine HST.out.mono ?_; rintro e w6 ⟨rfl, b6⟩)
        go_ret2
        exact ⟨by rw [R1.out.1, R1.out.2]; rfl, hbT.trans (b6.mono hsw2)⟩
      · obtain rfl := h6 (by simp; omega)
        have R1 : Hid (RB = [] /\ RE = 4) := ⟨by rw [hb0.out]; simp [hM], by rw [he0.out]; simp; omega⟩
        clear h5 h6 hM HA3
        go_wp2
        go_ret2
        exact ⟨by rw [R1.out.1, R1.out.2]; rfl, hbT⟩
    · have R1 : Hid (RB = [] /\ RE = C) := ⟨by rw [hb0.out, if_neg (fun h => hc h.1)], by rw [he0.out, if_pos hc]⟩
      have dc : ((C : Int) != 0) = true := by simp [hc]
      clear hWR hgood hc hb0 he0
      go_enter Tryz.func94, Tryz.ntmps94
      go_wp2_with fail
      generalize w.alloc (.cells #[.int .i64 k, .int .i64 nn, .string t, .slice a l.length c] 24) = W1 at *
      refine HF.out.mono ?_
      rintro e W2 ⟨rfl, hb2⟩
      go_wp2
      go_ret2
      exact ⟨by rw [R1.out.1, R1.out.2]; rfl, hBE.trans (hb2.mono hlt)⟩
end Go.Proofs.YtlbcmeebcfalpaaGreatDoor
namespace Go.Proofs.YtlbcmeebcfalpaaGreatDoor
open Go.RowKit

theorem decStep_push {top : List V} {below : List (List V)} {r : List UInt8} (h : ¬ (below = [] /\ top.length = 1)) : decStep top below (108 :: r) = .inr ([], top :: below, r) := by
  unfold decStep
  split
  · exact absurd ⟨rfl, rfl⟩ h
  · rename_i h1; cases h1
  · rename_i h1; cases h1; rfl
theorem decStep_list {top b : List V} {bs : List (List V)} {r : List UInt8} : decStep top (b :: bs) (101 :: r) = .inr (b ++ [.mk 3 0 ⟨#[]⟩ top], bs, r) := by
  rcases top with _ | ⟨x, _ | ⟨y, t⟩⟩ <;> rfl
theorem decStep_leaf {top : List V} {below : List (List V)} {s : List UInt8} (h : ¬ (below = [] /\ top.length = 1)) (hs : ∀ c r, s = c :: r -> c ≠ 108 /\ (c = 101 -> below = [])) : decStep top below s = leafStep top below s := by
  cases s with
  | nil =>
    unfold decStep
    split
    · exact absurd ⟨rfl, rfl⟩ h
    · rfl
    · rename_i h1; cases h1
  | cons c r =>
    obtain ⟨h1, h2⟩ := hs c r rfl
    have key : ∀ (t : List V) (b : List (List V)), (c = 101 -> b = []) -> (if c = 108 then .inr ([], t :: b, r) else if c = 101 then (match b with | [] => leafStep t [] (c :: r) | b0 :: bs => .inr (b0 ++ [V.mk 3 0 ⟨#[]⟩ t], bs, r)) else leafStep t b (c :: r)) = leafStep t b (c :: r) := by
      intro t b hb
      rw [if_neg h1]
      by_cases h3 : c = 101
      · rw [if_pos h3, hb h3]
      · rw [if_neg h3]
    rcases top with _ | ⟨x, _ | ⟨y, t⟩⟩ <;> rcases below with _ | ⟨b, bs⟩
    · exact key [] [] h2
    · exact key [] (b :: bs) h2
    · exact absurd ⟨rfl, rfl⟩ h
    · exact key [x] (b :: bs) h2
    · exact key (x :: y :: t) [] h2
    · exact key (x :: y :: t) (b :: bs) h2
/-- The stack without addresses, the innermost list first. -/
def erB (ll : List (List Vl)) : List (List V) := (ll.map fun l => l.map Vl.er).reverse
/-- What the reading has come to. -/
structure DSt (s0 : ByteArray) (W0 : World) (B : Nat) (s : ByteArray) (a : Option Addr) (n c : Nat) (S : Nat -> Prop) (ll : List (List Vl)) (top : List Vl) (w : World) : Prop where
  own : OwnVV S w B a n c (ll ++ [top])
  low : ∀ b, S b -> B <= b
  to : decR (top.map Vl.er) (erB ll) s.data.toList = decR [] [] s0.data.toList
  deep : ll.length + s.size <= s0.size
  long : ∀ l ∈ ll ++ [top], l.length + s.size <= s0.size
  below : Below B W0 w
/-- What Decode answers. -/
def DecPost (s : ByteArray) (w : World) (e : Ending) (w' : World) : Prop := ∃ (S : Nat -> Prop) (v : Vl), e = .returned (.tuple #[v.val, .int .i64 (decode s.data.toList).2]) /\ v.er = (decode s.data.toList).1 /\ Rd S w' v /\ (∀ b, S b -> w.heap.size <= b /\ b < w'.heap.size) /\ Below w.heap.size w w'
theorem rd_zero (S : Nat -> Prop) (w : World) : Rd S w (mkLeaf 0 0 ⟨#[]⟩) := rd_iff.2 ⟨I64.zero, I64.zero, by show 0 <= _; omega, Vals.nil S w⟩
theorem dec_fail {s : ByteArray} {w w' : World} {k : Int} (h : decode s.data.toList = (zeroV, k)) (hb : Below w.heap.size w w') : DecPost s w (.returned (.tuple #[(mkLeaf 0 0 ⟨#[]⟩).val, .int .i64 k])) w' :=
  ⟨fun _ => False, mkLeaf 0 0 ⟨#[]⟩, by rw [h], by rw [h, leaf_er]; rfl, rd_zero _ _, fun _ h => h.elim, hb⟩
def decFin : Option (V × List UInt8) -> V × Int
  | none => (zeroV, 3)
  | some p => if p.2 = [] then (if chkV p.1 = 0 then (p.1, 0) else (zeroV, 4)) else (zeroV, 3)
theorem decode_of {l : List UInt8} {x : Option (V × List UInt8)} (hl : l.length <= 1048576) (h : x = decR [] [] l) : decode l = decFin x := by
  subst h
  rw [decode, if_neg (by omega)]
  cases decR [] [] l <;> rfl
theorem decFin_nil (v : V) : decFin (some (v, [])) = if chkV v = 0 then (v, 0) else (zeroV, 4) := rfl
theorem decFin_rest {v : V} {r : List UInt8} (h : r ≠ []) : decFin (some (v, r)) = (zeroV, 3) := if_neg h
theorem erB_nil {ll : List (List Vl)} : erB ll = [] ↔ ll = [] := by simp [erB]
theorem erB_snoc (ll : List (List Vl)) (l : List Vl) : erB (ll ++ [l]) = l.map Vl.er :: erB ll := by simp [erB]
section
variable {s0 : ByteArray} {W0 w w' : World} {B n c c' : Nat} {s s' : ByteArray} {a a' : Option Addr} {S S' : Nat -> Prop} {ll : List (List Vl)} {top : List Vl}
theorem len_list {s : ByteArray} {l : List UInt8} (h : s.data.toList = l) : s.size = l.length := (Array.length_toList).symm.trans (congrArg List.length h)
theorem DSt.push (h : DSt s0 W0 B s a n c S ll top w) (hA : ¬ (ll = [] /\ top.length = 1)) {r : List UInt8} (hs : s.data.toList = 108 :: r) (hs' : s'.data.toList = r)
    (ho : OwnVV S w' B a' (n + 1) c' ((ll ++ [top]) ++ [[]])) (hb : Below B W0 w') : DSt s0 W0 B s' a' (n + 1) c' S (ll ++ [top]) [] w' := by
  have z1 := len_list hs
  have z2 := len_list hs'
  rw [List.length_cons] at z1
  have hd := h.deep
  refine ⟨ho, h.low, ?_, by rw [List.length_append, List.length_singleton]; omega, fun l hl => ?_, hb⟩
  · rw [<- h.to, hs, hs', decR_step (top.map Vl.er), decStep_push (by rw [erB_nil]; simpa using hA), erB_snoc]; rfl
  · rcases List.mem_append.1 hl with hl | hl
    · have := h.long l hl; omega
    · rw [List.mem_singleton] at hl; subst hl; simp; omega
theorem DSt.leaf (h : DSt s0 W0 B s a n c S ll top w) (hA : ¬ (ll = [] /\ top.length = 1)) (hs : ∀ ch r, s.data.toList = ch :: r -> ch ≠ 108 /\ (ch = 101 -> ll = [])) {k nn : Int} {t : ByteArray}
    (hp : scalP s.data.toList = some (.mk k nn t [], s'.data.toList))
    (ho : OwnVV S w' B a' n c' (ll ++ [top ++ [mkLeaf k nn t]])) (hb : Below B W0 w') : DSt s0 W0 B s' a' n c' S ll (top ++ [mkLeaf k nn t]) w' := by
  have z1 := scalP_lt hp
  rw [Array.length_toList, Array.length_toList] at z1
  change s'.size < s.size at z1
  have hd := h.deep
  refine ⟨ho, h.low, ?_, by omega, fun l hl => ?_, hb⟩
  · rw [<- h.to, decR_step (top.map Vl.er), decStep_leaf (by rw [erB_nil]; simpa using hA) (by rw [erB_nil]; exact hs), leafStep, hp, List.map_append, List.map_singleton, leaf_er]
  · rcases List.mem_append.1 hl with hl | hl
    · have := h.long l (List.mem_append_left _ hl); omega
    · rw [List.mem_singleton] at hl; subst hl
      have := h.long top (by simp)
      rw [List.length_append, List.length_singleton]; omega
theorem DSt.none (h : DSt s0 W0 B s a n c S ll top w) (hA : ¬ (ll = [] /\ top.length = 1)) (hs : ∀ ch r, s.data.toList = ch :: r -> ch ≠ 108 /\ (ch = 101 -> ll = []))
    (hp : scalP s.data.toList = none) (h0 : s0.size <= 1048576) : decode s0.data.toList = (zeroV, 3) := by
  have := h.to
  rw [decR_step (top.map Vl.er), decStep_leaf (by rw [erB_nil]; simpa using hA) (by rw [erB_nil]; exact hs), leafStep, hp] at this
  exact decode_of (x := Option.none) (by rw [Array.length_toList]; exact h0) this
theorem DSt.list {b : List Vl} (h : DSt s0 W0 B s a (n + 1) c S (ll ++ [b]) top w) {r : List UInt8} (hs : s.data.toList = 101 :: r) (hs' : s'.data.toList = r) {al : Option Addr} {cl : Nat}
    (ho : OwnVV S' w' B a' n c' (ll ++ [b ++ [mkList al cl top]])) (hlow : ∀ b, S' b -> B <= b) (hb : Below B W0 w') : DSt s0 W0 B s' a' n c' S' ll (b ++ [mkList al cl top]) w' := by
  have z1 := len_list hs
  have z2 := len_list hs'
  rw [List.length_cons] at z1
  have hd := h.deep
  rw [List.length_append, List.length_singleton] at hd
  refine ⟨ho, hlow, ?_, by omega, fun l hl => ?_, hb⟩
  · rw [<- h.to, hs, hs', decR_step (top.map Vl.er), erB_snoc, decStep_list, List.map_append, List.map_singleton, Vl.er, Vl.erL_map]
  · rcases List.mem_append.1 hl with hl | hl
    · have := h.long l (by simp [hl]); omega
    · rw [List.mem_singleton] at hl; subst hl
      have := h.long b (by simp)
      rw [List.length_append, List.length_singleton]; omega
end
end Go.Proofs.YtlbcmeebcfalpaaGreatDoor
