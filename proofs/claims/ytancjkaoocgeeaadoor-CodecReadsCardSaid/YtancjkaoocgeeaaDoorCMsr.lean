/- codec.measure. -/
import Derived.Test.YtancjkaoocgeeaaDoorCLoop
import Derived.Test.YtancjkaoocgeeaaDoorCMea
namespace Go.Proofs.YtancjkaoocgeeaaDoor
open Go.RowKit Go.Shelf
attribute [local go_sem] Oper.semAt_some
/-- The marks that loops over iterators have left. -/
def Marks (hi : Nat) : List Deferred → World → Prop
  | [], _ => True
  | d :: ds, W => ∃ D, d = { target := .collected D, args := #[] } ∧ hi ≤ D ∧ W.heap[D]? = some (.deferred (some [])) ∧ (∀ e ∈ ds, e ≠ d) ∧ Marks hi ds W
theorem Marks.one {hi D : Nat} {W : World} (h : hi ≤ D) (hd : W.heap[D]? = some (.deferred (some []))) : Marks hi [{ target := .collected D, args := #[] }] W := ⟨D, rfl, h, hd, by simp, trivial⟩
theorem Marks.put {hi D : Nat} {A : World} : ∀ {ds : List Deferred}, Marks hi ds A → (∀ d' ∈ ds, d' ≠ { target := .collected D, args := #[] }) → Marks hi ds (A.putObj D (.deferred none))
  | [], _, _ => trivial
  | _ :: ds, ⟨D', e, h1, h2, h3, h4⟩, hne => by
    refine ⟨D', e, h1, ?_, h3, Marks.put h4 (fun d hd => hne d (by simp [hd]))⟩
    have : D' ≠ D := fun e2 => hne _ (List.mem_cons_self) (by rw [e, e2])
    rw [World.putObj_heap_other this]; exact h2
/-- A function leaves over its marks. -/
theorem leaves_marks {F : Fence} {n hi : Nat} {P : Program} {fn : Func} {tmps : Array Value} {R : Ending → World → Prop} {u : FrameMode} (hu : u ≠ .run) {Φ : World → Prop}
    (hΦ : ∀ (W : World) (D : Nat), Φ W → hi ≤ D → W.heap[D]? = some (.deferred (some [])) → Φ (W.putObj D (.deferred none)))
    (hend : ∀ W, Φ W → LeavesInM F n P fn tmps R [] u W) : ∀ (ds : List Deferred) (W : World), Marks hi ds W → Φ W → LeavesInM F n P fn tmps R ds u W
  | [], W, _, h => hend W h
  | _ :: ds, W, ⟨D, e, h1, h2, h3, h4⟩, h => by
    subst e
    exact ⟨hu, .inl ⟨D, _, rfl, run_takeDeferred h2, leaves_marks hu hΦ hend ds _ (h4.put (fun d hd => h3 d hd)) (hΦ W D h h1 h2)⟩⟩
theorem cells_putObj {W : World} {b D : Nat} {cs : Array Value} {t : TypeId} {fr : Nat × Nat} {o : Obj} (h : W.heap[b]? = some (.cells cs t fr)) (hd : W.heap[D]? = some o) (ho : o.isCells = false) (o' : Obj) : (W.putObj D o').heap[b]? = some (.cells cs t fr) := by
  have hne : b ≠ D := fun e => by subst e; rw [h] at hd; cases hd; cases ho
  rw [World.putObj_heap_other hne]; exact h
theorem below_putObj {n₀ : Nat} {A W : World} (h : Below n₀ A W) {D : Nat} (hD : n₀ ≤ D) {o : Obj} (hd : W.heap[D]? = some o) (o' : Obj) : Below n₀ A (W.putObj D o') :=
  h.trans ((Below.refl n₀ W).grown (grownBy_putObj' W D o') (by have := (Array.getElem?_eq_some_iff.1 hd).1; omega) (fun k e => by cases e; omega))
theorem heap_setCell_self {W : World} {b j : Nat} {cs : Array Value} {t : TypeId} {fr : Nat × Nat} (h : W.heap[b]? = some (.cells cs t fr)) (v : Value) : (W.setCell ⟨b, j, none⟩ v).heap[b]? = some (.cells (cs.setIfInBounds j v) t fr) := by
  simp [World.setCell, Array.getElem?_modify, h]
theorem heap_setCell_other {W : World} {b b' j : Nat} (h : b' ≠ b) (v : Value) : (W.setCell ⟨b, j, none⟩ v).heap[b']? = W.heap[b']? := Below.heap_setCell _ _ _ _ (by simpa using h)

theorem below_setc {n₀ : Nat} {A W : World} (h : Below n₀ A W) {b : Nat} (hb : n₀ ≤ b) (j : Nat) (v : Value) : Below n₀ A (W.setCell ⟨b, j, none⟩ v) := h.setCell (p := ⟨b, j, none⟩) hb v
/-- What the loop of measure keeps. -/
structure MI (v : Vl) (w WL : World) (pre : List (El v)) (W : World) : Prop where
  cnt : W.heap[w.heap.size + 1 + 1 + 1]? = some (.cells #[.int .i64 (pre.length : Int)] 3 (0, 0))
  r1 : W.heap[w.heap.size + 1]? = some (.cells #[.int .i64 0] 3 (0, 0))
  r2 : W.heap[w.heap.size + 1 + 1]? = some (.cells #[.bool false] 4 (0, 0))
  below : Below w.heap.size w W
  ok : (∀ x ∈ pre, x.1.1 ≤ 64) ∧ pre.length ≤ 65536
structure MX (v : Vl) (w : World) (W : World) : Prop where
  r1 : W.heap[w.heap.size + 1]? = some (.cells #[.int .i64 0] 3 (0, 0))
  r2 : W.heap[w.heap.size + 1 + 1]? = some (.cells #[.bool false] 4 (0, 0))
  below : Below w.heap.size w W
  no : ¬ okM v
set_option maxRecDepth 100000 in
set_option maxHeartbeats 4000000 in
theorem measure_any (S : Nat → Prop) : ∀ (v : Vl) (w : World), Rd S w v →
    Calls Tryd.prog 40 #[v.val] w fun e w' => e = .returned (.tuple #[.int .i64 (mgot (measR 64 65536 v.er)), .bool (!mbad (measR 64 65536 v.er))]) ∧ Below w.heap.size w w'
  | .mk k nn t a c l, w, h => by
    change Calls _ _ #[.agg #[.int .i64 k, .int .i64 nn, .string t, .slice a l.length c]] _ _
    have HA := Lib.hid (fun m W => all_in m W (.mk k nn t a c l))
    dsimp only [Vl.val, Vl.cells, Vl.kind, Vl.num, Vl.text, Vl.sl, Vl.addr, Vl.items, Vl.cap] at HA
    refine (callsIn_wide (n := 10)).1 ?_
    refine callsIn_of_wp_marks Tryd.func40 rfl trivial ?_ rfl
    simp only [Tryd.ntmps40, List.size_toArray, List.length_cons, List.length_nil, Nat.reduceAdd, Nat.reduceSub, Array.replicate_succ, Array.replicate_zero, List.push_toArray, List.append_toArray, List.nil_append, List.cons_append]
    gi_wp2_with (refine ⟨trivial, ?_⟩; gi_at_call 41; refine (HA.out _ _).mono ?_; rintro e w' ⟨rfl, rfl⟩)
    obtain ⟨WL, hWL⟩ : ∃ WL, WL = ((((w.alloc (.cells #[.int .i64 k, .int .i64 nn, .string t, .slice a l.length c] 24)).alloc (.cells #[.int .i64 0] 3)).alloc (.cells #[.bool false] 4)).alloc (.cells #[.int .i64 0] 3)).alloc (.cells #[.int .i64 k, .int .i64 nn, .string t, .slice a l.length c] 24) := ⟨_, rfl⟩
    have hsz : WL.heap.size = w.heap.size + 1 + 1 + 1 + 1 + 1 := by rw [hWL]; simp
    have hbL : Below w.heap.size w WL := by rw [hWL]; exact (((((Below.refl _ w).alloc (Nat.le_refl _) _).alloc (by simp) _).alloc (by simp; omega) _).alloc (by simp; omega) _).alloc (by simp; omega) _
    have hat : VAt WL (w.heap.size + 1 + 1 + 1 + 1) 0 (.mk k nn t a c l) := by
      rw [hWL]; refine ⟨?_, ?_, ?_, ?_⟩ <;> (rw [World.cell?_alloc_at _ _ _ _ (by simp)]; rfl)
    have h0 : MI (.mk k nn t a c l) w WL [] WL := by
      refine ⟨?_, ?_, ?_, hbL, by simp, by simp⟩
      · rw [hWL, Below.heap_alloc _ _ _ (by simp)]; have := World.alloc_heap_new (((w.alloc (.cells #[.int .i64 k, .int .i64 nn, .string t, .slice a l.length c] 24)).alloc (.cells #[.int .i64 0] 3)).alloc (.cells #[.bool false] 4)) (.cells #[.int .i64 0] 3); simpa using this
      · rw [hWL, Below.heap_alloc _ _ _ (by simp), Below.heap_alloc _ _ _ (by simp), Below.heap_alloc _ _ _ (by simp)]; have := World.alloc_heap_new (w.alloc (.cells #[.int .i64 k, .int .i64 nn, .string t, .slice a l.length c] 24)) (.cells #[.int .i64 0] 3); simpa using this
      · rw [hWL, Below.heap_alloc _ _ _ (by simp), Below.heap_alloc _ _ _ (by simp)]; have := World.alloc_heap_new ((w.alloc (.cells #[.int .i64 k, .int .i64 nn, .string t, .slice a l.length c] 24)).alloc (.cells #[.int .i64 0] 3)) (.cells #[.bool false] 4); simpa using this
    rw [← hWL]
    clear hWL
    have hrd : Rd (Out (· = w.heap.size + 1 + 1 + 1)) WL (.mk k nn t a c l) := (h.mono (S' := fun b => b < w.heap.size) (fun b _ hb => hb)).keep (.below hbL) |>.mono (fun b hb _ e => by have e : b = w.heap.size + 1 + 1 + 1 := e; have : b < w.heap.size := hb; omega)
    have HM := Lib.hid (measR_vis (.mk k nn t a c l))
    refine all_loop (n := 10) (by omega) (w.heap.size + 1 + 1 + 1 + 1) (.mk k nn t a c l) (· = w.heap.size + 1 + 1 + 1) rfl hat hrd (fun b hb => by have hb : b = w.heap.size + 1 + 1 + 1 := hb; omega) (fun e => by have e : w.heap.size + 1 + 1 + 1 + 1 = w.heap.size + 1 + 1 + 1 := e; omega)
      (MI (.mk k nn t a c l) w WL) (fun c' _ W => c' = .ret ∧ MX (.mk k nn t a c l) w W) ?hI ?hIx h0 (fun x a' _ => a' = { tmps := #[.agg #[.int .i64 k, .int .i64 nn, .string t, .slice a l.length c], .pointer (some ⟨w.heap.size, 0, none⟩), .pointer (some ⟨w.heap.size + 1, 0, none⟩), .pointer (some ⟨w.heap.size + 1 + 1, 0, none⟩), .pointer (some ⟨w.heap.size + 1 + 1 + 1, 0, none⟩), .int .i64 (x.1.1 : Int), .agg #[.int .i64 k, .int .i64 nn, .string t, .slice a l.length c], .func (.func 54) #[] #[.pointer (some ⟨w.heap.size + 1 + 1 + 1 + 1, 0, none⟩)], .int .i64 (x.1.1 : Int), x.1.2.val, undef, undef, undef, undef, undef, undef, undef, undef, undef], defers := [] }) ?hAx ?assign ?body ?done ?stop
    case hI =>
      rintro pre W W' row ⟨g1, g2, g3, g4, g5⟩ hg hr
      exact ⟨cells_own g1 hg hr, cells_own g2 hg hr, cells_own g3 hg hr, g4.grown hg g4.size (fun r e => by have := (hr r e).1; omega), g5⟩
    case hIx =>
      rintro c' pre W W' row ⟨g0, g2, g3, g4, g5⟩ hg hr
      exact ⟨g0, cells_own g2 hg hr, cells_own g3 hg hr, g4.grown hg g4.size (fun r e => by have := (hr r e).1; omega), g5⟩
    case hAx => intro x a' _ W W' row h _ _; exact h
    case assign =>
      intro l0 pre x W K hI hK
      gi_wp2
      exact hK _ W (KeepsFrom.refl _ _) (KeepS.refl _ _) hI rfl
    case body =>
      rintro l0 pre x a' W ⟨g1, g2, g3, g4, g5⟩ rfl hlt
      have c1 := cell_of_one g1
      have c2 := cell_of_one g2
      have c3 := cell_of_one g3
      have f1 : W.frozen? ⟨w.heap.size + 1 + 1 + 1, 0, none⟩ = false := by simp [World.frozen?, g1]
      have f2 : W.frozen? ⟨w.heap.size + 1, 0, none⟩ = false := by simp [World.frozen?, g2]
      have f3 : W.frozen? ⟨w.heap.size + 1 + 1, 0, none⟩ = false := by simp [World.frozen?, g3]
      have hx := x.2
      have HX := Lib.hid hx
      have hle := g5.2
      have HG := Lib.hid (⟨g1, g2, g3, g4, g5⟩ : MI (.mk k nn t a c l) w WL pre W)
      have hnx : Hid (MI (.mk k nn t a c l) w WL (pre ++ [x]) (W.setCell ⟨w.heap.size + 1 + 1 + 1, 0, none⟩ (.int .i64 ((pre.length : Int) + 1))) ∨ ¬ (x.1.1 ≤ 64 ∧ pre.length + 1 ≤ 65536)) := by
        by_cases hc : x.1.1 ≤ 64 ∧ pre.length + 1 ≤ 65536
        · refine .inl ⟨?_, ?_, ?_, below_setc g4 (by omega) _ _, ?_, by rw [List.length_append]; exact hc.2⟩
          · rw [heap_setCell_self g1]; simp
          · rw [heap_setCell_other (by omega)]; exact g2
          · rw [heap_setCell_other (by omega)]; exact g3
          · intro y hy
            rcases List.mem_append.1 hy with hy | hy
            · exact g5.1 y hy
            · simp at hy; subst hy; exact hc.1
        · exact .inr hc
      have hxx : Hid (¬ (x.1.1 ≤ 64 ∧ pre.length + 1 ≤ 65536) → MX (.mk k nn t a c l) w (((W.setCell ⟨w.heap.size + 1 + 1 + 1, 0, none⟩ (.int .i64 ((pre.length : Int) + 1))).setCell ⟨w.heap.size + 1, 0, none⟩ (.int .i64 0)).setCell ⟨w.heap.size + 1 + 1, 0, none⟩ (.bool false))) := fun hno => by
        refine ⟨?_, ?_, below_setc (below_setc (below_setc g4 (by omega) _ _) (by omega) _ _) (by omega) _ _, fun hok => hno ⟨hok.1 _ hx, ?_⟩⟩
        · rw [heap_setCell_other (by omega), heap_setCell_self (by rw [heap_setCell_other (by omega)]; exact g2)]; simp
        · rw [heap_setCell_self (by rw [heap_setCell_other (by omega), heap_setCell_other (by omega)]; exact g3)]; simp
        · have := hok.2; rw [els_len] at hlt; omega
      have sw : IntKind.i64.wrap ((pre.length : Int) + 1) = (pre.length : Int) + 1 := IntWalk.i64_in _ (by omega)
      clear g1 g2 g3 g4 g5 hx
      generalize x.1.1 = dx at *
      by_cases hd : dx ≤ 64
      · by_cases hn : pre.length + 1 ≤ 65536
        · have hnx2 := Lib.hid (hnx.out.resolve_right (fun h => h ⟨hd, hn⟩))
          clear hnx hxx
          gi_wp2
          exact ⟨(KeepsOthers.setCell _ _ _).from _, KeepS.setCell (S := Out (· = w.heap.size + 1 + 1 + 1)) W (fun h => h rfl) _, hnx2.out⟩
        · have hxx2 := Lib.hid (hxx.out (fun h => hn h.2))
          clear hnx hxx
          gi_wp2
          exact ⟨(((KeepsOthers.setCell _ _ _).trans (KeepsOthers.setCell _ _ _)).trans (KeepsOthers.setCell _ _ _)).from _, rfl, hxx2.out⟩
      · have hxx2 := Lib.hid (hxx.out (fun h => hd h.1))
        clear hnx hxx
        gi_wp2
        exact ⟨(((KeepsOthers.setCell _ _ _).trans (KeepsOthers.setCell _ _ _)).trans (KeepsOthers.setCell _ _ _)).from _, rfl, hxx2.out⟩
    case done =>
      rintro D W hD ⟨g1, g2, g3, g4, g5⟩ hd
      have c1 := cell_of_one g1
      have c2 := cell_of_one g2
      have c3 := cell_of_one g3
      have f2 : W.frozen? ⟨w.heap.size + 1, 0, none⟩ = false := by simp [World.frozen?, g2]
      have f3 : W.frozen? ⟨w.heap.size + 1 + 1, 0, none⟩ = false := by simp [World.frozen?, g3]
      have hR : Hid (measR 64 65536 (Vl.mk k nn t a c l).er = some ((els (Vl.mk k nn t a c l)).length : Int)) := by
        show _ = _
        rw [els_len]
        exact HM.out.1 ⟨fun p hp => by
          obtain ⟨j, hj⟩ := List.mem_iff_getElem?.1 hp
          obtain ⟨x, hx, hx1⟩ := els_at hj
          rw [← hx1]; exact g5.1 x (List.mem_of_getElem? hx), by rw [← els_len]; exact g5.2⟩
      have HG1 := Lib.hid g1
      have HG2 := Lib.hid g2
      have HG3 := Lib.hid g3
      have HD := Lib.hid hd
      clear g1 g2 g3 g5 hd
      have hend : Hid (((W.setCell ⟨w.heap.size + 1, 0, none⟩ (.int .i64 ((els (Vl.mk k nn t a c l)).length : Int))).setCell ⟨w.heap.size + 1 + 1, 0, none⟩ (.bool true)).heap[w.heap.size + 1]? = some (.cells #[.int .i64 ((els (Vl.mk k nn t a c l)).length : Int)] 3 (0, 0)) ∧ ((W.setCell ⟨w.heap.size + 1, 0, none⟩ (.int .i64 ((els (Vl.mk k nn t a c l)).length : Int))).setCell ⟨w.heap.size + 1 + 1, 0, none⟩ (.bool true)).heap[w.heap.size + 1 + 1]? = some (.cells #[.bool true] 4 (0, 0)) ∧
          ((W.setCell ⟨w.heap.size + 1, 0, none⟩ (.int .i64 ((els (Vl.mk k nn t a c l)).length : Int))).setCell ⟨w.heap.size + 1 + 1, 0, none⟩ (.bool true)).heap[D]? = some (.deferred (some []))) := by
        refine ⟨?_, ?_, ?_⟩
        · rw [heap_setCell_other (by omega), heap_setCell_self HG2.out]; simp
        · rw [heap_setCell_self (by rw [heap_setCell_other (by omega)]; exact HG3.out)]; simp
        · rw [heap_setCell_other (by omega), heap_setCell_other (by omega)]; exact HD.out
      have hb5 := below_setc (below_setc g4 (b := w.heap.size + 1) (by omega) 0 (.int .i64 ((els (Vl.mk k nn t a c l)).length : Int))) (b := w.heap.size + 1 + 1) (by omega) 0 (.bool true)
      gi_wp2
      refine leaves_marks (hi := w.heap.size) (by simp) (Φ := fun W => W.heap[w.heap.size + 1]? = some (.cells #[.int .i64 ((els (Vl.mk k nn t a c l)).length : Int)] 3 (0, 0)) ∧ W.heap[w.heap.size + 1 + 1]? = some (.cells #[.bool true] 4 (0, 0)) ∧ Below w.heap.size w W) ?_ ?_ _ _ (Marks.one (by omega) hend.out.2.2) ⟨hend.out.1, hend.out.2.1, hb5⟩
      · rintro W D ⟨h1, h2, h3⟩ hD hd
        exact ⟨cells_putObj h1 hd rfl _, cells_putObj h2 hd rfl _, below_putObj h3 hD hd _⟩
      · rintro W ⟨h1, h2, h3⟩
        have e1 := cell_of_one h1
        have e2 := cell_of_one h2
        refine ⟨_, by simp [results, Tryd.results40, go_sem, e1, e2]; rfl, ?_, h3⟩
        rw [hR.out]; rfl
    case stop =>
      rintro D c' pre W hD _ ⟨rfl, g2, g3, g4, g5⟩ hd
      have hR : Hid (measR 64 65536 (Vl.mk k nn t a c l).er = none) := HM.out.2 g5
      gi_wp2
      refine leaves_marks (hi := w.heap.size) (by simp) (Φ := fun W => W.heap[w.heap.size + 1]? = some (.cells #[.int .i64 0] 3 (0, 0)) ∧ W.heap[w.heap.size + 1 + 1]? = some (.cells #[.bool false] 4 (0, 0)) ∧ Below w.heap.size w W) ?_ ?_ _ _ (Marks.one (by omega) hd) ⟨g2, g3, g4⟩
      · rintro W D ⟨h1, h2, h3⟩ hD hd
        exact ⟨cells_putObj h1 hd rfl _, cells_putObj h2 hd rfl _, below_putObj h3 hD hd _⟩
      · rintro W ⟨h1, h2, h3⟩
        have e1 := cell_of_one h1
        have e2 := cell_of_one h2
        refine ⟨_, by simp [results, Tryd.results40, go_sem, e1, e2]; rfl, ?_, h3⟩
        rw [hR.out]; rfl
end Go.Proofs.YtancjkaoocgeeaaDoor
