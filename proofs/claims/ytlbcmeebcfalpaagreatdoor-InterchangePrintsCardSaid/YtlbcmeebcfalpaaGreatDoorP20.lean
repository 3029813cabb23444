/- Joined: CLoop, CMsr, CSize. -/
import Derived.Test.YtlbcmeebcfalpaaGreatDoorP19
import Derived.Test.YtlbcmeebcfalpaaGreatDoorP17
import Derived.Test.YtlbcmeebcfalpaaGreatDoorP02
set_option linter.unusedVariables false
set_option linter.unusedSimpArgs false
set_option maxRecDepth 100000
set_option maxHeartbeats 16000000
namespace Go.Proofs.YtlbcmeebcfalpaaGreatDoor
open Go.RowKit Go.Shelf
attribute [local go_sem] Oper.semAt_some

theorem all_in (m : Nat) (w : World) : ∀ (v : Vl), CallsIn Fence.wide m Tryz.prog 150 #[v.val] w fun e w' => e = .returned (.func (.func 220) #[] #[.pointer (some ⟨w.heap.size, 0, none⟩)]) /\ w' = w.alloc (.cells v.cells 24)
  | .mk k nn t a c l => by
    refine callsIn_of_wp Tryz.func150 rfl trivial ?_ rfl
    simp only [Tryz.ntmps150, List.size_toArray, List.length_cons, List.length_nil, Nat.reduceAdd, Nat.reduceSub, Array.replicate_succ, Array.replicate_zero, List.push_toArray, List.append_toArray, List.nil_append, List.cons_append]
    dsimp only [Vl.val, Vl.cells, Vl.kind, Vl.num, Vl.text, Vl.sl, Vl.addr, Vl.items, Vl.cap]
    gi_wp2
    go_ret
    exact ⟨rfl, rfl⟩
/-- What is kept stays kept when an object that is no cells turns. -/
theorem KeepS.own {S : Nat -> Prop} {A W W' : World} {B : Nat} {row : Option Nat} (h : KeepS S A W) (hg : W.grownBy W' row) (hr : ∀ r, row = some r -> B <= r /\ ∃ o : Obj, W.heap[r]? = some o /\ o.isCells = false) : KeepS S A W' :=
  ⟨Nat.le_trans h.1 hg.size, fun b cs t fr hs hb => by
    have hb' := h.2 b cs t fr hs hb
    rw [hg.block b (Array.getElem?_eq_some_iff.1 hb').1 (fun e => by
      obtain ⟨_, o, ho, hc⟩ := hr b e.symm
      rw [hb'] at ho; cases ho; cases hc)]
    exact hb'⟩
theorem cells_own {W W' : World} {B b : Nat} {row : Option Nat} {cs : Array Value} {t : TypeId} {fr : Nat × Nat} (h : W.heap[b]? = some (.cells cs t fr)) (hg : W.grownBy W' row) (hr : ∀ r, row = some r -> B <= r /\ ∃ o : Obj, W.heap[r]? = some o /\ o.isCells = false) : W'.heap[b]? = some (.cells cs t fr) := by
  rw [hg.block b (Array.getElem?_eq_some_iff.1 h).1 (fun e => by
    obtain ⟨_, o, ho, hc⟩ := hr b e.symm
    rw [h] at ho; cases ho; cases hc)]
  exact h
theorem all_loop {n i1 i2 : Nat} {g0 : Operand} {assign body : Code} {Q : Exit -> Act -> World -> Prop} {act : Act} {WL : World} (hn : 3 <= n) (bv : Nat) (v : Vl) (G : Nat -> Prop)
    (hg0 : act.eval g0 = .func (.func 220) #[] #[.pointer (some ⟨bv, 0, none⟩)])
    (hv : VAt WL bv 0 v) (hr : Rd (Out G) WL v) (hG : ∀ b, G b -> b < WL.heap.size) (hbv : ¬ G bv)
    (I : List (El v) -> World -> Prop) (Ix : Code -> List (El v) -> World -> Prop) (hI : OwnFrom WL.heap.size I) (hIx : ∀ c, OwnFrom WL.heap.size (Ix c)) (h0 : I [] WL)
    (Ax : El v -> Act -> World -> Prop) (hAx : ∀ x a', OwnFrom WL.heap.size (fun (_ : Unit) W => Ax x a' W))
    (hassign : ∀ (l : Nat) (pre : List (El v)) (x : El v) (W : World) (K : Act -> World -> Prop), I pre W -> (∀ a' W', KeepsFrom WL.heap.size W W' -> KeepS (Out G) W W' -> I pre W' -> Ax x a' W' -> K a' W') ->
      assign.wpIn (Fence.wide.inRound l) (n - 1 - 1) Tryz.prog (Exit.then K (fun _ _ _ => False)) { tmps := (#[i1, i2].zip (elEnc v x)).foldl (fun t (p, v) => t.setIfInBounds p v) act.tmps, defers := [] } W)
    (hbody : ∀ (l : Nat) (pre : List (El v)) (x : El v) (a' : Act) (W : World), I pre W -> Ax x a' W -> pre.length < (els v).length -> body.wpIn (Fence.wide.inRound l) (n - 1 - 1) Tryz.prog (ownPostG WL.heap.size (KeepS (Out G)) I Ix (pre ++ [x]) W) a' W)
    (hdone : ∀ (D : Nat) (W : World), WL.heap.size <= D -> I (els v) W -> W.heap[D]? = some (.deferred (some [])) -> Q .normal { act with defers := { target := .collected D, args := #[] } :: act.defers } W)
    (hstop : ∀ (D : Nat) (c : Code) (pre : List (El v)) (W : World), WL.heap.size <= D -> pre <+: els v -> Ix c pre W -> W.heap[D]? = some (.deferred (some [])) -> c.wpIn Fence.wide n Tryz.prog Q { act with defers := { target := .collected D, args := #[] } :: act.defers } W) :
    (Code.rangeFunc g0 #[i1, i2] assign body).wpIn Fence.wide n Tryz.prog Q act WL :=
  wpIn_rangeFunc_ownH (α := El v) (n := n) (F := Fence.wide) rfl (by omega) hg0 trivial (enters_of Tryz.func220 (by kernel_rfl) rfl)
    (all_stops (n - 1) G bv WL v hv hr hG hbv) KeepS.trans
    (fun W _ _ o' _ h hc _ => KeepS.putObj W h hc o') (Below.refl _ _) (fun _ => rfl) I Ix hI hIx h0 Ax hAx hassign
    (fun l pre x a' W _ _ hp ha hlt => hbody l pre x a' W hp ha hlt) (fun D _ W hD he hp hd => hdone D W hD (he ▸ hp) hd) hstop
end Go.Proofs.YtlbcmeebcfalpaaGreatDoor
namespace Go.Proofs.YtlbcmeebcfalpaaGreatDoor
open Go.RowKit Go.Shelf
attribute [local go_sem] Oper.semAt_some
/-- The marks that loops over iterators have left. -/
def Marks (hi : Nat) : List Deferred -> World -> Prop
  | [], _ => True
  | d :: ds, W => ∃ D, d = { target := .collected D, args := #[] } /\ hi <= D /\ W.heap[D]? = some (.deferred (some [])) /\ (∀ e ∈ ds, e ≠ d) /\ Marks hi ds W
theorem Marks.one {hi D : Nat} {W : World} (h : hi <= D) (hd : W.heap[D]? = some (.deferred (some []))) : Marks hi [{ target := .collected D, args := #[] }] W := ⟨D, rfl, h, hd, by simp, trivial⟩
theorem Marks.put {hi D : Nat} {A : World} : ∀ {ds : List Deferred}, Marks hi ds A -> (∀ d' ∈ ds, d' ≠ { target := .collected D, args := #[] }) -> Marks hi ds (A.putObj D (.deferred none))
  | [], _, _ => trivial
  | _ :: ds, ⟨D', e, h1, h2, h3, h4⟩, hne => by
    refine ⟨D', e, h1, ?_, h3, Marks.put h4 (fun d hd => hne d (by simp [hd]))⟩
    have : D' ≠ D := fun e2 => hne _ (List.mem_cons_self) (by rw [e, e2])
    rw [World.putObj_heap_other this]; exact h2
/-- A function leaves over its marks. -/
theorem leaves_marks {F : Fence} {n hi : Nat} {P : Program} {fn : Func} {tmps : Array Value} {R : Ending -> World -> Prop} {u : FrameMode} (hu : u ≠ .run) {Φ : World -> Prop}
    (hΦ : ∀ (W : World) (D : Nat), Φ W -> hi <= D -> W.heap[D]? = some (.deferred (some [])) -> Φ (W.putObj D (.deferred none)))
    (hend : ∀ W, Φ W -> LeavesInM F n P fn tmps R [] u W) : ∀ (ds : List Deferred) (W : World), Marks hi ds W -> Φ W -> LeavesInM F n P fn tmps R ds u W
  | [], W, _, h => hend W h
  | _ :: ds, W, ⟨D, e, h1, h2, h3, h4⟩, h => by
    subst e
    exact ⟨hu, .inl ⟨D, _, rfl, run_takeDeferred h2, leaves_marks hu hΦ hend ds _ (h4.put (fun d hd => h3 d hd)) (hΦ W D h h1 h2)⟩⟩
theorem cells_putObj {W : World} {b D : Nat} {cs : Array Value} {t : TypeId} {fr : Nat × Nat} {o : Obj} (h : W.heap[b]? = some (.cells cs t fr)) (hd : W.heap[D]? = some o) (ho : o.isCells = false) (o' : Obj) : (W.putObj D o').heap[b]? = some (.cells cs t fr) := by
  have hne : b ≠ D := fun e => by subst e; rw [h] at hd; cases hd; cases ho
  rw [World.putObj_heap_other hne]; exact h
theorem below_putObj {n₀ : Nat} {A W : World} (h : Below n₀ A W) {D : Nat} (hD : n₀ <= D) {o : Obj} (hd : W.heap[D]? = some o) (o' : Obj) : Below n₀ A (W.putObj D o') :=
  h.trans ((Below.refl n₀ W).grown (grownBy_putObj' W D o') (by have := (Array.getElem?_eq_some_iff.1 hd).1; omega) (fun k e => by cases e; omega))
theorem heap_setCell_self {W : World} {b j : Nat} {cs : Array Value} {t : TypeId} {fr : Nat × Nat} (h : W.heap[b]? = some (.cells cs t fr)) (v : Value) : (W.setCell ⟨b, j, none⟩ v).heap[b]? = some (.cells (cs.setIfInBounds j v) t fr) := by
  simp [World.setCell, Array.getElem?_modify, h]
theorem heap_setCell_other {W : World} {b b' j : Nat} (h : b' ≠ b) (v : Value) : (W.setCell ⟨b, j, none⟩ v).heap[b']? = W.heap[b']? := Below.heap_setCell _ _ _ _ (by simpa using h)

theorem below_setc {n₀ : Nat} {A W : World} (h : Below n₀ A W) {b : Nat} (hb : n₀ <= b) (j : Nat) (v : Value) : Below n₀ A (W.setCell ⟨b, j, none⟩ v) := h.setCell (p := ⟨b, j, none⟩) hb v
/-- What the loop of measure keeps. -/
structure MI (v : Vl) (w WL : World) (pre : List (El v)) (W : World) : Prop where
  cnt : W.heap[w.heap.size + 1 + 1 + 1]? = some (.cells #[.int .i64 (pre.length : Int)] 3 (0, 0))
  r1 : W.heap[w.heap.size + 1]? = some (.cells #[.int .i64 0] 3 (0, 0))
  r2 : W.heap[w.heap.size + 1 + 1]? = some (.cells #[.bool false] 4 (0, 0))
  below : Below w.heap.size w W
  ok : (∀ x ∈ pre, x.1.1 <= 64) /\ pre.length <= 65536
structure MX (v : Vl) (w : World) (W : World) : Prop where
  r1 : W.heap[w.heap.size + 1]? = some (.cells #[.int .i64 0] 3 (0, 0))
  r2 : W.heap[w.heap.size + 1 + 1]? = some (.cells #[.bool false] 4 (0, 0))
  below : Below w.heap.size w W
  no : ¬ okM v
theorem measure_any (S : Nat -> Prop) : ∀ (v : Vl) (w : World), Rd S w v ->
    Calls Tryz.prog 149 #[v.val] w fun e w' => e = .returned (.tuple #[.int .i64 (mgot (measR 64 65536 v.er)), .bool (!mbad (measR 64 65536 v.er))]) /\ Below w.heap.size w w'
  | .mk k nn t a c l, w, h => by
    change Calls _ _ #[.agg #[.int .i64 k, .int .i64 nn, .string t, .slice a l.length c]] _ _
    have HA := hiq (fun m W => all_in m W (.mk k nn t a c l))
    dsimp only [Vl.val, Vl.cells, Vl.kind, Vl.num, Vl.text, Vl.sl, Vl.addr, Vl.items, Vl.cap] at HA
    refine (callsIn_wide (n := 10)).1 ?_
    refine callsIn_of_wp_marks Tryz.func149 rfl trivial ?_ rfl
    simp only [Tryz.ntmps149, List.size_toArray, List.length_cons, List.length_nil, Nat.reduceAdd, Nat.reduceSub, Array.replicate_succ, Array.replicate_zero, List.push_toArray, List.append_toArray, List.nil_append, List.cons_append]
    gi_wp2_with (refine ⟨trivial, ?_⟩; gi_at_call 150; refine (HA.out _ _).mono ?_; rintro e w' ⟨rfl, rfl⟩)
    obtain ⟨WL, hWL⟩ : ∃ WL, WL = ((((w.alloc (.cells #[.int .i64 k, .int .i64 nn, .string t, .slice a l.length c] 24)).alloc (.cells #[.int .i64 0] 3)).alloc (.cells #[.bool false] 4)).alloc (.cells #[.int .i64 0] 3)).alloc (.cells #[.int .i64 k, .int .i64 nn, .string t, .slice a l.length c] 24) := ⟨_, rfl⟩
    have hsz : WL.heap.size = w.heap.size + 1 + 1 + 1 + 1 + 1 := by rw [hWL]; simp
    have hbL : Below w.heap.size w WL := by rw [hWL]; exact (((((Below.refl _ w).alloc (Nat.le_refl _) _).alloc (by simp) _).alloc (by simp; omega) _).alloc (by simp; omega) _).alloc (by simp; omega) _
    have hat : VAt WL (w.heap.size + 1 + 1 + 1 + 1) 0 (.mk k nn t a c l) := by
      rw [hWL]; refine ⟨?_, ?_, ?_, ?_⟩ <;> (rw [World.cell?_alloc_at _ _ _ _ (by simp)]; rfl)
    have h0 : MI (.mk k nn t a c l) w WL [] WL := by
      refine ⟨?_, ?_, ?_, hbL, by simp, by simp⟩
      · rw [hWL, Below.heap_alloc _ _ _ (by simp)]; have := World.alloc_heap_new (((w.alloc (.cells #[.int .i64 k, .int .i64 nn, .string t, .slice a l.length c] 24)).alloc (.cells #[.int .i64 0] 3)).alloc (.cells #[.bool false] 4)) (.cells #[.int .i64 0] 3); simpa using this
      · rw [hWL, Below.heap_alloc _ _ _ (by simp), Below.heap_alloc _ _ _ (by simp), Below.heap_alloc _ _ _ (by simp)]; have := World.alloc_heap_new (w.alloc (.cells #[.int .i64 k, .int .i64 nn, .string t, .slice a l.length c] 24)) (.cells #[.int .i64 0] 3); simpa using this
      · rw [hWL, Below.heap_alloc _ _ _ (by simp), Below.heap_alloc _ _ _ (by simp)]; have := World.alloc_heap_new ((w.alloc (.cells #[.int .i64 k, .int .i64 nn, .string t, .slice a l.length c] 24)).alloc (.cells #[.int .i64 0] 3)) (.cells #[.bool false] 4); simpa using this
    rw [<- hWL]
    clear hWL
    have hrd : Rd (Out (· = w.heap.size + 1 + 1 + 1)) WL (.mk k nn t a c l) := (h.mono (S' := fun b => b < w.heap.size) (fun b _ hb => hb)).keep (.below hbL) |>.mono (fun b hb _ e => by have e : b = w.heap.size + 1 + 1 + 1 := e; have : b < w.heap.size := hb; omega)
    have HM := hiq (measR_vis (.mk k nn t a c l))
    refine all_loop (n := 10) (by omega) (w.heap.size + 1 + 1 + 1 + 1) (.mk k nn t a c l) (· = w.heap.size + 1 + 1 + 1) rfl hat hrd (fun b hb => by have hb : b = w.heap.size + 1 + 1 + 1 := hb; omega) (fun e => by have e : w.heap.size + 1 + 1 + 1 + 1 = w.heap.size + 1 + 1 + 1 := e; omega)
      (MI (.mk k nn t a c l) w WL) (fun c' _ W => c' = .ret /\ MX (.mk k nn t a c l) w W) ?hI ?hIx h0 (fun x a' _ => a' = { tmps := #[.agg #[.int .i64 k, .int .i64 nn, .string t, .slice a l.length c], .pointer (some ⟨w.heap.size, 0, none⟩), .pointer (some ⟨w.heap.size + 1, 0, none⟩), .pointer (some ⟨w.heap.size + 1 + 1, 0, none⟩), .pointer (some ⟨w.heap.size + 1 + 1 + 1, 0, none⟩), .int .i64 (x.1.1 : Int), .agg #[.int .i64 k, .int .i64 nn, .string t, .slice a l.length c], .func (.func 220) #[] #[.pointer (some ⟨w.heap.size + 1 + 1 + 1 + 1, 0, none⟩)], .int .i64 (x.1.1 : Int), x.1.2.val, undef, undef, undef, undef, undef, undef, undef, undef, undef], defers := [] }) ?hAx ?assign ?body ?done ?stop
    case hI =>
      rintro pre W W' row ⟨g1, g2, g3, g4, g5⟩ hg hr
      exact ⟨cells_own g1 hg hr, cells_own g2 hg hr, cells_own g3 hg hr, g4.grown hg g4.size (fun r e => by have := (hr r e).1; omega), g5⟩
    case hIx =>
      rintro c' pre W W' row ⟨g0, g2, g3, g4, g5⟩ hg hr
      exact ⟨g0, cells_own g2 hg hr, cells_own g3 hg hr, g4.grown hg g4.size (fun r e => by have := (hr r e).1; omega), g5⟩
    case hAx => intro x a' _ W W' row h _ _; exact h
    case assign =>
      intro l0 pre x W K hI hK
      gi_wp2
      exact hK _ W (KeepsFrom.refl _ _) (KeepS.refl _ _) hI rfl
    case body =>
      rintro l0 pre x a' W ⟨g1, g2, g3, g4, g5⟩ rfl hlt
      have c1 := cell_of_one g1
      have c2 := cell_of_one g2
      have c3 := cell_of_one g3
      have f1 : W.frozen? ⟨w.heap.size + 1 + 1 + 1, 0, none⟩ = false := by simp [World.frozen?, g1]
      have f2 : W.frozen? ⟨w.heap.size + 1, 0, none⟩ = false := by simp [World.frozen?, g2]
      have f3 : W.frozen? ⟨w.heap.size + 1 + 1, 0, none⟩ = false := by simp [World.frozen?, g3]
      have hx := x.2
      have HX := hiq hx
      have hle := g5.2
      have HG := hiq (⟨g1, g2, g3, g4, g5⟩ : MI (.mk k nn t a c l) w WL pre W)
      have hnx : Hid (MI (.mk k nn t a c l) w WL (pre ++ [x]) (W.setCell ⟨w.heap.size + 1 + 1 + 1, 0, none⟩ (.int .i64 ((pre.length : Int) + 1))) \/ ¬ (x.1.1 <= 64 /\ pre.length + 1 <= 65536)) := by
        by_cases hc : x.1.1 <= 64 /\ pre.length + 1 <= 65536
        · refine .inl ⟨?_, ?_, ?_, below_setc g4 (by omega) _ _, ?_, by rw [List.length_append]; exact hc.2⟩
          · rw [heap_setCell_self g1]; simp
          · rw [heap_setCell_other (by omega)]; exact g2
          · rw [heap_setCell_other (by omega)]; exact g3
          · intro y hy
            rcases List.mem_append.1 hy with hy | hy
            · exact g5.1 y hy
            · simp at hy; subst hy; exact hc.1
        · exact .inr hc
      have hxx : Hid (¬ (x.1.1 <= 64 /\ pre.length + 1 <= 65536) -> MX (.mk k nn t a c l) w (((W.setCell ⟨w.heap.size + 1 + 1 + 1, 0, none⟩ (.int .i64 ((pre.length : Int) + 1))).setCell ⟨w.heap.size + 1, 0, none⟩ (.int .i64 0)).setCell ⟨w.heap.size + 1 + 1, 0, none⟩ (.bool false))) := fun hno => by
        refine ⟨?_, ?_, below_setc (below_setc (below_setc g4 (by omega) _ _) (by omega) _ _) (by omega) _ _, fun hok => hno ⟨hok.1 _ hx, ?_⟩⟩
        · rw [heap_setCell_other (by omega), heap_setCell_self (by rw [heap_setCell_other (by omega)]; exact g2)]; simp
        · rw [heap_setCell_self (by rw [heap_setCell_other (by omega), heap_setCell_other (by omega)]; exact g3)]; simp
        · have := hok.2; rw [els_len] at hlt; omega
      have sw : IntKind.i64.wrap ((pre.length : Int) + 1) = (pre.length : Int) + 1 := IntWalk.i64_in _ (by omega)
      clear g1 g2 g3 g4 g5 hx
      generalize x.1.1 = dx at *
      by_cases hd : dx <= 64
      · by_cases hn : pre.length + 1 <= 65536
        · have hnx2 := hiq (hnx.out.resolve_right (fun h => h ⟨hd, hn⟩))
          clear hnx hxx
          gi_wp2
          exact ⟨(KeepsOthers.setCell _ _ _).from _, KeepS.setCell (S := Out (· = w.heap.size + 1 + 1 + 1)) W (fun h => h rfl) _, hnx2.out⟩
        · have hxx2 := hiq (hxx.out (fun h => hn h.2))
          clear hnx hxx
          gi_wp2
          exact ⟨(((KeepsOthers.setCell _ _ _).trans (KeepsOthers.setCell _ _ _)).trans (KeepsOthers.setCell _ _ _)).from _, rfl, hxx2.out⟩
      · have hxx2 := hiq (hxx.out (fun h => hd h.1))
        clear hnx hxx
        gi_wp2
        exact ⟨(((KeepsOthers.setCell _ _ _).trans (KeepsOthers.setCell _ _ _)).trans (KeepsOthers.setCell _ _ _)).from _, rfl, hxx2.out⟩
    case done =>
      rintro D W hD ⟨g1, g2, g3, g4, g5⟩ hd
      have c1 := cell_of_one g1
      have c2 := cell_of_one g2
      have c3 := cell_of_one g3
      have f2 : W.frozen? ⟨w.heap.size + 1, 0, none⟩ = false := by simp [World.frozen?, g2]
      have f3 : W.frozen? ⟨w.heap.size + 1 + 1, 0, none⟩ = false := by simp [World.frozen?, g3]
      have hR : Hid (measR 64 65536 (Vl.mk k nn t a c l).er = some ((els (Vl.mk k nn t a c l)).length : Int)) := by
        show _ = _
        rw [els_len]
        exact HM.out.1 ⟨fun p hp => by
          obtain ⟨j, hj⟩ := List.mem_iff_getElem?.1 hp
          obtain ⟨x, hx, hx1⟩ := els_at hj
          rw [<- hx1]; exact g5.1 x (List.mem_of_getElem? hx), by rw [<- els_len]; exact g5.2⟩
      have HG1 := hiq g1
      have HG2 := hiq g2
      have HG3 := hiq g3
      have HD := hiq hd
      clear g1 g2 g3 g5 hd
      have hend : Hid (((W.setCell ⟨w.heap.size + 1, 0, none⟩ (.int .i64 ((els (Vl.mk k nn t a c l)).length : Int))).setCell ⟨w.heap.size + 1 + 1, 0, none⟩ (.bool true)).heap[w.heap.size + 1]? = some (.cells #[.int .i64 ((els (Vl.mk k nn t a c l)).length : Int)] 3 (0, 0)) /\ ((W.setCell ⟨w.heap.size + 1, 0, none⟩ (.int .i64 ((els (Vl.mk k nn t a c l)).length : Int))).setCell ⟨w.heap.size + 1 + 1, 0, none⟩ (.bool true)).heap[w.heap.size + 1 + 1]? = some (.cells #[.bool true] 4 (0, 0)) /\
          ((W.setCell ⟨w.heap.size + 1, 0, none⟩ (.int .i64 ((els (Vl.mk k nn t a c l)).length : Int))).setCell ⟨w.heap.size + 1 + 1, 0, none⟩ (.bool true)).heap[D]? = some (.deferred (some []))) := by
        refine ⟨?_, ?_, ?_⟩
        · rw [heap_setCell_other (by omega), heap_setCell_self HG2.out]; simp
        · rw [heap_setCell_self (by rw [heap_setCell_other (by omega)]; exact HG3.out)]; simp
        · rw [heap_setCell_other (by omega), heap_setCell_other (by omega)]; exact HD.out
      have hb5 := below_setc (below_setc g4 (b := w.heap.size + 1) (by omega) 0 (.int .i64 ((els (Vl.mk k nn t a c l)).length : Int))) (b := w.heap.size + 1 + 1) (by omega) 0 (.bool true)
      gi_wp2
      refine leaves_marks (hi := w.heap.size) (by simp) (Φ := fun W => W.heap[w.heap.size + 1]? = some (.cells #[.int .i64 ((els (Vl.mk k nn t a c l)).length : Int)] 3 (0, 0)) /\ W.heap[w.heap.size + 1 + 1]? = some (.cells #[.bool true] 4 (0, 0)) /\ Below w.heap.size w W) ?_ ?_ _ _ (Marks.one (by omega) hend.out.2.2) ⟨hend.out.1, hend.out.2.1, hb5⟩
      · rintro W D ⟨h1, h2, h3⟩ hD hd
        exact ⟨cells_putObj h1 hd rfl _, cells_putObj h2 hd rfl _, below_putObj h3 hD hd _⟩
      · rintro W ⟨h1, h2, h3⟩
        have e1 := cell_of_one h1
        have e2 := cell_of_one h2
        refine ⟨_, by simp [results, Tryz.results149, go_sem, e1, e2]; rfl, ?_, h3⟩
        rw [hR.out]; rfl
    case stop =>
      rintro D c' pre W hD _ ⟨rfl, g2, g3, g4, g5⟩ hd
      have hR : Hid (measR 64 65536 (Vl.mk k nn t a c l).er = none) := HM.out.2 g5
      gi_wp2
      refine leaves_marks (hi := w.heap.size) (by simp) (Φ := fun W => W.heap[w.heap.size + 1]? = some (.cells #[.int .i64 0] 3 (0, 0)) /\ W.heap[w.heap.size + 1 + 1]? = some (.cells #[.bool false] 4 (0, 0)) /\ Below w.heap.size w W) ?_ ?_ _ _ (Marks.one (by omega) hd) ⟨g2, g3, g4⟩
      · rintro W D ⟨h1, h2, h3⟩ hD hd
        exact ⟨cells_putObj h1 hd rfl _, cells_putObj h2 hd rfl _, below_putObj h3 hD hd _⟩
      · rintro W ⟨h1, h2, h3⟩
        have e1 := cell_of_one h1
        have e2 := cell_of_one h2
        refine ⟨_, by simp [results, Tryz.results149, go_sem, e1, e2]; rfl, ?_, h3⟩
        rw [hR.out]; rfl
end Go.Proofs.YtlbcmeebcfalpaaGreatDoor
namespace Go.Proofs.YtlbcmeebcfalpaaGreatDoor
open Go.RowKit Go.Shelf
attribute [local go_sem] Oper.semAt_some

theorem keepsFrom_below {B : Nat} {W W' : World} (h : Below W.heap.size W W') : KeepsFrom B W W' := ⟨h.size, fun k o _ hk _ => by rw [h.block k (Array.getElem?_eq_some_iff.1 hk).1]; exact hk⟩
def fV (v : Vl) (pre : List (El v)) : Int := firstV (pre.map fun x => x.1)
theorem fV_snoc (v : Vl) (pre : List (El v)) (x : El v) : fV v (pre ++ [x]) = if fV v pre ≠ 0 then fV v pre else singV x.1.2.er := by
  rw [fV, List.map_append, firstV_append]
  have : firstV ([x].map fun x => x.1) = singV x.1.2.er := by
    show (if singV x.1.2.er ≠ 0 then singV x.1.2.er else 0) = _
    split
    · rfl
    · rename_i h; exact (Decidable.not_not.1 h).symm
  rw [this]; rfl
theorem fV_all (v : Vl) : fV v (els v) = firstV (vis v) := by rw [fV, els, List.attach_map_subtype_val]
theorem fV_stop {v : Vl} {pre : List (El v)} (h : pre <+: els v) (h0 : fV v pre ≠ 0) : firstV (vis v) = fV v pre := by
  obtain ⟨r, hr⟩ := h
  rw [<- fV_all, <- hr, fV, List.map_append, firstV_append]
  exact if_pos h0
/-- What the loop of Size keeps. -/
structure ZI (v : Vl) (w : World) (pre : List (El v)) (W : World) : Prop where
  r1 : W.heap[w.heap.size + 1]? = some (.cells #[.int .i64 0] 3 (0, 0))
  r2 : W.heap[w.heap.size + 1 + 1]? = some (.cells #[.int .i64 0] 41 (0, 0))
  below : Below w.heap.size w W
  ok : fV v pre = 0
structure ZX (v : Vl) (w : World) (pre : List (El v)) (W : World) : Prop where
  r1 : W.heap[w.heap.size + 1]? = some (.cells #[.int .i64 0] 3 (0, 0))
  r2 : W.heap[w.heap.size + 1 + 1]? = some (.cells #[.int .i64 (fV v pre)] 41 (0, 0))
  below : Below w.heap.size w W
  no : fV v pre ≠ 0
/-- Behind the assignment of a round. -/
def ZA (v : Vl) (tm : Nat -> El v -> Array Value) (hi : Nat) (x : El v) (a' : Act) (W : World) : Prop := ∃ Bx : Nat, hi <= Bx /\ W.heap[Bx]? = some (.cells x.1.2.cells 24 (0, 0)) /\ a' = { tmps := tm Bx x, defers := [] }
theorem vat_of_heap {W : World} {b : Nat} {v : Vl} (h : W.heap[b]? = some (.cells v.cells 24 (0, 0))) : VAt W b 0 v := by
  refine ⟨?_, ?_, ?_, ?_⟩ <;> (simp [World.cell?, h]; rfl)
theorem size_any (S : Nat -> Prop) : ∀ (v : Vl) (w : World), Rd S w v ->
    Calls Tryz.prog 54 #[v.val] w fun e w' => e = .returned (.tuple #[.int .i64 (sizV v.er), .int .i64 (chkV v.er)]) /\ Below w.heap.size w w'
  | .mk k nn t a c l, w, h => by
    change Calls _ _ #[.agg #[.int .i64 k, .int .i64 nn, .string t, .slice a l.length c]] _ _
    have HA := hiq (fun m W => all_in m W (.mk k nn t a c l))
    have hbW : Below w.heap.size w (((w.alloc (.cells #[.int .i64 k, .int .i64 nn, .string t, .slice a l.length c] 24)).alloc (.cells #[.int .i64 0] 3)).alloc (.cells #[.int .i64 0] 41)) := (((Below.refl _ w).alloc (Nat.le_refl _) _).alloc (by simp) _).alloc (by simp; omega) _
    have HM := hiq (measure_any S (.mk k nn t a c l) (((w.alloc (.cells #[.int .i64 k, .int .i64 nn, .string t, .slice a l.length c] 24)).alloc (.cells #[.int .i64 0] 3)).alloc (.cells #[.int .i64 0] 41)) (h.below hbW))
    have q0 : VAt (((w.alloc (.cells #[.int .i64 k, .int .i64 nn, .string t, .slice a l.length c] 24)).alloc (.cells #[.int .i64 0] 3)).alloc (.cells #[.int .i64 0] 41)) w.heap.size 0 (.mk k nn t a c l) := (((boxed S w _ h).at_.later ((Below.refl _ _).alloc (Nat.le_refl _) (.cells #[.int .i64 0] 3))).later ((Below.refl _ _).alloc (Nat.le_refl _) (.cells #[.int .i64 0] 41)))
    have q1 : (((w.alloc (.cells #[.int .i64 k, .int .i64 nn, .string t, .slice a l.length c] 24)).alloc (.cells #[.int .i64 0] 3)).alloc (.cells #[.int .i64 0] 41)).heap[w.heap.size + 1]? = some (.cells #[.int .i64 0] 3 (0, 0)) := by
      rw [Below.heap_alloc _ _ _ (by simp)]; have := World.alloc_heap_new (w.alloc (.cells #[.int .i64 k, .int .i64 nn, .string t, .slice a l.length c] 24)) (.cells #[.int .i64 0] 3); simpa using this
    have q2 : (((w.alloc (.cells #[.int .i64 k, .int .i64 nn, .string t, .slice a l.length c] 24)).alloc (.cells #[.int .i64 0] 3)).alloc (.cells #[.int .i64 0] 41)).heap[w.heap.size + 1 + 1]? = some (.cells #[.int .i64 0] 41 (0, 0)) := by
      have := World.alloc_heap_new ((w.alloc (.cells #[.int .i64 k, .int .i64 nn, .string t, .slice a l.length c] 24)).alloc (.cells #[.int .i64 0] 3)) (.cells #[.int .i64 0] 41); simpa using this
    have q3 : w.heap.size + 1 + 1 < (((w.alloc (.cells #[.int .i64 k, .int .i64 nn, .string t, .slice a l.length c] 24)).alloc (.cells #[.int .i64 0] 3)).alloc (.cells #[.int .i64 0] 41)).heap.size := by simp
    have HV := hiq (measR_vis (.mk k nn t a c l))
    have HC : Hid (chkV (Vl.mk k nn t a c l).er = if measR 64 65536 (Vl.mk k nn t a c l).er = none then 4 else allV (Vl.mk k nn t a c l).er) := rfl
    have HZ : Hid (sizV (Vl.mk k nn t a c l).er = if chkV (Vl.mk k nn t a c l).er = 0 then (measR 64 65536 (Vl.mk k nn t a c l).er).getD 0 else 0) := rfl
    have HF : Hid (okM (Vl.mk k nn t a c l) -> firstV (vis (Vl.mk k nn t a c l)) = allV (Vl.mk k nn t a c l).er) := firstV_ok
    dsimp only [Vl.val, Vl.cells, Vl.kind, Vl.num, Vl.text, Vl.sl, Vl.addr, Vl.items, Vl.cap] at HA HM
    refine (callsIn_wide (n := 10)).1 ?_
    refine callsIn_of_wp_marks Tryz.func54 rfl trivial ?_ rfl
    simp only [Tryz.ntmps54, List.size_toArray, List.length_cons, List.length_nil, Nat.reduceAdd, Nat.reduceSub, Array.replicate_succ, Array.replicate_zero, List.push_toArray, List.append_toArray, List.nil_append, List.cons_append]
    gi_wp2_with (fail)
    refine ⟨trivial, ?_⟩
    refine (callsIn_wide.2 HM.out).mono ?_
    rintro e w1 ⟨rfl, hb1⟩
    generalize ((w.alloc (.cells #[.int .i64 k, .int .i64 nn, .string t, .slice a l.length c] 24)).alloc (.cells #[.int .i64 0] 3)).alloc (.cells #[.int .i64 0] 41) = W0 at *
    have hb01 := hbW.trans (hb1.mono hbW.size)
    have r1 : w1.heap[w.heap.size + 1]? = some (.cells #[.int .i64 0] 3 (0, 0)) := by rw [hb1.block _ (by omega)]; exact q1
    have r2 : w1.heap[w.heap.size + 1 + 1]? = some (.cells #[.int .i64 0] 41 (0, 0)) := by rw [hb1.block _ (by omega)]; exact q2
    have hsz1 : w.heap.size + 1 + 1 < w1.heap.size := by have := hb1.size; omega
    obtain ⟨x1, x2, x3, x4⟩ := q0.later hb1
    dsimp only [Vl.val, Vl.cells, Vl.kind, Vl.num, Vl.text, Vl.sl, Vl.addr, Vl.items, Vl.cap] at x1 x2 x3 x4
    rw [Nat.zero_add] at x2 x3 x4
    clear HM q0 q1 q2 q3 hb1 hbW W0
    have c1 := cell_of_one r1
    have c2 := cell_of_one r2
    have f1 : w1.frozen? ⟨w.heap.size + 1, 0, none⟩ = false := by simp [World.frozen?, r1]
    have f2 : w1.frozen? ⟨w.heap.size + 1 + 1, 0, none⟩ = false := by simp [World.frozen?, r2]
    have R1 := hiq r1
    have R2 := hiq r2
    clear r1 r2
    by_cases hok : okM (.mk k nn t a c l)
    · have hmr := HV.out.1 hok
      have HN := hiq hmr
      rw [hmr]
      have hF := hiq (HF.out hok)
      clear hmr HV HF hok
      have hb : (!mbad (some ((vis (Vl.mk k nn t a c l)).length : Int))) = true := rfl
      have hg : mgot (some ((vis (Vl.mk k nn t a c l)).length : Int)) = ((vis (Vl.mk k nn t a c l)).length : Int) := rfl
      rw [hb, hg]
      generalize hL : (vis (Vl.mk k nn t a c l)).length = L at *
      clear hb hg hL
      gi_wp2_with (fail)
      refine ⟨trivial, ?_⟩
      refine (HA.out _ _).mono ?_
      rintro e w' ⟨rfl, rfl⟩
      gi_wp2
      have hbA : Below w1.heap.size w1 (w1.alloc (.cells #[.int .i64 k, .int .i64 nn, .string t, .slice a l.length c] 24)) := (Below.refl _ _).alloc (Nat.le_refl _) _
      have hbL := hb01.trans (hbA.mono hb01.size)
      have hat : VAt (w1.alloc (.cells #[.int .i64 k, .int .i64 nn, .string t, .slice a l.length c] 24)) w1.heap.size 0 (.mk k nn t a c l) := by
        refine ⟨?_, ?_, ?_, ?_⟩ <;> (rw [World.cell?_alloc_at _ _ _ _ rfl]; rfl)
      have h0 : ZI (.mk k nn t a c l) w [] (w1.alloc (.cells #[.int .i64 k, .int .i64 nn, .string t, .slice a l.length c] 24)) := ⟨by rw [Below.heap_alloc _ _ _ (by omega)]; exact R1.out, by rw [Below.heap_alloc _ _ _ (by omega)]; exact R2.out, hbL, rfl⟩
      have hrd : Rd (Out (fun _ => False)) (w1.alloc (.cells #[.int .i64 k, .int .i64 nn, .string t, .slice a l.length c] 24)) (.mk k nn t a c l) := (h.below hbL).mono (fun b _ _ hf => hf)
      have hszL : w1.heap.size < (w1.alloc (.cells #[.int .i64 k, .int .i64 nn, .string t, .slice a l.length c] 24)).heap.size := by simp
      generalize w1.alloc (.cells #[.int .i64 k, .int .i64 nn, .string t, .slice a l.length c] 24) = WL at *
      refine all_loop (n := 10) (by omega) w1.heap.size (.mk k nn t a c l) (fun _ => False) rfl hat hrd (fun b hb => hb.elim) (fun e => e)
        (fun pre W => ZI (.mk k nn t a c l) w pre W /\ KeepS (Out (fun _ => False)) WL W) (fun c' pre W => c' = .ret /\ ZX (.mk k nn t a c l) w pre W) ?hI ?hIx ⟨h0, KeepS.refl _ _⟩ (ZA (.mk k nn t a c l) (fun Bx x => #[.agg #[.int .i64 k, .int .i64 nn, .string t, .slice a l.length c], .pointer (some ⟨w.heap.size, 0, none⟩), .pointer (some ⟨w.heap.size + 1, 0, none⟩), .pointer (some ⟨w.heap.size + 1 + 1, 0, none⟩), .int .i64 (L : Int), .bool true, undef, .pointer (some ⟨Bx, 0, none⟩), undef, .tuple #[.int .i64 (L : Int), .bool true], .agg #[.int .i64 k, .int .i64 nn, .string t, .slice a l.length c], .tuple #[.int .i64 (L : Int), .bool true], .int .i64 (L : Int), .bool true, .bool true, .bool false, .agg #[.int .i64 k, .int .i64 nn, .string t, .slice a l.length c], .func (.func 220) #[] #[.pointer (some ⟨w1.heap.size, 0, none⟩)], .int .i64 (x.1.1 : Int), x.1.2.val, undef, undef, undef, undef, undef, undef]) WL.heap.size) ?hAx ?assign ?body ?done ?stop
      case hI =>
        rintro pre W W' row ⟨⟨g2, g3, g4, g5⟩, gk⟩ hg hr
        exact ⟨⟨cells_own g2 hg hr, cells_own g3 hg hr, g4.grown hg g4.size (fun r e => by have := (hr r e).1; omega), g5⟩, gk.own hg hr⟩
      case hIx =>
        rintro c' pre W W' row ⟨g0, g2, g3, g4, g5⟩ hg hr
        exact ⟨g0, cells_own g2 hg hr, cells_own g3 hg hr, g4.grown hg g4.size (fun r e => by have := (hr r e).1; omega), g5⟩
      case hAx =>
        rintro x a' _ W W' row ⟨Bx, h1, h2, h3⟩ hg hr
        exact ⟨Bx, h1, cells_own h2 hg hr, h3⟩
      case assign =>
        rintro l0 pre x W K ⟨⟨g2, g3, g4, g5⟩, gk⟩ hK
        have hb : Below W.heap.size W (W.alloc (.cells x.1.2.cells 24)) := (Below.refl _ _).alloc (Nat.le_refl _) _
        have hKx := hK _ _ (keepsFrom_below hb) (.below hb) ⟨⟨by rw [hb.block _ (Array.getElem?_eq_some_iff.1 g2).1]; exact g2, by rw [hb.block _ (Array.getElem?_eq_some_iff.1 g3).1]; exact g3, g4.trans (hb.mono g4.size), g5⟩, gk.trans (.below hb)⟩ ⟨W.heap.size, gk.1, World.alloc_heap_new _ _, rfl⟩
        obtain ⟨⟨dx, uk, un, ut, ua, uc, ul⟩, hx⟩ := x
        dsimp only [elEnc, Vl.val, Vl.cells, Vl.kind, Vl.num, Vl.text, Vl.sl, Vl.addr, Vl.items, Vl.cap] at hKx ⊢
        gi_wp2
        exact hKx
      case body =>
        rintro l0 pre x a' W ⟨hZ, gk⟩ ⟨Bx, hBx, hbx, rfl⟩ hlt
        have HZI := hiq hZ
        obtain ⟨g2, g3, g4, g5⟩ := hZ
        have c1 := cell_of_one g2
        have c2 := cell_of_one g3
        have hru : Rd (Out (fun _ => False)) W x.1.2 := (visits_rd 64 1 _ hrd x.1 x.2).keep gk
        have HO := hiq (own_any _ x.1.2 W hru)
        have HSN := hiq (fV_snoc _ pre x)
        obtain ⟨d1, d2, d3, d4⟩ := vat_of_heap hbx
        have hn1 : W.heap.size > w.heap.size + 1 + 1 := (Array.getElem?_eq_some_iff.1 g3).1
        have hst : Hid (∀ W3, Below W.heap.size W W3 -> singV x.1.2.er ≠ 0 -> ZX (.mk k nn t a c l) w (pre ++ [x]) ((W3.setCell ⟨w.heap.size + 1, 0, none⟩ (.int .i64 0)).setCell ⟨w.heap.size + 1 + 1, 0, none⟩ (.int .i64 (singV x.1.2.er)))) := fun W3 hb hne => by
          have k2 : W3.heap[w.heap.size + 1]? = some (.cells #[.int .i64 0] 3 (0, 0)) := by rw [hb.block _ (by omega)]; exact g2
          have k3 : W3.heap[w.heap.size + 1 + 1]? = some (.cells #[.int .i64 0] 41 (0, 0)) := by rw [hb.block _ (by omega)]; exact g3
          have hf : fV (.mk k nn t a c l) (pre ++ [x]) = singV x.1.2.er := by rw [fV_snoc, g5, if_neg (by simp)]
          refine ⟨?_, ?_, below_setc (below_setc (g4.trans (hb.mono g4.size)) (by omega) _ _) (by omega) _ _, by rw [hf]; exact hne⟩
          · rw [heap_setCell_other (by omega), heap_setCell_self k2]; simp
          · rw [heap_setCell_self (by rw [heap_setCell_other (by omega)]; exact k3), hf]; simp
        have hgo : Hid (∀ W3, Below W.heap.size W W3 -> singV x.1.2.er = 0 -> ZI (.mk k nn t a c l) w (pre ++ [x]) W3) := fun W3 hb h0 =>
          ⟨by rw [hb.block _ (by omega)]; exact g2, by rw [hb.block _ (by omega)]; exact g3, g4.trans (hb.mono g4.size), by rw [fV_snoc, g5, if_neg (by simp), h0]⟩
        have hcell : Hid (∀ W3, Below W.heap.size W W3 -> W3.cell? ⟨w.heap.size + 1, 0, none⟩ = some (.int .i64 0) /\ W3.cell? ⟨w.heap.size + 1 + 1, 0, none⟩ = some (.int .i64 0) /\ W3.frozen? ⟨w.heap.size + 1, 0, none⟩ = false /\ W3.frozen? ⟨w.heap.size + 1 + 1, 0, none⟩ = false) := fun W3 hb => by
          have k2 : W3.heap[w.heap.size + 1]? = some (.cells #[.int .i64 0] 3 (0, 0)) := by rw [hb.block _ (by omega)]; exact g2
          have k3 : W3.heap[w.heap.size + 1 + 1]? = some (.cells #[.int .i64 0] 41 (0, 0)) := by rw [hb.block _ (by omega)]; exact g3
          exact ⟨cell_of_one k2, cell_of_one k3, by simp [World.frozen?, k2], by simp [World.frozen?, k3]⟩
        clear g2 g3 g4 g5 hru hbx hat hrd h0
        generalize hG : singV x.1.2.er = G at *
        clear hG
        obtain ⟨⟨dx, uk, un, ut, ua, uc, ul⟩, hx⟩ := x
        dsimp only [Vl.val, Vl.cells, Vl.kind, Vl.num, Vl.text, Vl.sl, Vl.addr, Vl.items, Vl.cap] at d1 d2 d3 d4 HO ⊢
        rw [Nat.zero_add] at d2 d3 d4
        gi_wp2_with (fail)
        refine ⟨trivial, ?_⟩
        refine (callsIn_wide.2 HO.out).mono ?_
        rintro e W3 ⟨rfl, hb3⟩
        obtain ⟨q1, q2, q3, q4⟩ := hcell.out W3 hb3
        by_cases hg0 : G = 0
        · subst hg0
          have hgo2 := hiq (hgo.out W3 hb3 rfl)
          clear hst hgo hcell HO
          gi_wp2
          exact ⟨keepsFrom_below hb3, .below hb3, hgo2.out, gk.trans (.below hb3)⟩
        · have hst2 := hiq (hst.out W3 hb3 hg0)
          have dg : ((G : Int) != 0) = true := by simp [hg0]
          clear hst hgo hcell HO hg0
          gi_wp2
          exact ⟨(keepsFrom_below hb3).trans (((KeepsOthers.setCell _ _ _).trans (KeepsOthers.setCell _ _ _)).from _), rfl, hst2.out⟩
      case done =>
        rintro D W hD ⟨⟨g2, g3, g4, g5⟩, -⟩ hd
        have c1 := cell_of_one g2
        have c2 := cell_of_one g3
        have f1 : W.frozen? ⟨w.heap.size + 1, 0, none⟩ = false := by simp [World.frozen?, g2]
        have f2 : W.frozen? ⟨w.heap.size + 1 + 1, 0, none⟩ = false := by simp [World.frozen?, g3]
        have hA0 : Hid (allV (Vl.mk k nn t a c l).er = 0) := by
          show _ = _
          rw [<- hF.out, <- fV_all]; exact g5
        have hend : Hid (((W.setCell ⟨w.heap.size + 1, 0, none⟩ (.int .i64 (L : Int))).setCell ⟨w.heap.size + 1 + 1, 0, none⟩ (.int .i64 0)).heap[w.heap.size + 1]? = some (.cells #[.int .i64 (L : Int)] 3 (0, 0)) /\ ((W.setCell ⟨w.heap.size + 1, 0, none⟩ (.int .i64 (L : Int))).setCell ⟨w.heap.size + 1 + 1, 0, none⟩ (.int .i64 0)).heap[w.heap.size + 1 + 1]? = some (.cells #[.int .i64 0] 41 (0, 0)) /\
            ((W.setCell ⟨w.heap.size + 1, 0, none⟩ (.int .i64 (L : Int))).setCell ⟨w.heap.size + 1 + 1, 0, none⟩ (.int .i64 0)).heap[D]? = some (.deferred (some []))) := by
          refine ⟨?_, ?_, ?_⟩
          · rw [heap_setCell_other (by omega), heap_setCell_self g2]; simp
          · rw [heap_setCell_self (by rw [heap_setCell_other (by omega)]; exact g3)]; simp
          · rw [heap_setCell_other (by omega), heap_setCell_other (by omega)]; exact hd
        have hb5 := below_setc (below_setc g4 (b := w.heap.size + 1) (by omega) 0 (.int .i64 (L : Int))) (b := w.heap.size + 1 + 1) (by omega) 0 (.int .i64 0)
        clear g2 g3 g5 hd hat hrd h0
        gi_wp2
        refine leaves_marks (hi := w.heap.size) (by simp) (Φ := fun W => W.heap[w.heap.size + 1]? = some (.cells #[.int .i64 (L : Int)] 3 (0, 0)) /\ W.heap[w.heap.size + 1 + 1]? = some (.cells #[.int .i64 0] 41 (0, 0)) /\ Below w.heap.size w W) ?_ ?_ _ _ (Marks.one (by omega) hend.out.2.2) ⟨hend.out.1, hend.out.2.1, hb5⟩
        · rintro W D ⟨h1, h2, h3⟩ hD hd
          exact ⟨cells_putObj h1 hd rfl _, cells_putObj h2 hd rfl _, below_putObj h3 hD hd _⟩
        · rintro W ⟨h1, h2, h3⟩
          have e1 := cell_of_one h1
          have e2 := cell_of_one h2
          refine ⟨_, by simp [results, Tryz.results54, go_sem, e1, e2]; rfl, ?_, h3⟩
          rw [HZ.out, HC.out, HN.out, hA0.out]; rfl
      case stop =>
        rintro D c' pre W hD hpre ⟨rfl, g2, g3, g4, g5⟩ hd
        have hA0 : Hid (allV (Vl.mk k nn t a c l).er = fV (Vl.mk k nn t a c l) pre) := by
          show _ = _
          rw [<- hF.out]; exact fV_stop hpre g5
        generalize fV (Vl.mk k nn t a c l) pre = E at *
        clear hat hrd h0
        gi_wp2
        refine leaves_marks (hi := w.heap.size) (by simp) (Φ := fun W => W.heap[w.heap.size + 1]? = some (.cells #[.int .i64 0] 3 (0, 0)) /\ W.heap[w.heap.size + 1 + 1]? = some (.cells #[.int .i64 E] 41 (0, 0)) /\ Below w.heap.size w W) ?_ ?_ _ _ (Marks.one (by omega) hd) ⟨g2, g3, g4⟩
        · rintro W D ⟨h1, h2, h3⟩ hD hd
          exact ⟨cells_putObj h1 hd rfl _, cells_putObj h2 hd rfl _, below_putObj h3 hD hd _⟩
        · rintro W ⟨h1, h2, h3⟩
          have e1 := cell_of_one h1
          have e2 := cell_of_one h2
          refine ⟨_, by simp [results, Tryz.results54, go_sem, e1, e2]; rfl, ?_, h3⟩
          rw [HZ.out, HC.out, HN.out, hA0.out, if_neg (by simp; exact g5), if_neg (by simp)]
    · have hmr := HV.out.2 hok
      have HN := hiq hmr
      rw [hmr]
      clear hmr HV HF hok
      dsimp only [mgot, mbad, Option.getD, Option.isNone]
      have h1 : ((w1.setCell ⟨w.heap.size + 1, 0, none⟩ (.int .i64 0)).setCell ⟨w.heap.size + 1 + 1, 0, none⟩ (.int .i64 4)).heap[w.heap.size + 1]? = some (.cells #[.int .i64 0] 3 (0, 0)) := by
        rw [heap_setCell_other (by omega), heap_setCell_self R1.out]; simp
      have h2 : ((w1.setCell ⟨w.heap.size + 1, 0, none⟩ (.int .i64 0)).setCell ⟨w.heap.size + 1 + 1, 0, none⟩ (.int .i64 4)).heap[w.heap.size + 1 + 1]? = some (.cells #[.int .i64 4] 41 (0, 0)) := by
        rw [heap_setCell_self (by rw [heap_setCell_other (by omega)]; exact R2.out)]; simp
      have h3 := below_setc (below_setc hb01 (b := w.heap.size + 1) (by omega) 0 (.int .i64 0)) (b := w.heap.size + 1 + 1) (by omega) 0 (.int .i64 4)
      have H1 := hiq h1
      have H2 := hiq h2
      clear h1 h2
      gi_wp2
      have e1 := cell_of_one H1.out
      have e2 := cell_of_one H2.out
      refine ⟨_, by simp [results, Tryz.results54, go_sem, e1, e2]; rfl, ?_, h3⟩
      rw [HZ.out, HC.out, HN.out]; rfl
end Go.Proofs.YtlbcmeebcfalpaaGreatDoor
