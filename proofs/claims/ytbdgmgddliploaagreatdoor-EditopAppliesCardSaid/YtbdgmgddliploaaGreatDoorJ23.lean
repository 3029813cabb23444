/- Joined: EAlp. -/
import Derived.Test.YtbdgmgddliploaaGreatDoorJ22
import Derived.Test.YtbdgmgddliploaaGreatDoorJ21
set_option linter.unusedVariables false
set_option linter.unusedSimpArgs false
set_option maxRecDepth 100000
set_option maxHeartbeats 16000000
namespace Go.Proofs.YtbdgmgddliploaaGreatDoor
open Go.RowKit Go.Shelf
attribute [local go_sem] Oper.semAt_some

theorem eall_in (m : Nat) (w : World) (v : CV) : CallsIn Fence.wide m Tryz.prog 55 #[v.val] w fun e w' => e = .returned (.func (.func 93) #[] #[.pointer (some ⟨w.heap.size, 0, none⟩)]) /\ w' = w.alloc (.cells v.arr 26) := by
  obtain ⟨sec, sa, sn, sc, ta, tn, tc, ca, cn, cc⟩ := v
  change CallsIn _ _ _ _ #[.agg #[.string sec, .slice sa sn sc, .slice ta tn tc, .slice ca cn cc]] _ _
  refine callsIn_of_wp Tryz.func55 rfl trivial ?_ rfl
  simp only [Tryz.ntmps55, List.size_toArray, List.length_cons, List.length_nil, Nat.reduceAdd, Nat.reduceSub, Array.replicate_succ, Array.replicate_zero, List.push_toArray, List.append_toArray, List.nil_append, List.cons_append]
  gi_wp2
  go_ret
  exact ⟨rfl, rfl⟩
/-- The body's own: the variable's block, and the block that it points to. -/
def OwB (b4 : Nat) (A : World) (b : Nat) : Prop := b = b4 \/ ∃ y n c, A.cell? ⟨b4, 0, none⟩ = some (.slice (some y) n c) /\ y.block = b
theorem owB_below {b4 : Nat} {A B : World} (h4 : b4 < A.heap.size) (h : Below A.heap.size A B) : ∀ b, OwB b4 B b ↔ OwB b4 A b := by
  have e : B.cell? ⟨b4, 0, none⟩ = A.cell? ⟨b4, 0, none⟩ := World.cell?_of_block (h.block b4 h4)
  intro b; unfold OwB; rw [e]
theorem OwnQ.ownKept {α : Type} {e size : Nat} {enc : α -> List Value} {W W' : World} {B B0 n cap : Nat} {a : Option Addr} {l : List α} {row : Option Nat} (h : OwnQ e size enc W B a n cap l) (hg : W.grownBy W' row) (hr : ∀ r, row = some r -> B0 <= r /\ ∃ o : Obj, W.heap[r]? = some o /\ o.isCells = false) : OwnQ e size enc W' B a n cap l := by
  refine h.kept hg fun x hx e => ?_
  obtain ⟨_, o, ho, hc⟩ := hr x.block e.symm
  subst hx
  rcases h.2.2 with ⟨h0, _⟩ | ⟨g, cap', cur, hv, hB, hgc, _⟩
  · cases h0
  · cases hv
    rw [hgc] at ho; cases ho; cases hc
/-- One element more: what the body's append turns. -/
theorem kpO_app {α : Type} {e size : Nat} {enc : α -> List Value} {b4 : Nat} {W W1 W2 : World} {B n cap n' c' : Nat} {a a' : Option Addr} {l l' : List α} (h4 : b4 < W.heap.size) (hc : W.cell? ⟨b4, 0, none⟩ = some (.slice a n cap)) (ho : OwnQ e size enc W B a n cap l) (ho2 : OwnQ e size enc W2 B a' n' c' l') (hb1 : Below W.heap.size W W1) (hg : W1.grownBy W2 (Value.slice a n cap).ownBlock)
    (hv : (Value.slice a' n' c').ownBlock = (Value.slice a n cap).ownBlock \/ (Value.slice a' n' c').ownBlock = some W1.heap.size) (hcell : ∃ u, W2.cell? ⟨b4, 0, none⟩ = some u) : KpO (OwB b4) W (W2.setCell ⟨b4, 0, none⟩ (.slice a' n' c')) := by
  have hsz : (W2.setCell ⟨b4, 0, none⟩ (.slice a' n' c')).heap.size = W2.heap.size := by simp [World.setCell]
  have hl1 := hb1.size
  have hl2 := hg.size
  have hnew : (W2.setCell ⟨b4, 0, none⟩ (.slice a' n' c')).cell? ⟨b4, 0, none⟩ = some (.slice a' n' c') := by
    obtain ⟨u, hu⟩ := hcell
    exact World.cell?_setCell_same _ _ _ (by first | exact hu | (rw [hu]; rfl) | simp [hu])
  have hown : ∀ b, OwB b4 (W2.setCell ⟨b4, 0, none⟩ (.slice a' n' c')) b -> b = b4 \/ ∃ y, a' = some y /\ y.block = b := by
    rintro b (rfl | ⟨y, n2, c2, h, e⟩)
    · exact .inl rfl
    · rw [hnew] at h; cases h; exact .inr ⟨y, rfl, e⟩
  refine ⟨by omega, fun b cs t fr hb hA => ?_, fun b hb => ?_, fun _ b hb => ?_⟩
  · have hbl : b < W.heap.size := (Array.getElem?_eq_some_iff.1 hA).1
    have hb4 : b ≠ b4 := fun e => hb (.inl e)
    rw [Below.heap_setCell _ _ _ _ (by exact hb4), hg.block b (by omega) (fun e => ?_), hb1.block b hbl]
    · exact hA
    · cases a with
      | none => cases e
      | some y => exact hb (.inr ⟨y, n, cap, hc, (Option.some.inj e).symm⟩)
  · rcases hown b hb with rfl | ⟨y, rfl, rfl⟩
    · exact .inl (.inl rfl)
    · rcases hv with e | e
      · cases a with
        | none => cases e
        | some z => exact .inl (.inr ⟨z, n, cap, hc, (Option.some.inj e).symm⟩)
      · have := Option.some.inj e; exact .inr (by show W.heap.size <= y.block; omega)
  · rcases hown b hb with rfl | ⟨y, rfl, rfl⟩
    · omega
    · have := (ho2.lt y rfl).2; omega
def AllPost (x : Col) (w : World) (e : Ending) (w' : World) : Prop :=
  ∃ a n c, e = .returned (.tuple #[.slice a n c, .int .i64 (if x.err = 0 then 0 else 1)]) /\ OwnQ 28 5 Op.cells w' w.heap.size a n c (if x.err = 0 then allOps x else []) /\ Below w.heap.size w w'
theorem all_err (S : Nat -> Prop) (v : CV) (x : Col) (w : World) (h : RdC S w v x) (hm : Sml x) (hE : Env w) (hv : x.err ≠ 0) : Calls Tryz.prog 22 #[v.val] w (AllPost x w) := by
  unfold AllPost
  rw [if_neg hv, if_neg hv]
  have hb0 : ∀ C, Below w.heap.size w (((w.alloc (.cells C 26)).alloc (.cells #[.slice none 0 0] 41)).alloc (.cells #[.int .i64 0] 32)) := fun C => (((Below.refl _ _).alloc (Nat.le_refl _) _).alloc (by simp) _).alloc (by simp; omega) _
  have HC : Hid (∀ W, Below w.heap.size w W -> CallsIn Fence.wide 9 Tryz.prog 26 #[v.val] W fun e w' => e = .returned (.int .i64 x.err) /\ Below W.heap.size W w') := fun W hb => callsIn_wide.2 (check_any S v x W (h.below hb) hm (hE.below hb))
  have t0 : ((x.err : Int) != 0) = true := by simpa using hv
  generalize x.err = E at *
  clear h hm hE hv
  obtain ⟨sec, sa, sn, sc, ta, tn, tc, ca, cn, cc⟩ := v
  change Hid (∀ W, _ -> CallsIn _ _ _ _ #[.agg #[.string sec, .slice sa sn sc, .slice ta tn tc, .slice ca cn cc]] W _) at HC
  change Calls _ _ #[.agg #[.string sec, .slice sa sn sc, .slice ta tn tc, .slice ca cn cc]] _ _
  have hbx := hb0 #[.string sec, .slice sa sn sc, .slice ta tn tc, .slice ca cn cc]
  have gr : (((w.alloc (.cells #[.string sec, .slice sa sn sc, .slice ta tn tc, .slice ca cn cc] 26)).alloc (.cells #[.slice none 0 0] 41)).alloc (.cells #[.int .i64 0] 32)).heap[w.heap.size + 1]? = some (.cells #[.slice none 0 0] 41 (0, 0)) := by
    have e1 := World.alloc_heap_new (w.alloc (.cells #[.string sec, .slice sa sn sc, .slice ta tn tc, .slice ca cn cc] 26)) (.cells #[.slice none 0 0] 41)
    have e2 : ((w.alloc (.cells #[.string sec, .slice sa sn sc, .slice ta tn tc, .slice ca cn cc] 26)).alloc (.cells #[.slice none 0 0] 41)).heap[w.heap.size + 1]? = some (.cells #[.slice none 0 0] 41 (0, 0)) := by simpa using e1
    rw [((Below.refl _ ((w.alloc (.cells #[.string sec, .slice sa sn sc, .slice ta tn tc, .slice ca cn cc] 26)).alloc (.cells #[.slice none 0 0] 41))).alloc (Nat.le_refl _) _).block (w.heap.size + 1) (by simp)]; exact e2
  have ge : (((w.alloc (.cells #[.string sec, .slice sa sn sc, .slice ta tn tc, .slice ca cn cc] 26)).alloc (.cells #[.slice none 0 0] 41)).alloc (.cells #[.int .i64 0] 32)).heap[w.heap.size + 1 + 1]? = some (.cells #[.int .i64 0] 32 (0, 0)) := by
    have e1 := World.alloc_heap_new ((w.alloc (.cells #[.string sec, .slice sa sn sc, .slice ta tn tc, .slice ca cn cc] 26)).alloc (.cells #[.slice none 0 0] 41)) (.cells #[.int .i64 0] 32)
    simpa using e1
  have hsx : w.heap.size + 1 + 1 < (((w.alloc (.cells #[.string sec, .slice sa sn sc, .slice ta tn tc, .slice ca cn cc] 26)).alloc (.cells #[.slice none 0 0] 41)).alloc (.cells #[.int .i64 0] 32)).heap.size := by simp
  have HCC := hiq (HC.out _ hbx)
  refine (callsIn_wide (n := 10)).1 ?_
  refine callsIn_of_wp_marks Tryz.func22 rfl trivial ?_ rfl
  simp only [Tryz.ntmps22, List.size_toArray, List.length_cons, List.length_nil, Nat.reduceAdd, Nat.reduceSub, Array.replicate_succ, Array.replicate_zero, List.push_toArray, List.append_toArray, List.nil_append, List.cons_append]
  gi_wp2_with (fail)
  generalize ((w.alloc (.cells #[.string sec, .slice sa sn sc, .slice ta tn tc, .slice ca cn cc] 26)).alloc (.cells #[.slice none 0 0] 41)).alloc (.cells #[.int .i64 0] 32) = W1 at *
  refine ⟨trivial, ?_⟩
  refine HCC.out.mono ?_
  rintro e W2 ⟨rfl, hb2⟩
  have gr2 := (hb2.block _ (by omega)).trans gr
  have ge2 := (hb2.block _ hsx).trans ge
  have c1 := cell_of_one gr2
  have c2 := cell_of_one ge2
  have f1 : W2.frozen? ⟨w.heap.size + 1, 0, none⟩ = false := by simp [World.frozen?, gr2]
  have f2 : W2.frozen? ⟨w.heap.size + 1 + 1, 0, none⟩ = false := by simp [World.frozen?, ge2]
  have hb3 : Below w.heap.size w ((W2.setCell ⟨w.heap.size + 1, 0, none⟩ (.slice none 0 0)).setCell ⟨w.heap.size + 1 + 1, 0, none⟩ (.int .i64 1)) := below_setc (below_setc (hbx.trans (hb2.mono hbx.size)) (by omega) 0 _) (by omega) 0 _
  have gr3 : ((W2.setCell ⟨w.heap.size + 1, 0, none⟩ (.slice none 0 0)).setCell ⟨w.heap.size + 1 + 1, 0, none⟩ (.int .i64 1)).heap[w.heap.size + 1]? = some (.cells #[.slice none 0 0] 41 (0, 0)) := by
    rw [heap_setCell_other (by omega), heap_setCell_self gr2]; simp
  have ge3 : ((W2.setCell ⟨w.heap.size + 1, 0, none⟩ (.slice none 0 0)).setCell ⟨w.heap.size + 1 + 1, 0, none⟩ (.int .i64 1)).heap[w.heap.size + 1 + 1]? = some (.cells #[.int .i64 1] 32 (0, 0)) := by
    rw [heap_setCell_self (by rw [heap_setCell_other (by omega)]; exact ge2)]; simp
  have HZ := hiq (And.intro hb3 (And.intro gr3 ge3))
  clear hb3 gr3 ge3 gr2 ge2 hb2 gr ge
  gi_wp2
  obtain ⟨hb3, gr3, ge3⟩ := HZ.out
  generalize (W2.setCell ⟨w.heap.size + 1, 0, none⟩ (.slice none 0 0)).setCell ⟨w.heap.size + 1 + 1, 0, none⟩ (.int .i64 1) = WF at *
  refine leaves_marks (hi := w.heap.size) (by simp) (Φ := fun W => Below w.heap.size w W /\ W.heap[w.heap.size + 1]? = some (.cells #[.slice none 0 0] 41 (0, 0)) /\ W.heap[w.heap.size + 1 + 1]? = some (.cells #[.int .i64 1] 32 (0, 0))) ?_ ?_ [] _ trivial ⟨hb3, gr3, ge3⟩
  · rintro W D ⟨h1, h2, h3⟩ hD hd
    exact ⟨below_putObj h1 hD hd _, cells_putObj h2 hd rfl _, cells_putObj h3 hd rfl _⟩
  · clear hb3 gr3 ge3
    rintro W ⟨hb3, gr3, ge3⟩
    have e1 := cell_of_one gr3
    have e2 := cell_of_one ge3
    refine ⟨_, by simp [results, Tryz.results22, go_sem, e1, e2]; rfl, ?_⟩
    exact ⟨none, 0, 0, rfl, OwnQ.nil _ _ _ _ _, hb3⟩
theorem kpO_put {b4 : Nat} {W : World} {l : Nat} {o : Obj} (hl : l ≠ b4) (h : W.heap[l]? = some o) (hc : o.isCells = false) (o' : Obj) : KpO (OwB b4) W (W.putObj l o') := by
  have hsz : (W.putObj l o').heap.size = W.heap.size := by simp [World.putObj]
  have he : (W.putObj l o').cell? ⟨b4, 0, none⟩ = W.cell? ⟨b4, 0, none⟩ := World.cell?_of_block (World.putObj_heap_other (Ne.symm hl))
  have how : ∀ b, OwB b4 (W.putObj l o') b ↔ OwB b4 W b := fun b => by unfold OwB; rw [he]
  refine ⟨by omega, fun b cs t fr _ hA => ?_, fun b hb => .inl ((how b).1 hb), fun hn b hb => by rw [hsz]; exact hn b ((how b).1 hb)⟩
  have : b ≠ l := fun e => by subst e; rw [h] at hA; cases hA; cases hc
  rw [World.putObj_heap_other this]; exact hA
theorem keepsFrom_app {α : Type} {e size : Nat} {enc : α -> List Value} {b4 B0 : Nat} {W W1 W2 : World} {B n cap : Nat} {a : Option Addr} {l : List α} (h4 : b4 < B0) (ho : OwnQ e size enc W B a n cap l) (hb1 : Below W.heap.size W W1) (hg : W1.grownBy W2 (Value.slice a n cap).ownBlock) (v : Value) : KeepsFrom B0 W (W2.setCell ⟨b4, 0, none⟩ v) := by
  have hsz : (W2.setCell ⟨b4, 0, none⟩ v).heap.size = W2.heap.size := by simp [World.setCell]
  have h1 := hb1.size
  have h2 := hg.size
  refine ⟨by omega, fun k o hk hk1 hc => ?_⟩
  have hkl : k < W.heap.size := (Array.getElem?_eq_some_iff.1 hk1).1
  rw [Below.heap_setCell _ _ _ _ (by show k ≠ b4; omega), hg.block k (by omega) (fun e => ?_), hb1.block k hkl]
  · exact hk1
  · rcases ho.2.2 with ⟨h0, _⟩ | ⟨g, cap', cur, hv, hB, hgc, _⟩
    · cases h0; cases e
    · cases hv
      cases e
      rw [hgc] at hk1; cases hk1; cases hc
abbrev opC (o : Op) : Array Value := #[.int .i64 o.kind, .string o.sig, .int .i64 o.tok, .int .i64 o.other, .string o.text]
theorem all_ok (S : Nat -> Prop) (v : CV) (x : Col) (w : World) (h : RdC S w v x) (hm : Sml x) (hE : Env w) (hv : x.err = 0) (hln : (allOps x).length <= 4096) : Calls Tryz.prog 22 #[v.val] w (AllPost x w) := by
  unfold AllPost
  rw [if_pos hv, if_pos hv]
  have hb0 : ∀ C, Below w.heap.size w (((w.alloc (.cells C 26)).alloc (.cells #[.slice none 0 0] 41)).alloc (.cells #[.int .i64 0] 32)) := fun C => (((Below.refl _ _).alloc (Nat.le_refl _) _).alloc (by simp) _).alloc (by simp; omega) _
  have HC : Hid (∀ W, Below w.heap.size w W -> CallsIn Fence.wide 9 Tryz.prog 26 #[v.val] W fun e w' => e = .returned (.int .i64 0) /\ Below W.heap.size W w') := fun W hb => by
    have := check_any S v x W (h.below hb) hm (hE.below hb)
    rw [hv] at this; exact callsIn_wide.2 this
  have HA : Hid (∀ m W, CallsIn Fence.wide m Tryz.prog 55 #[v.val] W fun e w' => e = .returned (.func (.func 93) #[] #[.pointer (some ⟨W.heap.size, 0, none⟩)]) /\ w' = W.alloc (.cells v.arr 26)) := fun m W => eall_in m W v
  have HX := hiq h
  have HEV := hiq hE
  have HLN := hiq hln
  clear h hE hln
  obtain ⟨V, hV⟩ : ∃ V, V = v := ⟨_, rfl⟩
  rw [<- hV] at HX
  obtain ⟨sec, sa, sn, sc, ta, tn, tc, ca, cn, cc⟩ := v
  change Hid (∀ W, _ -> CallsIn _ _ _ _ #[.agg #[.string sec, .slice sa sn sc, .slice ta tn tc, .slice ca cn cc]] W _) at HC
  change Hid (∀ m W, CallsIn _ _ _ _ #[.agg #[.string sec, .slice sa sn sc, .slice ta tn tc, .slice ca cn cc]] W fun e w' => _ /\ w' = W.alloc (.cells #[.string sec, .slice sa sn sc, .slice ta tn tc, .slice ca cn cc] 26)) at HA
  change Calls _ _ #[.agg #[.string sec, .slice sa sn sc, .slice ta tn tc, .slice ca cn cc]] _ _
  have hVa : V.arr = #[.string sec, .slice sa sn sc, .slice ta tn tc, .slice ca cn cc] := by rw [hV]; rfl
  have HVA := hiq hVa
  clear hV hVa
  have hbx := hb0 #[.string sec, .slice sa sn sc, .slice ta tn tc, .slice ca cn cc]
  have gx : (((w.alloc (.cells #[.string sec, .slice sa sn sc, .slice ta tn tc, .slice ca cn cc] 26)).alloc (.cells #[.slice none 0 0] 41)).alloc (.cells #[.int .i64 0] 32)).heap[w.heap.size]? = some (.cells #[.string sec, .slice sa sn sc, .slice ta tn tc, .slice ca cn cc] 26 (0, 0)) := by
    have e1 := World.alloc_heap_new w (.cells #[.string sec, .slice sa sn sc, .slice ta tn tc, .slice ca cn cc] 26)
    have e3 : Below (w.heap.size + 1) (w.alloc (.cells #[.string sec, .slice sa sn sc, .slice ta tn tc, .slice ca cn cc] 26)) (((w.alloc (.cells #[.string sec, .slice sa sn sc, .slice ta tn tc, .slice ca cn cc] 26)).alloc (.cells #[.slice none 0 0] 41)).alloc (.cells #[.int .i64 0] 32)) := ((Below.refl _ _).alloc (by simp) _).alloc (by simp) _
    rw [e3.block w.heap.size (by omega)]; exact e1
  have gr : (((w.alloc (.cells #[.string sec, .slice sa sn sc, .slice ta tn tc, .slice ca cn cc] 26)).alloc (.cells #[.slice none 0 0] 41)).alloc (.cells #[.int .i64 0] 32)).heap[w.heap.size + 1]? = some (.cells #[.slice none 0 0] 41 (0, 0)) := by
    have e1 := World.alloc_heap_new (w.alloc (.cells #[.string sec, .slice sa sn sc, .slice ta tn tc, .slice ca cn cc] 26)) (.cells #[.slice none 0 0] 41)
    have e2 : ((w.alloc (.cells #[.string sec, .slice sa sn sc, .slice ta tn tc, .slice ca cn cc] 26)).alloc (.cells #[.slice none 0 0] 41)).heap[w.heap.size + 1]? = some (.cells #[.slice none 0 0] 41 (0, 0)) := by simpa using e1
    rw [((Below.refl _ ((w.alloc (.cells #[.string sec, .slice sa sn sc, .slice ta tn tc, .slice ca cn cc] 26)).alloc (.cells #[.slice none 0 0] 41))).alloc (Nat.le_refl _) _).block (w.heap.size + 1) (by simp)]; exact e2
  have ge : (((w.alloc (.cells #[.string sec, .slice sa sn sc, .slice ta tn tc, .slice ca cn cc] 26)).alloc (.cells #[.slice none 0 0] 41)).alloc (.cells #[.int .i64 0] 32)).heap[w.heap.size + 1 + 1]? = some (.cells #[.int .i64 0] 32 (0, 0)) := by
    have e1 := World.alloc_heap_new ((w.alloc (.cells #[.string sec, .slice sa sn sc, .slice ta tn tc, .slice ca cn cc] 26)).alloc (.cells #[.slice none 0 0] 41)) (.cells #[.int .i64 0] 32)
    simpa using e1
  have hsx : w.heap.size + 1 + 1 < (((w.alloc (.cells #[.string sec, .slice sa sn sc, .slice ta tn tc, .slice ca cn cc] 26)).alloc (.cells #[.slice none 0 0] 41)).alloc (.cells #[.int .i64 0] 32)).heap.size := by simp
  have HCC := hiq (HC.out _ hbx)
  refine (callsIn_wide (n := 10)).1 ?_
  refine callsIn_of_wp_marks Tryz.func22 rfl trivial ?_ rfl
  simp only [Tryz.ntmps22, List.size_toArray, List.length_cons, List.length_nil, Nat.reduceAdd, Nat.reduceSub, Array.replicate_succ, Array.replicate_zero, List.push_toArray, List.append_toArray, List.nil_append, List.cons_append]
  gi_wp2_with (fail)
  generalize ((w.alloc (.cells #[.string sec, .slice sa sn sc, .slice ta tn tc, .slice ca cn cc] 26)).alloc (.cells #[.slice none 0 0] 41)).alloc (.cells #[.int .i64 0] 32) = W1 at *
  refine ⟨trivial, ?_⟩
  refine HCC.out.mono ?_
  rintro e W2 ⟨rfl, hb2⟩
  have hb4 : Below W2.heap.size W2 (W2.alloc (.cells #[.slice none 0 0] 41)) := (Below.refl _ _).alloc (Nat.le_refl _) _
  have hb24 := hb2.trans (hb4.mono hb2.size)
  have gx2 := (hb24.block _ (by omega)).trans gx
  have gr2 := (hb24.block _ (by omega)).trans gr
  have ge2 := (hb24.block _ hsx).trans ge
  have g42 := World.alloc_heap_new W2 (.cells #[.slice none 0 0] 41)
  have hs42 : (W2.alloc (.cells #[.slice none 0 0] 41)).heap.size = W2.heap.size + 1 := by simp
  have hb3 := hbx.trans (hb24.mono hbx.size)
  have hs2 : W1.heap.size <= W2.heap.size := hb2.size
  obtain ⟨c0, c1, c2, c3, -⟩ := box_cells4 gx2
  clear hb2 hb4 hb24 gx gr ge hbx gx2 HCC
  gi_wp2_with (fail)
  generalize W2.alloc (.cells #[.slice none 0 0] 41) = W3 at *
  refine ⟨trivial, ?_⟩
  refine (HA.out _ _).mono ?_
  rintro e WL ⟨rfl, hWL⟩
  have hbL : Below W3.heap.size W3 WL := by rw [hWL]; exact (Below.refl _ _).alloc (Nat.le_refl _) _
  have gxL := World.alloc_heap_new W3 (.cells #[.string sec, .slice sa sn sc, .slice ta tn tc, .slice ca cn cc] 26)
  rw [<- hWL] at gxL
  have hsL : WL.heap.size = W2.heap.size + 2 := by rw [hWL]; simp [hs42]
  have grL := (hbL.block _ (by omega)).trans gr2
  have geL := (hbL.block _ (by omega)).trans ge2
  have g4L := (hbL.block _ (by omega)).trans g42
  have hbw := hb3.trans (hbL.mono hb3.size)
  clear hWL hbL gr2 ge2 g42 hb3 c0 c1 c2 c3
  gi_wp2
  have hcL := cell_of_one g4L
  have hOwL : ∀ b, OwB W2.heap.size WL b -> b = W2.heap.size := by
    rintro b (rfl | ⟨y, n, c, hq, -⟩)
    · rfl
    · rw [hcL] at hq; cases hq
  have hRL : RdC (fun b => ¬ OwB W2.heap.size WL b) WL V x := ((HX.out.mono (S' := fun b => S b /\ b < w.heap.size) (fun b h1 h2 => ⟨h1, h2⟩)).below hbw).mono (fun b h1 _ h3 => by have := hOwL b h3; have := h1.2; omega)
  refine wpIn_rangeFunc_ownH (α := AOp x) (n := 10) (F := Fence.wide) rfl (by omega) rfl trivial (enters_of Tryz.func93 (by kernel_rfl) rfl)
    (eall_stops (10 - 1) (by omega) (OwB W2.heap.size) (W2.heap.size + 1) V x WL (by rw [HVA.out, <- hs42]; exact gxL) hRL (fun b hb => by have := hOwL b hb; omega) (fun A B h1 h2 => owB_below (by omega) h2) (fun hb => by have := hOwL _ hb; omega)
      (fun B hk => env_keeps HEV.out (fun b hb h3 => by have := hOwL b h3; omega) WL B hk (HEV.out.below hbw)) hm hv) KpO.trans
    (fun W l o o' hl hh hc _ => kpO_put (by omega) hh hc o') (Below.refl _ _) (fun _ => rfl)
    (fun pre W => ∃ a' c', W.heap[W2.heap.size]? = some (.cells #[.slice a' pre.length c'] 41 (0, 0)) /\ OwnQ 28 5 Op.cells W WL.heap.size a' pre.length c' (pre.map (·.1)) /\ W.heap[w.heap.size + 1]? = some (.cells #[.slice none 0 0] 41 (0, 0)) /\ W.heap[w.heap.size + 1 + 1]? = some (.cells #[.int .i64 0] 32 (0, 0)) /\ Below w.heap.size w W /\ WL.heap.size <= W.heap.size)
    (fun _ _ _ => False) ?hI ?hIx ⟨none, 0, g4L, OwnQ.nil _ _ _ _ _, grL, geL, hbw, Nat.le_refl _⟩
    (fun y a' W => ∃ bo, a' = { tmps := #[.agg #[.string sec, .slice sa sn sc, .slice ta tn tc, .slice ca cn cc], .pointer (some ⟨w.heap.size, 0, none⟩), .pointer (some ⟨w.heap.size + 1, 0, none⟩), .pointer (some ⟨w.heap.size + 1 + 1, 0, none⟩), .pointer (some ⟨W2.heap.size, 0, none⟩), .pointer (some ⟨bo, 0, none⟩), .agg #[.string sec, .slice sa sn sc, .slice ta tn tc, .slice ca cn cc], .int .i64 0, .bool false, .agg #[.string sec, .slice sa sn sc, .slice ta tn tc, .slice ca cn cc], .func (.func 93) #[] #[.pointer (some ⟨W2.heap.size + 1, 0, none⟩)], .agg (opC y.1), undef, undef, undef, undef, undef, undef, undef, undef], defers := [] } /\ W.heap[bo]? = some (.cells (opC y.1) 28 (0, 0))) ?hAx ?assign ?body ?done ?stop
  case hI =>
    rintro pre W W' row ⟨a', c', g1, g2, g3, g4, g5, g6⟩ hg hr
    exact ⟨a', c', cells_own g1 hg hr, g2.ownKept hg hr, cells_own g3 hg hr, cells_own g4 hg hr, g5.grown hg g5.size (fun r e => by have := (hr r e).1; have := hbw.size; omega), Nat.le_trans g6 hg.size⟩
  case hIx => rintro c' pre W W' row h; exact h.elim
  case hAx =>
    rintro y a' _ W W' row ⟨bo, e, h1⟩ hg hr
    exact ⟨bo, e, cells_own h1 hg hr⟩
  case assign =>
    rintro l0 pre y W K ⟨a', c', g1, g2, g3, g4, g5, g6⟩ hK
    have hb1 : Below W.heap.size W (W.alloc (.cells (opC y.1) 28)) := (Below.refl _ _).alloc (Nat.le_refl _) _
    have hKx := hiq (hK _ (W.alloc (.cells (opC y.1) 28)) (keepsFrom_below hb1) (KpO.below (fun b h => (owB_below (by omega) hb1 b).1 h) hb1)
      ⟨a', c', (hb1.block _ (by omega)).trans g1, g2.below hb1, (hb1.block _ (by omega)).trans g3, (hb1.block _ (by omega)).trans g4, g5.trans (hb1.mono (by have := hbw.size; omega)), Nat.le_trans g6 hb1.size⟩ ⟨W.heap.size, rfl, World.alloc_heap_new W _⟩)
    obtain ⟨⟨ok, og, ot, oo, ox⟩, hy⟩ := y
    dsimp only [Op.val, opC] at hKx ⊢
    gi_wp2
    exact hKx.out
  case body =>
    rintro l0 pre y a0 W - - ⟨aa, ca', g1, g2, g3, g4, g5, g6⟩ ⟨bo, rfl, h1⟩ hlt
    have c4 := cell_of_one g1
    have f4 : W.frozen? ⟨W2.heap.size, 0, none⟩ = false := by simp [World.frozen?, g1]
    have hlen : pre.length < 4096 := by have := HLN.out; rw [allL_len] at hlt; omega
    have t0 : ((pre.length : Int) == 4096) = false := by simp; omega
    obtain ⟨o0, o1, o2, o3, o4⟩ := box_cells5 h1
    have hb1 : Below W.heap.size W (W.alloc (.cells (opC y.1) 28)) := (Below.refl _ _).alloc (Nat.le_refl _) _
    have HO := hiq (g2.below hb1)
    have HV : Hid (∀ j u, (([y.1] : List Op).flatMap Op.cells)[j]? = some u -> (W.alloc (.cells (opC y.1) 28)).cell? ((⟨W.heap.size, 0, none⟩ : Addr).add j) = some u) := fun j u hj => lit_cells (by exact hj)
    have hB9 : WL.heap.size <= (W.alloc (.cells (opC y.1) 28)).heap.size := Nat.le_trans g6 hb1.size
    have hbB : Below WL.heap.size W (W.alloc (.cells (opC y.1) 28)) := hb1.mono g6
    have HI := infoO
    have HG := hiq (And.intro g1 (And.intro g2 (And.intro g3 (And.intro g4 (And.intro g5 g6)))))
    clear g1 g2 g3 g4 g5 h1
    have hml : ((pre.map (·.1)).length) = pre.length := by simp
    generalize hyv : y.1 = yv at *
    obtain ⟨ok, og, ot, oo, ox⟩ := yv
    dsimp only [opC] at *
    gi_wp2_with (gi_at_builtin; refine wpListIn_appQ (l := pre.map (·.1)) (ys := [(⟨ok, og, ot, oo, ox⟩ : Op)]) HI Tryz.underlying41 rfl (by omega) op_len op_one rfl _ _ rfl rfl rfl HO.out rfl HV.out (by unfold maxLen; omega) (by omega) hB9 hbB ?_; intro a5 c5 w5 ho5 hb5 hg5 hv5; have c45 := (World.cell?_of_block (a := ⟨W2.heap.size, 0, none⟩) (hb5.block W2.heap.size (by omega))).trans c4; have f45 : w5.frozen? ⟨W2.heap.size, 0, none⟩ = false := (World.frozen?_of_block (a := ⟨W2.heap.size, 0, none⟩) (hb5.block W2.heap.size (by omega))).trans f4)
    obtain ⟨g1, g2, g3, g4, g5, g6⟩ := HG.out
    have hsw := hbw.size
    have g45 := (hb5.block W2.heap.size (by omega)).trans g1
    refine ⟨keepsFrom_app (by omega) g2 hb1 hg5 _, kpO_app (by omega) c4 g2 ho5 hb1 hg5 hv5 ⟨_, c45⟩, a5, c5, ?_, ?_, ?_, ?_, ?_, ?_⟩
    · rw [heap_setCell_self g45]; simp
    · have := ho5.setOther (g := W2.heap.size) (j := 0) (fun z hz => by have := (ho5.lt z hz).1; omega) (.slice a5 (pre.length + 1) c5)
      rw [List.length_append, List.map_append, List.map_cons, hyv]; exact this
    · rw [heap_setCell_other (by omega), hb5.block _ (by omega)]; exact g3
    · rw [heap_setCell_other (by omega), hb5.block _ (by omega)]; exact g4
    · exact below_setc (g5.trans (hb5.mono (by omega))) (by omega) 0 _
    · have := hb5.size; simp [World.setCell]; omega
  case done =>
    rintro D ys W hD rfl ⟨a', c', g1, g2, g3, g4, g5, g6⟩ hd
    have hsw := hbw.size
    have c1 := cell_of_one g1
    have c2 := cell_of_one g3
    have c3 := cell_of_one g4
    have f2 : W.frozen? ⟨w.heap.size + 1, 0, none⟩ = false := by simp [World.frozen?, g3]
    have f3 : W.frozen? ⟨w.heap.size + 1 + 1, 0, none⟩ = false := by simp [World.frozen?, g4]
    have hmap : (allL x).map (·.1) = allOps x := by simp [allL, List.attach_map_subtype_val]
    rw [hmap] at g2
    have hX : Hid (((W.setCell ⟨w.heap.size + 1, 0, none⟩ (.slice a' (allL x).length c')).setCell ⟨w.heap.size + 1 + 1, 0, none⟩ (.int .i64 0)).heap[w.heap.size + 1]? = some (.cells #[.slice a' (allL x).length c'] 41 (0, 0)) /\
        ((W.setCell ⟨w.heap.size + 1, 0, none⟩ (.slice a' (allL x).length c')).setCell ⟨w.heap.size + 1 + 1, 0, none⟩ (.int .i64 0)).heap[w.heap.size + 1 + 1]? = some (.cells #[.int .i64 0] 32 (0, 0)) /\
        OwnQ 28 5 Op.cells ((W.setCell ⟨w.heap.size + 1, 0, none⟩ (.slice a' (allL x).length c')).setCell ⟨w.heap.size + 1 + 1, 0, none⟩ (.int .i64 0)) WL.heap.size a' (allL x).length c' (allOps x) /\
        Below w.heap.size w ((W.setCell ⟨w.heap.size + 1, 0, none⟩ (.slice a' (allL x).length c')).setCell ⟨w.heap.size + 1 + 1, 0, none⟩ (.int .i64 0)) /\
        ((W.setCell ⟨w.heap.size + 1, 0, none⟩ (.slice a' (allL x).length c')).setCell ⟨w.heap.size + 1 + 1, 0, none⟩ (.int .i64 0)).heap[D]? = some (.deferred (some []))) := by
      refine ⟨?_, ?_, ?_, below_setc (below_setc g5 (by omega) _ _) (by omega) _ _, ?_⟩
      · rw [heap_setCell_other (by omega), heap_setCell_self g3]; simp
      · rw [heap_setCell_self (by rw [heap_setCell_other (by omega)]; exact g4)]; simp
      · exact (g2.setOther (fun z hz => by have := (g2.lt z hz).1; omega) _).setOther (fun z hz => by have := (g2.lt z hz).1; omega) _
      · rw [heap_setCell_other (by omega), heap_setCell_other (by omega)]; exact hd
    clear g1 g2 g3 g4 g5 hd hmap
    gi_wp2
    refine leaves_marks (hi := WL.heap.size) (by simp) (Φ := fun W => W.heap[w.heap.size + 1]? = some (.cells #[.slice a' (allL x).length c'] 41 (0, 0)) /\ W.heap[w.heap.size + 1 + 1]? = some (.cells #[.int .i64 0] 32 (0, 0)) /\
      OwnQ 28 5 Op.cells W WL.heap.size a' (allL x).length c' (allOps x) /\ Below w.heap.size w W) ?_ ?_ _ _ (Marks.one hD hX.out.2.2.2.2) ⟨hX.out.1, hX.out.2.1, hX.out.2.2.1, hX.out.2.2.2.1⟩
    · rintro W D ⟨h1, h2, h3, h4⟩ hD hd
      exact ⟨cells_putObj h1 hd rfl _, cells_putObj h2 hd rfl _, h3.ownKept (row := some D) (grownBy_putObj' W D _) (B0 := 0) (fun r e => ⟨Nat.zero_le _, _, by cases e; exact hd, rfl⟩), below_putObj h4 (by omega) hd _⟩
    · rintro W ⟨h1, h2, h3, h4⟩
      have e1 := cell_of_one h1
      have e2 := cell_of_one h2
      refine ⟨_, by simp [results, Tryz.results22, go_sem, e1, e2]; rfl, ?_⟩
      exact ⟨_, _, _, rfl, h3.mono (by omega), h4⟩
  case stop =>
    rintro D c' pre W hD hpre h; exact h.elim
end Go.Proofs.YtbdgmgddliploaaGreatDoor
