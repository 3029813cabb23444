/- Joined: ERCk, EAll, EAlp, ETree, EHlp. -/
import Derived.Test.YtfdipkhbemgojaaGreatDoorU21
import Derived.Test.YtfdipkhbemgojaaGreatDoorU16
import Derived.Test.YtfdipkhbemgojaaGreatDoorU22
import Derived.Test.YtfdipkhbemgojaaGreatDoorU13
import Derived.Test.YtfdipkhbemgojaaGreatDoorU02
import Derived.Test.YtfdipkhbemgojaaGreatDoorU06
set_option linter.unusedVariables false
set_option linter.unusedSimpArgs false
set_option maxRecDepth 100000
set_option maxHeartbeats 16000000
namespace Go.Proofs.YtfdipkhbemgojaaGreatDoor
open Go.RowKit

theorem rck_early (S : Nat -> Prop) (v : CV) (x : Col) (o : Op) (w : World) (h : RdC S w v x) (hm : Sml x) (hq : x.err ≠ 0 \/ (o.kind < 1 \/ 4 < o.kind) \/ ((o.other ≠ 0 /\ o.kind ≠ 3) \/ (o.text.size ≠ 0 /\ o.kind ≠ 4))) :
    Calls Tryz.prog 55 #[v.val, o.val] w fun e w' => e = .returned (.int .i64 (opErr x o)) /\ Below w.heap.size w w' := by
  have HQ : Hid ((x.err ≠ 0 /\ opErr x o = 1) \/ (x.err = 0 /\ (o.kind < 1 \/ 4 < o.kind) /\ opErr x o = 8) \/ (x.err = 0 /\ ¬ (o.kind < 1 \/ 4 < o.kind) /\ ((o.other ≠ 0 /\ o.kind ≠ 3) \/ (o.text.size ≠ 0 /\ o.kind ≠ 4)) /\ opErr x o = 1)) := by
    show _ \/ _ \/ _
    by_cases h1 : x.err = 0
    · by_cases h2 : o.kind < 1 \/ 4 < o.kind
      · exact .inr (.inl ⟨h1, h2, opErr_8 h1 h2⟩)
      · have h3 := (hq.resolve_left (by simp [h1])).resolve_left h2
        exact .inr (.inr ⟨h1, h2, h3, opErr_a h1 h2 h3⟩)
    · exact .inl ⟨h1, opErr_1 h1⟩
  have HC : Hid (∀ W, Below w.heap.size w W -> Calls Tryz.prog 39 #[v.val] W fun e w' => e = .returned (.int .i64 x.err) /\ Below W.heap.size W w') := fun W hb => check_ref S v x W (h.below hb) hm
  generalize opErr x o = E at *
  generalize x.err = XE at *
  clear h hm hq
  obtain ⟨sec, sa, sn, sc, ta, tn, tc, ca, cn, cc⟩ := v
  obtain ⟨ok, og, ot, oo, ox⟩ := o
  dsimp only at *
  change Calls _ _ #[.agg #[.string sec, .slice sa sn sc, .slice ta tn tc, .slice ca cn cc], .agg #[.int .i64 ok, .string og, .int .i64 ot, .int .i64 oo, .string ox]] _ _
  change Hid (∀ W, _ -> Calls _ _ #[.agg #[.string sec, .slice sa sn sc, .slice ta tn tc, .slice ca cn cc]] _ _) at HC
  obtain ⟨hb0, hC, hO⟩ := box2 w #[.string sec, .slice sa sn sc, .slice ta tn tc, .slice ca cn cc] #[.int .i64 ok, .string og, .int .i64 ot, .int .i64 oo, .string ox] 26 32
  have c0 := hC 0 _ rfl
  have c1 := hC 1 _ rfl
  have c2 := hC 2 _ rfl
  have c3 := hC 3 _ rfl
  have o0 := hO 0 _ rfl
  have o1 := hO 1 _ rfl
  have o2 := hO 2 _ rfl
  have o3 := hO 3 _ rfl
  have o4 := hO 4 _ rfl
  have HCC := hiq (HC.out _ hb0)
  clear hC hO
  go_enter Tryz.func55, Tryz.ntmps55
  go_wp2_with fail
  generalize (w.alloc (.cells #[.string sec, .slice sa sn sc, .slice ta tn tc, .slice ca cn cc] 26)).alloc (.cells #[.int .i64 ok, .string og, .int .i64 ot, .int .i64 oo, .string ox] 32) = W1 at *
  refine HCC.out.mono ?_
  rintro e W2 ⟨rfl, hb2⟩
  have hb3 := hb0.trans (hb2.mono hb0.size)
  replace c0 := clq hb2 c0; replace c1 := clq hb2 c1; replace c2 := clq hb2 c2; replace c3 := clq hb2 c3; replace o0 := clq hb2 o0; replace o1 := clq hb2 o1; replace o2 := clq hb2 o2; replace o3 := clq hb2 o3; replace o4 := clq hb2 o4
  clear HCC hb0 hb2
  rcases HQ.out with ⟨h1, hr⟩ | ⟨h1, h2, hr⟩ | ⟨h1, h2, h3, hr⟩
  · have t0 : ((XE : Int) != 0) = true := by simp [h1]
    have HR : Hid (E = 1) := hr
    clear HQ hr h1
    go_wp2
    go_ret
    exact ⟨ret_int HR.out.symm, hb3⟩
  · subst h1
    have HR : Hid (E = 8) := hr
    have t1 : ((ok : Int) != 1) = true := by simp; omega
    have t2 : ((ok : Int) != 2) = true := by simp; omega
    have t3 : ((ok : Int) != 3) = true := by simp; omega
    have t4 : ((ok : Int) != 4) = true := by simp; omega
    clear HQ hr h2
    go_wp2
    go_ret
    exact ⟨ret_int HR.out.symm, hb3⟩
  · subst h1
    have HR : Hid (E = 1) := hr
    have h4 : ok = 1 \/ ok = 2 \/ ok = 3 \/ ok = 4 := by omega
    clear HQ hr h2
    by_cases a1 : oo = 0
    · subst a1
      have hx : ox.toList.isEmpty = false := isEmpty_no (by rcases h3 with ⟨q, _⟩ | ⟨q, _⟩ <;> first | exact absurd rfl q | exact q)
      have h5 : ok ≠ 4 := by rcases h3 with ⟨q, _⟩ | ⟨_, q⟩ <;> first | exact absurd rfl q | exact q
      clear h3
      rcases h4 with rfl | rfl | rfl | rfl
      all_goals first | exact absurd rfl h5 | skip
      all_goals (go_wp2; go_ret; exact ⟨ret_int HR.out.symm, hb3⟩)
    · have t5 : ((oo : Int) != 0) = true := by simpa using a1
      rcases h4 with rfl | rfl | rfl | rfl
      · clear h3
        go_wp2
        go_ret
        exact ⟨ret_int HR.out.symm, hb3⟩
      · clear h3
        go_wp2
        go_ret
        exact ⟨ret_int HR.out.symm, hb3⟩
      · have hx : ox.toList.isEmpty = false := isEmpty_no (by rcases h3 with ⟨_, q⟩ | ⟨q, _⟩ <;> first | exact absurd rfl q | exact q)
        clear h3
        go_wp2
        go_ret
        exact ⟨ret_int HR.out.symm, hb3⟩
      · clear h3
        go_wp2
        go_ret
        exact ⟨ret_int HR.out.symm, hb3⟩
end Go.Proofs.YtfdipkhbemgojaaGreatDoor
namespace Go.Proofs.YtfdipkhbemgojaaGreatDoor
open Go.RowKit Go.Shelf
attribute [local go_sem] Oper.semAt_some

theorem abides_alloc {β : Type} {B : Nat} {J : β -> World -> Prop} (h : AbidesFrom B J) {s : β} {W : World} (hJ : J s W) (o : Obj) : J s (W.alloc o) :=
  h s W _ none hJ (World.grownBy_alloc W o none) (fun r e => by cases e)
/-- What a loop's body may have turned: its own blocks, as they are known in each world. -/
def KpO (Ow : World -> Nat -> Prop) (A B : World) : Prop :=
  A.heap.size <= B.heap.size /\ (∀ b cs t fr, ¬ Ow A b -> A.heap[b]? = some (.cells cs t fr) -> B.heap[b]? = some (.cells cs t fr)) /\ (∀ b, Ow B b -> Ow A b \/ A.heap.size <= b) /\ ((∀ b, Ow A b -> b < A.heap.size) -> ∀ b, Ow B b -> b < B.heap.size)
namespace KpO
variable {Ow : World -> Nat -> Prop} {A B C : World}
theorem refl (Ow : World -> Nat -> Prop) (A : World) : KpO Ow A A := ⟨Nat.le_refl _, fun _ _ _ _ _ h => h, fun _ h => .inl h, fun h => h⟩
theorem trans (h : KpO Ow A B) (k : KpO Ow B C) : KpO Ow A C := by
  refine ⟨Nat.le_trans h.1 k.1, fun b cs t fr hb ha => ?_, fun b hb => ?_, fun hn => k.2.2.2 (h.2.2.2 hn)⟩
  · refine k.2.1 b cs t fr (fun hB => ?_) (h.2.1 b cs t fr hb ha)
    rcases h.2.2.1 b hB with q | q
    · exact hb q
    · have := (Array.getElem?_eq_some_iff.1 ha).1; omega
  · rcases k.2.2.1 b hb with q | q
    · exact h.2.2.1 b q
    · exact .inr (Nat.le_trans h.1 q)
theorem keepS (h : KpO Ow A B) : KeepS (fun b => ¬ Ow A b) A B := ⟨h.1, h.2.1⟩
theorem below (hst : ∀ b, Ow B b -> Ow A b) (hb : Below A.heap.size A B) : KpO Ow A B :=
  ⟨hb.size, fun b cs t fr _ ha => by rw [hb.block b (Array.getElem?_eq_some_iff.1 ha).1]; exact ha, fun b h => .inl (hst b h), fun hn b h => Nat.lt_of_lt_of_le (hn b (hst b h)) hb.size⟩
end KpO
end Go.Proofs.YtfdipkhbemgojaaGreatDoor
namespace Go.Proofs.YtfdipkhbemgojaaGreatDoor
open Go.RowKit Go.Shelf
attribute [local go_sem] Oper.semAt_some

/-- The body's own: the variable's block, and the block that it points to. -/
def OwB (b4 : Nat) (A : World) (b : Nat) : Prop := b = b4 \/ ∃ y n c, A.cell? ⟨b4, 0, none⟩ = some (.slice (some y) n c) /\ y.block = b
theorem owB_below {b4 : Nat} {A B : World} (h4 : b4 < A.heap.size) (h : Below A.heap.size A B) : ∀ b, OwB b4 B b ↔ OwB b4 A b := by
  have e : B.cell? ⟨b4, 0, none⟩ = A.cell? ⟨b4, 0, none⟩ := World.cell?_of_block (h.block b4 h4)
  intro b; unfold OwB; rw [e]
theorem OwnQ.ownKept {α : Type} {e size : Nat} {enc : α -> List Value} {W W' : World} {B B0 n cap : Nat} {a : Option Addr} {l : List α} {row : Option Nat} (h : OwnQ e size enc W B a n cap l) (hg : W.grownBy W' row) (hr : ∀ r, row = some r -> B0 <= r /\ ∃ o : Obj, W.heap[r]? = some o /\ o.isCells = false) : OwnQ e size enc W' B a n cap l := by
  refine h.kept hg fun x hx e => ?_
  obtain ⟨_, o, ho, hc⟩ := hr x.block e.symm
  subst hx
  rcases h.2.2 with ⟨h0, _⟩ | ⟨g, cap', cur, hv, hB, hgc, _⟩
  · cases h0
  · cases hv
    rw [hgc] at ho; cases ho; cases hc
/-- One element more: what the body's append turns. -/
theorem kpO_app {α : Type} {e size : Nat} {enc : α -> List Value} {b4 : Nat} {W W1 W2 : World} {B n cap n' c' : Nat} {a a' : Option Addr} {l l' : List α} (h4 : b4 < W.heap.size) (hc : W.cell? ⟨b4, 0, none⟩ = some (.slice a n cap)) (ho : OwnQ e size enc W B a n cap l) (ho2 : OwnQ e size enc W2 B a' n' c' l') (hb1 : Below W.heap.size W W1) (hg : W1.grownBy W2 (Value.slice a n cap).ownBlock)
    (hv : (Value.slice a' n' c').ownBlock = (Value.slice a n cap).ownBlock \/ (Value.slice a' n' c').ownBlock = some W1.heap.size) (hcell : ∃ u, W2.cell? ⟨b4, 0, none⟩ = some u) : KpO (OwB b4) W (W2.setCell ⟨b4, 0, none⟩ (.slice a' n' c')) := by
  have hsz : (W2.setCell ⟨b4, 0, none⟩ (.slice a' n' c')).heap.size = W2.heap.size := by simp [World.setCell]
  have hl1 := hb1.size
  have hl2 := hg.size
  have hnew : (W2.setCell ⟨b4, 0, none⟩ (.slice a' n' c')).cell? ⟨b4, 0, none⟩ = some (.slice a' n' c') := by
    obtain ⟨u, hu⟩ := hcell
    exact World.cell?_setCell_same _ _ _ (by first | exact hu | (rw [hu]; rfl) | simp [hu])
  have hown : ∀ b, OwB b4 (W2.setCell ⟨b4, 0, none⟩ (.slice a' n' c')) b -> b = b4 \/ ∃ y, a' = some y /\ y.block = b := by
    rintro b (rfl | ⟨y, n2, c2, h, e⟩)
    · exact .inl rfl
    · rw [hnew] at h; cases h; exact .inr ⟨y, rfl, e⟩
  refine ⟨by omega, fun b cs t fr hb hA => ?_, fun b hb => ?_, fun _ b hb => ?_⟩
  · have hbl : b < W.heap.size := (Array.getElem?_eq_some_iff.1 hA).1
    have hb4 : b ≠ b4 := fun e => hb (.inl e)
    rw [Below.heap_setCell _ _ _ _ (by exact hb4), hg.block b (by omega) (fun e => ?_), hb1.block b hbl]
    · exact hA
    · cases a with
      | none => cases e
      | some y => exact hb (.inr ⟨y, n, cap, hc, (Option.some.inj e).symm⟩)
  · rcases hown b hb with rfl | ⟨y, rfl, rfl⟩
    · exact .inl (.inl rfl)
    · rcases hv with e | e
      · cases a with
        | none => cases e
        | some z => exact .inl (.inr ⟨z, n, cap, hc, (Option.some.inj e).symm⟩)
      · have := Option.some.inj e; exact .inr (by show W.heap.size <= y.block; omega)
  · rcases hown b hb with rfl | ⟨y, rfl, rfl⟩
    · omega
    · have := (ho2.lt y rfl).2; omega
theorem kpO_put {b4 : Nat} {W : World} {l : Nat} {o : Obj} (hl : l ≠ b4) (h : W.heap[l]? = some o) (hc : o.isCells = false) (o' : Obj) : KpO (OwB b4) W (W.putObj l o') := by
  have hsz : (W.putObj l o').heap.size = W.heap.size := by simp [World.putObj]
  have he : (W.putObj l o').cell? ⟨b4, 0, none⟩ = W.cell? ⟨b4, 0, none⟩ := World.cell?_of_block (World.putObj_heap_other (Ne.symm hl))
  have how : ∀ b, OwB b4 (W.putObj l o') b ↔ OwB b4 W b := fun b => by unfold OwB; rw [he]
  refine ⟨by omega, fun b cs t fr _ hA => ?_, fun b hb => .inl ((how b).1 hb), fun hn b hb => by rw [hsz]; exact hn b ((how b).1 hb)⟩
  have : b ≠ l := fun e => by subst e; rw [h] at hA; cases hA; cases hc
  rw [World.putObj_heap_other this]; exact hA
theorem keepsFrom_app {α : Type} {e size : Nat} {enc : α -> List Value} {b4 B0 : Nat} {W W1 W2 : World} {B n cap : Nat} {a : Option Addr} {l : List α} (h4 : b4 < B0) (ho : OwnQ e size enc W B a n cap l) (hb1 : Below W.heap.size W W1) (hg : W1.grownBy W2 (Value.slice a n cap).ownBlock) (v : Value) : KeepsFrom B0 W (W2.setCell ⟨b4, 0, none⟩ v) := by
  have hsz : (W2.setCell ⟨b4, 0, none⟩ v).heap.size = W2.heap.size := by simp [World.setCell]
  have h1 := hb1.size
  have h2 := hg.size
  refine ⟨by omega, fun k o hk hk1 hc => ?_⟩
  have hkl : k < W.heap.size := (Array.getElem?_eq_some_iff.1 hk1).1
  rw [Below.heap_setCell _ _ _ _ (by show k ≠ b4; omega), hg.block k (by omega) (fun e => ?_), hb1.block k hkl]
  · exact hk1
  · rcases ho.2.2 with ⟨h0, _⟩ | ⟨g, cap', cur, hv, hB, hgc, _⟩
    · cases h0; cases e
    · cases hv
      cases e
      rw [hgc] at hk1; cases hk1; cases hc
end Go.Proofs.YtfdipkhbemgojaaGreatDoor
namespace Go.Proofs.YtfdipkhbemgojaaGreatDoor
open Go

section
variable {P : Program} {ops : Array Oper} {md : Region.Mode} {X : Type} {Wf : X -> World} {Q : Exit -> Act -> World -> Prop}

end
end Go.Proofs.YtfdipkhbemgojaaGreatDoor

/- A region that draws its order: reads and others by turns; where several others are ready, one way for each. -/
namespace Go.Proofs.YtfdipkhbemgojaaGreatDoor
open Go

section
variable {P : Program} {ops : Array Oper} {md : Region.Mode} {X : Type} {Wf : X -> World} {Q : Exit -> Act -> World -> Prop}

/-- A tree of orders: what only reads; or one of two that are ready; or the one that is. -/
inductive Tree
  | fin : Tree
  | read : Nat -> Tree -> Tree
  | act : Nat -> Tree -> Tree
  | two : Nat -> Tree -> Nat -> Tree -> Tree
def Tree.len : Tree -> Nat
  | .fin => 0
  | .read _ t => t.len + 1
  | .act _ t => t.len + 1
  | .two _ t _ _ => t.len + 1
def treeB (md : Region.Mode) (ops : Array Oper) (n g : Nat) : Tree -> Array Bool -> Bool
  | .fin, done => Region.seqB md ops g n done
  | .read k t, done => decide (k < n) && decide (k < ops.size) && (Region.ready md ops done).contains k && Region.free md ops done k && treeB md ops n g t (done.setIfInBounds k true)
  | .act k t, done => decide (k < n) && decide (k < ops.size) && decide (Region.ready md ops done = [k]) && treeB md ops n g t (done.setIfInBounds k true)
  | .two i t j u, done => decide (i < n) && decide (j < n) && decide (i < ops.size) && decide (j < ops.size) && decide (t.len = u.len) && decide (Region.ready md ops done = [i, j]) && treeB md ops n g t (done.setIfInBounds i true) && treeB md ops n g u (done.setIfInBounds j true)
def wpTree (P : Program) (l : List Oper) (Q : Exit -> Act -> World -> Prop) (Wf : X -> World) (T : Act -> World -> Prop) : Tree -> Act -> World -> Prop
  | .fin, a, w => T a w
  | .read k t, a, w => ∀ o, l[k]? = some o -> rOp P l.toArray Wf o a (fun a' => wpTree P l Q Wf T t a' w)
  | .act k t, a, w => ∀ o, l[k]? = some o -> wpList P l.toArray (Exit.then (fun a' w' => (∃ x, w' = Wf x) /\ wpTree P l Q Wf T t a' w') Q) [o] a w
  | .two i t j u, a, w => (∀ o, l[i]? = some o -> wpList P l.toArray (Exit.then (fun a' w' => (∃ x, w' = Wf x) /\ wpTree P l Q Wf T t a' w') Q) [o] a w) /\
      ∀ o, l[j]? = some o -> wpList P l.toArray (Exit.then (fun a' w' => (∃ x, w' = Wf x) /\ wpTree P l Q Wf T u a' w') Q) [o] a w
theorem wpTree_fin {l : List Oper} {T : Act -> World -> Prop} {a : Act} {w : World} (h : T a w) : wpTree P l Q Wf T .fin a w := h
theorem wpTree_read {l : List Oper} {T : Act -> World -> Prop} {k : Nat} {t : Tree} {a : Act} {w : World} (o : Oper) (ho : l[k]? = some o) (h : ∀ K : Act -> Prop, (∀ a, wpTree P l Q Wf T t a w -> K a) -> rOp P l.toArray Wf o a K) : wpTree P l Q Wf T (.read k t) a w := by
  intro o' h'
  rw [ho] at h'; cases h'
  exact h _ (fun _ h => h)
theorem wpTree_act {l : List Oper} {T : Act -> World -> Prop} {k : Nat} {t : Tree} {a : Act} {w : World} (o : Oper) (ho : l[k]? = some o) (h : wpList P l.toArray (Exit.then (fun a' w' => (∃ x, w' = Wf x) /\ wpTree P l Q Wf T t a' w') Q) [o] a w) : wpTree P l Q Wf T (.act k t) a w := by
  intro o' h'
  rw [ho] at h'; cases h'
  exact h
theorem wpTree_two {l : List Oper} {T : Act -> World -> Prop} {i j : Nat} {t u : Tree} {a : Act} {w : World} (h1 : wpTree P l Q Wf T (.act i t) a w) (h2 : wpTree P l Q Wf T (.act j u) a w) : wpTree P l Q Wf T (.two i t j u) a w := ⟨h1, h2⟩

theorem headH_tree {n g : Nat} {T : Act -> World -> Prop} {l : List Oper} (hl : ops = l.toArray) (hsel : Region.noSelect ops = true)
    (hs : Region.sinkB md ops n = true) (hc : Region.chainB md ops n = true) (hn : n < ops.size)
    (hQ : ∀ c a d v w, Q (.panic c) (Act.put a d v) w -> Q (.panic c) a w) : ∀ (t : Tree) (done : Array Bool) (a : Act) (w : World), HeadInv md ops n done -> treeB md ops n g t done = true ->
    (∃ x, w = Wf x) -> wpTree P l Q Wf T t a w -> headH P md ops Q Wf n (fun done' a' w' => Region.seqB md ops g n done' = true /\ T a' w') t.len done a w
  | .fin, done, a, w, _, hB, _, h => ⟨hB, h⟩
  | .read k t, done, a, w, inv, hB, hS, h => by
    simp only [treeB, Bool.and_eq_true, decide_eq_true_eq, List.contains_iff_mem] at hB
    obtain ⟨⟨⟨⟨h1, hkl⟩, h2⟩, h3⟩, h4⟩ := hB
    obtain ⟨o, ho'⟩ : ∃ o, ops[k]? = some o := ⟨_, Array.getElem?_eq_getElem hkl⟩
    have ho : l[k]? = some o := by rw [hl] at ho'; simpa using ho'
    replace h := h o ho
    rw [<- hl] at h
    unfold rOp at h
    have hL : ∀ done a w, (fun (done' : Array Bool) a' w' => Region.seqB md ops g n done' = true /\ T a' w') done a w -> ∀ j ∈ Region.ready md ops done, n <= j := fun done a w hL j hj => seqB_ready hL.1 j hj
    by_cases hw : Region.wanted o (yielded ops a.tmps) = true
    · rw [if_pos hw] at h
      obtain ⟨v, hv, hK⟩ := h
      refine headH_first (v := v) ho' hsel hs hc hn h1 hL hQ t.len done a w inv (Region.free_spec ho' h3) h2 (.inl ⟨hw, ?_⟩) hS ?_
      · rintro w' ⟨x, rfl⟩; exact hv x
      · exact headH_tree hl hsel hs hc hn hQ t _ _ w (inv.set h2 h1) h4 hS hK
    · rw [if_neg hw] at h
      refine headH_first (v := undef) ho' hsel hs hc hn h1 hL hQ t.len done a w inv (Region.free_spec ho' h3) h2 (.inr ⟨by simpa using hw, rfl⟩) hS ?_
      exact headH_tree hl hsel hs hc hn hQ t _ _ w (inv.set h2 h1) h4 hS h
  | .act k t, done, a, w, inv, hB, hS, h => by
    simp only [treeB, Bool.and_eq_true, decide_eq_true_eq] at hB
    obtain ⟨⟨⟨h1, hkl⟩, h2⟩, h3⟩ := hB
    obtain ⟨o, ho'⟩ : ∃ o, ops[k]? = some o := ⟨_, Array.getElem?_eq_getElem hkl⟩
    have ho : l[k]? = some o := by rw [hl] at ho'; simpa using ho'
    replace h := h o ho
    rw [<- hl] at h
    refine ⟨by rw [h2]; simp, fun i hi => ?_⟩
    have hi0 := hi
    rw [h2] at hi
    have e : i = k := by simpa using hi
    subst e
    exact ⟨h1, wpOp_mono (fun a' w' h' => ⟨h'.1, headH_tree hl hsel hs hc hn hQ t _ a' w' (inv.set hi0 h1) h3 h'.1 h'.2⟩) (wpOp_of_list ho' h)⟩
  | .two i t j u, done, a, w, inv, hB, hS, h => by
    simp only [treeB, Bool.and_eq_true, decide_eq_true_eq] at hB
    obtain ⟨⟨⟨⟨⟨⟨⟨h1, h1'⟩, hil⟩, hjl⟩, hlen⟩, h2⟩, h3⟩, h4⟩ := hB
    obtain ⟨oi, hoi'⟩ : ∃ o, ops[i]? = some o := ⟨_, Array.getElem?_eq_getElem hil⟩
    obtain ⟨oj, hoj'⟩ : ∃ o, ops[j]? = some o := ⟨_, Array.getElem?_eq_getElem hjl⟩
    have hoi : l[i]? = some oi := by rw [hl] at hoi'; simpa using hoi'
    have hoj : l[j]? = some oj := by rw [hl] at hoj'; simpa using hoj'
    have ha := h.1 oi hoi
    have hb := h.2 oj hoj
    rw [<- hl] at ha hb
    refine ⟨by rw [h2]; simp, fun k hk => ?_⟩
    have hk0 := hk
    rw [h2] at hk
    simp only [List.mem_cons, List.not_mem_nil, or_false] at hk
    rcases hk with rfl | rfl
    · exact ⟨h1, wpOp_mono (fun a' w' h' => ⟨h'.1, headH_tree hl hsel hs hc hn hQ t _ a' w' (inv.set hk0 h1) h3 h'.1 h'.2⟩) (wpOp_of_list hoi' ha)⟩
    · refine ⟨h1', wpOp_mono (fun a' w' h' => ⟨h'.1, ?_⟩) (wpOp_of_list hoj' hb)⟩
      show headH _ _ _ _ _ _ _ t.len _ _ _
      rw [hlen]
      exact headH_tree hl hsel hs hc hn hQ u _ a' w' (inv.set hk0 h1') h4 h'.1 h'.2

def treeFormB (l : List Oper) (n : Nat) (t : Tree) : Bool :=
  Region.noSelect l.toArray && decide (n < l.length) && Region.sinkB .any l.toArray n && Region.chainB .any l.toArray n && decide (t.len = n) && treeB .any l.toArray n (l.length - n) t (Array.replicate l.length false)
theorem wpAny_tree {a : Act} {w : World} {l : List Oper} (n : Nat) (t : Tree) (hB : treeFormB l n t = true)
    (hQ : ∀ c a d v w, Q (.panic c) (Act.put a d v) w -> Q (.panic c) a w) (hS : ∃ x, w = Wf x)
    (h : wpTree P l Q Wf (wpList P l.toArray Q (l.drop n)) t a w) :
    wpAny P .any l.toArray Q l.toArray.size (Array.replicate l.toArray.size false) a w := by
  simp only [treeFormB, Bool.and_eq_true, decide_eq_true_eq] at hB
  obtain ⟨⟨⟨⟨⟨hsel, hn⟩, hs⟩, hc⟩, hlen⟩, hr⟩ := hB
  have inv0 : HeadInv .any l.toArray n (Array.replicate l.length false) :=
    ⟨by simp, fun j oj _ hl => (by rw [getD_replicate_false] at hl; cases hl), fun t _ ht => getD_in (by simpa using ht) (getD_replicate_false _ _)⟩
  have H := headH_tree (P := P) (Q := Q) (Wf := Wf) (g := l.length - n) (T := wpList P l.toArray Q (l.drop n)) rfl hsel hs hc (by simpa using hn) hQ t (Array.replicate l.length false) a w inv0 hr hS h
  have K := headH_sound (g := l.length - n) (fun done a' w' hL => by
    have := wpAny_of_seq (P := P) (md := .any) (Q' := Q) (l.drop n) n done a' w' (fun j => by simp [List.getElem?_drop]) (by simpa using hL.1) hL.2
    simpa using this) _ _ _ _ H
  rw [hlen, show n + (l.length - n) = l.length by omega] at K
  simpa using K
theorem wp_region_tree {id : Nat} {a : Act} {w : World} {l : List Oper} (n : Nat) (t : Tree) (hm : P.follows .mixedOrders = true) (hB : treeFormB l n t = true)
    (hQ : ∀ c a d v w, Q (.panic c) (Act.put a d v) w -> Q (.panic c) a w) (hS : ∃ x, w.drew = Wf x)
    (h : wpTree P l Q Wf (wpList P l.toArray Q (l.drop n)) t a w.drew) : (Code.region id l.toArray true).wp P Q a w :=
  wp_region_any hm (wpAny_tree n t hB hQ hS h)
end
end Go.Proofs.YtfdipkhbemgojaaGreatDoor
namespace Go.Proofs.YtfdipkhbemgojaaGreatDoor
open Go.RowKit

/-- No panic behind it. -/
def noPanic (Q : Exit -> Act -> World -> Prop) : Exit -> Act -> World -> Prop
  | .panic _, _, _ => False
  | e, a, w => Q e a w
@[go_sem] theorem noPanic_normal (Q : Exit -> Act -> World -> Prop) (a : Act) (w : World) : noPanic Q .normal a w = Q .normal a w := rfl
theorem wp_region_treeN {P : Program} {X : Type} {Wf : X -> World} {Q : Exit -> Act -> World -> Prop} {id : Nat} {a : Act} {w : World} {l : List Oper} (n : Nat) (t : Tree) (hm : P.follows .mixedOrders = true) (hB : treeFormB l n t = true) (hS : ∃ x, w.drew = Wf x)
    (h : wpTree P l (noPanic Q) Wf (wpList P l.toArray (noPanic Q) (l.drop n)) t a w.drew) : (Code.region id l.toArray true).wp P Q a w :=
  Code.wp_mono (fun e a w h => by cases e <;> first | exact h | exact h.elim) (wp_region_tree n t hm hB (fun _ _ _ _ _ h => h.elim) hS h)
theorem keepsFrom_set {B : Nat} {W W1 : World} (h : KeepsFrom B W W1) {b j : Nat} (hb : b < B) (v : Value) : KeepsFrom B W (W1.setCell ⟨b, j, none⟩ v) :=
  ⟨by simp [World.setCell]; exact h.1, fun k o hk h1 hc => by rw [Below.heap_setCell _ _ _ _ (by show k ≠ b; omega)]; exact h.2 k o hk h1 hc⟩
theorem frozen5 {W : World} {b : Nat} {cs : Array Value} {t : TypeId} (h : W.heap[b]? = some (.cells cs t (0, 0))) (j : Nat) : W.frozen? ⟨b, j, none⟩ = false := Lib.frozen_of_heap h j
theorem box4b (w : World) (C D E F : Array Value) (tc td te tf : TypeId) : ∃ W, W = ((((w.alloc (.cells C tc)).alloc (.cells D td)).alloc (.cells E te)).alloc (.cells F tf)) /\ Below w.heap.size w W /\ W.heap.size = w.heap.size + 1 + 1 + 1 + 1 /\
    W.heap[w.heap.size]? = some (.cells C tc (0, 0)) /\ W.heap[w.heap.size + 1]? = some (.cells D td (0, 0)) /\ W.heap[w.heap.size + 1 + 1]? = some (.cells E te (0, 0)) /\ W.heap[w.heap.size + 1 + 1 + 1]? = some (.cells F tf (0, 0)) := by
  obtain ⟨h1, h2, h3, h4, h5, h6⟩ := box4 w C D E F tc td te tf
  exact ⟨_, rfl, h1, h2, h3, h4, h5, h6⟩
end Go.Proofs.YtfdipkhbemgojaaGreatDoor
