/- Joined: IWc, IWrA1, IWrA0, IWrB1, IWrB0, IWrC1. -/
import Derived.Test.YtlbcmeebcfalpaaGreatDoorR10
set_option linter.unusedVariables false
set_option linter.unusedSimpArgs false
set_option maxRecDepth 100000
set_option maxHeartbeats 16000000
namespace Go.Proofs.YtlbcmeebcfalpaaGreatDoor
open Go.RowKit

/-- The calls for the fields, one behind the other. -/
def AllC (W1 : World) : List Dv -> List (FuncId × List Value) -> Prop
  | d :: ds, (f, xs) :: fs => (∀ V, Below W1.heap.size W1 V -> Calls Tryz.prog f (d.val :: xs).toArray V (NewV d.toV V)) /\ AllC W1 ds fs
  | _, _ => Hid True
/-- The values that were made so far. -/
structure WAcc (W1 V : World) (vs : List Vl) (ds : List Dv) : Prop where
  below : Below W1.heap.size W1 V
  er : vs.map Vl.er = Dv.toVL ds
  rd : ∀ v ∈ vs, Rd (fun b => W1.heap.size <= b) V v
theorem WAcc.init {W1 V : World} (h : Below W1.heap.size W1 V) : WAcc W1 V [] [] := ⟨h, rfl, by simp⟩
theorem toVL_snoc : ∀ (l : List Dv) (d : Dv), Dv.toVL (l ++ [d]) = Dv.toVL l ++ [d.toV]
  | [], _ => rfl
  | x :: l, d => by rw [List.cons_append, Dv.toVL, toVL_snoc l d]; rfl
theorem WAcc.step {W1 V V' : World} {vs : List Vl} {ds : List Dv} {d : Dv} {e : Ending} (h : WAcc W1 V vs ds) (k : NewV d.toV V e V') : ∃ v : Vl, e = .returned v.val /\ WAcc W1 V' (vs ++ [v]) (ds ++ [d]) := by
  obtain ⟨v, he, hx, hr, hb⟩ := k
  refine ⟨v, he, h.below.trans (hb.mono h.below.size), by rw [List.map_append, h.er, toVL_snoc, <- hx]; rfl, fun u hu => ?_⟩
  rcases List.mem_append.1 hu with hu | hu
  · exact (h.rd u hu).below hb
  · rw [List.mem_singleton] at hu; subst hu
    exact hr.mono fun b hb' _ => Nat.le_trans h.below.size hb'
/-- What stands behind the call of List on the values, and the store of its result. -/
def FinP (w W1 : World) (x : V) (e : Ending) (VL : World) : Prop := ∃ (al : Option Addr) (cl m : Nat) (WF : World), e = .returned (.agg #[.int .i64 3, .int .i64 0, .string ⟨#[]⟩, .slice al m cl]) /\ Below W1.heap.size W1 VL /\ VL.cell? ⟨w.heap.size + 1, 0, none⟩ = some (.int .i64 0) /\ VL.cell? ⟨w.heap.size + 1, 1, none⟩ = some (.int .i64 0) /\ VL.cell? ⟨w.heap.size + 1, 2, none⟩ = some (.string ⟨#[]⟩) /\ VL.cell? ⟨w.heap.size + 1, 3, none⟩ = some (.slice none 0 0) /\ (∀ i, VL.frozen? ⟨w.heap.size + 1, i, none⟩ = false) /\
      WF = put4 VL (w.heap.size + 1) (.int .i64 3) (.int .i64 0) (.string ⟨#[]⟩) (.slice al m cl) /\ CellsAt WF (w.heap.size + 1) 0 [.int .i64 3, .int .i64 0, .string ⟨#[]⟩, .slice al m cl] /\ NewV x w e WF
theorem vals_fin {σ : Bool} {w W1 V : World} {vs : List Vl} {ds : List Dv} {a : Option Addr} {n c : Nat} (hv : Vals (fun b => W1.heap.size <= b) V a n c vs) (h0 : a = none -> n = 0 /\ c = 0) (her : vs.map Vl.er = Dv.toVL ds) (hm : vs.length <= 1000) (hcL : Below W1.heap.size W1 V) (hb : Below w.heap.size w W1) (hz : W1.heap.size = w.heap.size + 2) (hbx : W1.heap[w.heap.size + 1]? = some (.cells #[.int .i64 0, .int .i64 0, .string ⟨#[]⟩, .slice none 0 0] 24 (0, 0))) :
    Calls Tryz.prog (lstF σ) #[.slice a n c] V (FinP w W1 (.mk 3 0 ⟨#[]⟩ (Dv.toVL ds))) := by
  refine (lst_any σ _ _ _ _ _ _ hv h0).mono ?_
  rintro e VL ⟨al, cl, he, ol, hbl⟩
  change e = .returned (.agg #[.int .i64 3, .int .i64 0, .string ⟨#[]⟩, .slice al vs.length cl]) at he
  subst he
  have hcZ := hcL.trans (hbl.mono hcL.size)
  have hbz := (hcZ.block (w.heap.size + 1) (by omega)).trans hbx
  have hn := hv.1
  rw [hn] at ol
  obtain ⟨hrn, hen, -⟩ := new_list (x := .mk 3 0 ⟨#[]⟩ (Dv.toVL ds)) hcL ol hbl (by omega) (by rw [her])
  obtain ⟨z0, z1, z2, z3, zf⟩ := box_cells hbz
  have hbw := hb.trans (hcZ.mono hb.size)
  refine ⟨al, cl, vs.length, _, rfl, hcZ, z0, z1, z2, z3, frozen_box hbz, rfl, cellsAt (cs := [_, _, _, _]) (put4_at hbz _ _ _ _), mkList al cl vs, rfl, hen, ?_, put4_below hbw (by omega) _ _ _ _⟩
  exact (hrn.keep (put4_keep (b := w.heap.size + 1) (by show ¬ W1.heap.size <= w.heap.size + 1; omega) _ _ _ _)).mono fun b hb' _ => by have := hb.size; omega
/-- The call of List on the literal. -/
theorem WAcc.fin {σ : Bool} {w W1 V : World} {vs : List Vl} {ds : List Dv} (h : WAcc W1 V vs ds) (hm : vs.length <= 1000) (hb : Below w.heap.size w W1) (hz : W1.heap.size = w.heap.size + 2) (hbx : W1.heap[w.heap.size + 1]? = some (.cells #[.int .i64 0, .int .i64 0, .string ⟨#[]⟩, .slice none 0 0] 24 (0, 0))) :
    Below W1.heap.size W1 (V.alloc (.cells (flat vs).toArray 24)) /\ Calls Tryz.prog (lstF σ) #[.slice (some ⟨V.heap.size, 0, none⟩) vs.length vs.length] (V.alloc (.cells (flat vs).toArray 24)) (FinP w W1 (.mk 3 0 ⟨#[]⟩ (Dv.toVL ds))) := by
  have hcL : Below W1.heap.size W1 (V.alloc (.cells (flat vs).toArray 24)) := h.below.alloc h.below.size _
  exact ⟨hcL, vals_fin (vals_lit (S := fun b => W1.heap.size <= b) (W := V) (vs := vs) (cs := (flat vs).toArray) (by simp) h.rd h.below.size (by omega)) (fun e => by cases e) h.er hm hcL hb hz hbx⟩
theorem all_cells {W : World} {b : Nat} {cs : List Value} {t : TypeId} (h : W.heap[b]? = some (.cells cs.toArray t (0, 0))) {V : World} (hb : Below W.heap.size W V) : CellsAt V b 0 cs :=
  cellsAt ((hb.block b (Array.getElem?_eq_some_iff.1 h).1).trans h)
end Go.Proofs.YtlbcmeebcfalpaaGreatDoor
namespace Go.Proofs.YtlbcmeebcfalpaaGreatDoor
open Go.RowKit

@[reducible] def LT.isWA1 : LT -> Bool | op => true | dec => true | rew => true | grp => true | pat => true | sec => true | rul => true | _ => false
theorem wrA1_st (T : LT) (hL : T.isWA1 = true) (S : Nat -> Prop) (w : World) (l : List Dv) (hh : Has T.ty (.struc l)) (hr : RdD S w (.struc l)) (hS : ∀ b, S b -> b < w.heap.size)
    (hc : ∀ W1, Below w.heap.size w W1 -> AllC W1 l (T.fc true)) : Calls Tryz.prog (T.wf true) #[(Dv.struc l).val] w (NewV (Dv.struc l).toV w) := by
  have hb1 : Below w.heap.size w ((w.alloc (.cells (Dv.cellsL l).toArray T.tid)).alloc (.cells #[.int .i64 0, .int .i64 0, .string ⟨#[]⟩, .slice none 0 0] 24)) := ((Below.refl _ _).alloc (Nat.le_refl _) _).alloc (by simp) _
  have hs1 : ((w.alloc (.cells (Dv.cellsL l).toArray T.tid)).alloc (.cells #[.int .i64 0, .int .i64 0, .string ⟨#[]⟩, .slice none 0 0] 24)).heap.size = w.heap.size + 2 := by simp
  have hbx : ((w.alloc (.cells (Dv.cellsL l).toArray T.tid)).alloc (.cells #[.int .i64 0, .int .i64 0, .string ⟨#[]⟩, .slice none 0 0] 24)).heap[w.heap.size + 1]? = some (.cells #[.int .i64 0, .int .i64 0, .string ⟨#[]⟩, .slice none 0 0] 24 (0, 0)) := by
    have := World.alloc_heap_new (w.alloc (.cells (Dv.cellsL l).toArray T.tid)) (.cells #[.int .i64 0, .int .i64 0, .string ⟨#[]⟩, .slice none 0 0] 24)
    simpa using this
  have hcs : ∀ V, Below ((w.alloc (.cells (Dv.cellsL l).toArray T.tid)).alloc (.cells #[.int .i64 0, .int .i64 0, .string ⟨#[]⟩, .slice none 0 0] 24)).heap.size ((w.alloc (.cells (Dv.cellsL l).toArray T.tid)).alloc (.cells #[.int .i64 0, .int .i64 0, .string ⟨#[]⟩, .slice none 0 0] 24)) V -> CellsAt V w.heap.size 0 (Dv.cellsL l) := fun V hV =>
    all_cells (alloc_heap_some (World.alloc_heap_new w (.cells (Dv.cellsL l).toArray T.tid))) hV
  have HC := hiq (hc _ hb1)
  have hi := T.inv hh
  have HA : Hid (∀ V vs, WAcc ((w.alloc (.cells (Dv.cellsL l).toArray T.tid)).alloc (.cells #[.int .i64 0, .int .i64 0, .string ⟨#[]⟩, .slice none 0 0] 24)) V vs l -> vs.length <= 1000 -> _) := fun V vs h hm => h.fin (σ := true) hm hb1 hs1 hbx
  have hV : (Dv.struc l).toV = .mk 3 0 ⟨#[]⟩ (Dv.toVL l) := by rw [Dv.toV]
  rw [hV]
  obtain ⟨N, hN⟩ : ∃ N, N = T.N true := ⟨_, rfl⟩
  obtain ⟨ks, hks⟩ : ∃ ks, ks = T.ks true := ⟨_, rfl⟩
  obtain ⟨acts, hacts⟩ : ∃ acts, acts = T.acts true := ⟨_, rfl⟩
  clear hc hh hr hS hb1 hs1 hbx hV
  cases T
  case' op => go_enter Tryz.func136, Tryz.ntmps136
  case' dec => go_enter Tryz.func140, Tryz.ntmps140
  case' rew => go_enter Tryz.func100, Tryz.ntmps100
  case' grp => go_enter Tryz.func105, Tryz.ntmps105
  case' pat => go_enter Tryz.func107, Tryz.ntmps107
  case' sec => go_enter Tryz.func110, Tryz.ntmps110
  case' rul => go_enter Tryz.func103, Tryz.ntmps103
  case wit => cases hL
  case nod => cases hL
  case exp => cases hL
  case cst => cases hL
  case sty => cases hL
  case edi => cases hL
  case int => cases hL
  case bool => cases hL
  case text => cases hL
  case pos => cases hL
  case tok => cases hL
  case inp => cases hL
  case toks => cases hL
  all_goals
    dsimp only [LT.Inv] at hi
    repeat (rcases (hi : ∃ _, _) with ⟨_, hi⟩)
    injection hi with hi
    subst hi
    simp only [Dv.val, Dv.cells, Dv.cellsL, List.cons_append, List.nil_append, List.append_nil, CellsAt, Nat.zero_add, Nat.reduceAdd, and_true, LT.tid, LT.fc, AllC] at *
    have HCS := hiq hcs
    clear hcs
    go_wp2_with fail
    generalize World.alloc (World.alloc _ _) _ = W1 at *
    obtain ⟨X, Wf, hX, hS1, hS2⟩ := family (fun W => Below W1.heap.size W1 W) W1 (Below.refl _ _)
    have HS2 := hiq hS2
    have q := fun x => HCS.out _ (hS1 x)
    clear hS1 hS2 HCS
    have hc0 : Below W1.heap.size W1 W1.drew := (Below.refl _ _).drew
    refine wp_region_reads (Wf := Wf) N ks acts (by kernel_rfl) (by rw [hN, hks, hacts]; kernel_rfl) (fun _ _ d _ _ h => by cases d <;> exact h) (HS2.out _ hc0) ?_
    dsimp only [LT.N, LT.ks, LT.acts] at hN hks hacts
    subst hN hks hacts
    simp only [pickOps, List.filterMap_cons, List.filterMap_nil, List.getElem?_cons_zero, List.getElem?_cons_succ]
    repeat (refine wpReads_step (fun K hK => ?_); unfold rOp; go_simp; (refine hK _ ?_; clear hK K))
    clear q
    refine wpReads_nil (wpActs_cons ?_)
    have A0 := hiq (WAcc.init hc0)
    clear hc0
    repeat
      obtain ⟨hcall, HC⟩ := HC
      go_wp2_with fail
      refine (hcall _ A0.out.below).mono ?_
      intro e V hk
      obtain ⟨⟨k, n, t, a, c, l⟩, he, A1⟩ := A0.out.step hk
      change e = .returned (.agg #[.int .i64 k, .int .i64 n, .string t, .slice a l.length c]) at he
      subst he
      clear A0 hcall hk
      have A0 := hiq A1
      clear A1
      go_wp2_with fail
      refine ⟨HS2.out _ A0.out.below, wpActs_cons ?_⟩
    obtain ⟨hcL, hFL⟩ := HA.out _ _ A0.out (by simp)
    simp only [List.nil_append, List.cons_append, List.append_nil, flat, List.flatMap_cons, List.flatMap_nil, Vl.cells, Vl.kind, Vl.num, Vl.text, Vl.sl, Vl.addr, Vl.items, Vl.cap, List.length_cons, List.length_nil, Nat.reduceAdd, Nat.zero_add, lstF] at hcL hFL
    have FL := hiq hFL
    clear HA A0 hFL HC
    go_wp2_with fail
    refine ⟨HS2.out _ hcL, wpActs_cons ?_⟩
    go_wp2_with fail
    refine FL.out.mono ?_
    rintro e VL ⟨al, cl, m, WF, rfl, hcZ, z0, z1, z2, z3, zf, hWF, hzz, hP⟩
    have HWF := hiq hWF
    have HZZ := hiq hzz
    have HP := hiq hP
    have HCZ := hiq hcZ
    clear hWF hzz hP FL hcL hcZ
    go_wp2_with fail
    refine ⟨HS2.out _ HCZ.out, wpActs_nil ?_⟩
    go_wp2
    have hww : WF = put4 VL (w.heap.size + 1) (.int .i64 3) (.int .i64 0) (.string ⟨#[]⟩) (.slice al m cl) := HWF.out
    change bodyPost _ _ _ _ _ (put4 VL (w.heap.size + 1) (.int .i64 3) (.int .i64 0) (.string ⟨#[]⟩) (.slice al m cl))
    rw [<- hww]
    have hzz := HZZ.out
    simp only [CellsAt, Nat.zero_add, Nat.reduceAdd, and_true] at hzz
    refine bodyPost_ret ?_ rfl HP.out
    simp [results, Tryz.results136, Tryz.results140, Tryz.results100, Tryz.results105, Tryz.results107, Tryz.results110, Tryz.results103, go_sem, hzz]
end Go.Proofs.YtlbcmeebcfalpaaGreatDoor
namespace Go.Proofs.YtlbcmeebcfalpaaGreatDoor
open Go.RowKit

@[reducible] def LT.isWA0 : LT -> Bool | op => true | dec => true | rew => true | grp => true | pat => true | sec => true | rul => true | _ => false
theorem wrA0_st (T : LT) (hL : T.isWA0 = true) (S : Nat -> Prop) (w : World) (l : List Dv) (hh : Has T.ty (.struc l)) (hr : RdD S w (.struc l)) (hS : ∀ b, S b -> b < w.heap.size)
    (hc : ∀ W1, Below w.heap.size w W1 -> AllC W1 l (T.fc false)) : Calls Tryz.prog (T.wf false) #[(Dv.struc l).val] w (NewV (Dv.struc l).toV w) := by
  have hb1 : Below w.heap.size w ((w.alloc (.cells (Dv.cellsL l).toArray T.tid)).alloc (.cells #[.int .i64 0, .int .i64 0, .string ⟨#[]⟩, .slice none 0 0] 24)) := ((Below.refl _ _).alloc (Nat.le_refl _) _).alloc (by simp) _
  have hs1 : ((w.alloc (.cells (Dv.cellsL l).toArray T.tid)).alloc (.cells #[.int .i64 0, .int .i64 0, .string ⟨#[]⟩, .slice none 0 0] 24)).heap.size = w.heap.size + 2 := by simp
  have hbx : ((w.alloc (.cells (Dv.cellsL l).toArray T.tid)).alloc (.cells #[.int .i64 0, .int .i64 0, .string ⟨#[]⟩, .slice none 0 0] 24)).heap[w.heap.size + 1]? = some (.cells #[.int .i64 0, .int .i64 0, .string ⟨#[]⟩, .slice none 0 0] 24 (0, 0)) := by
    have := World.alloc_heap_new (w.alloc (.cells (Dv.cellsL l).toArray T.tid)) (.cells #[.int .i64 0, .int .i64 0, .string ⟨#[]⟩, .slice none 0 0] 24)
    simpa using this
  have hcs : ∀ V, Below ((w.alloc (.cells (Dv.cellsL l).toArray T.tid)).alloc (.cells #[.int .i64 0, .int .i64 0, .string ⟨#[]⟩, .slice none 0 0] 24)).heap.size ((w.alloc (.cells (Dv.cellsL l).toArray T.tid)).alloc (.cells #[.int .i64 0, .int .i64 0, .string ⟨#[]⟩, .slice none 0 0] 24)) V -> CellsAt V w.heap.size 0 (Dv.cellsL l) := fun V hV =>
    all_cells (alloc_heap_some (World.alloc_heap_new w (.cells (Dv.cellsL l).toArray T.tid))) hV
  have HC := hiq (hc _ hb1)
  have hi := T.inv hh
  have HA : Hid (∀ V vs, WAcc ((w.alloc (.cells (Dv.cellsL l).toArray T.tid)).alloc (.cells #[.int .i64 0, .int .i64 0, .string ⟨#[]⟩, .slice none 0 0] 24)) V vs l -> vs.length <= 1000 -> _) := fun V vs h hm => h.fin (σ := false) hm hb1 hs1 hbx
  have hV : (Dv.struc l).toV = .mk 3 0 ⟨#[]⟩ (Dv.toVL l) := by rw [Dv.toV]
  rw [hV]
  obtain ⟨N, hN⟩ : ∃ N, N = T.N false := ⟨_, rfl⟩
  obtain ⟨ks, hks⟩ : ∃ ks, ks = T.ks false := ⟨_, rfl⟩
  obtain ⟨acts, hacts⟩ : ∃ acts, acts = T.acts false := ⟨_, rfl⟩
  clear hc hh hr hS hb1 hs1 hbx hV
  cases T
  case' op => go_enter Tryz.func213, Tryz.ntmps213
  case' dec => go_enter Tryz.func215, Tryz.ntmps215
  case' rew => go_enter Tryz.func207, Tryz.ntmps207
  case' grp => go_enter Tryz.func209, Tryz.ntmps209
  case' pat => go_enter Tryz.func210, Tryz.ntmps210
  case' sec => go_enter Tryz.func211, Tryz.ntmps211
  case' rul => go_enter Tryz.func208, Tryz.ntmps208
  case wit => cases hL
  case nod => cases hL
  case exp => cases hL
  case cst => cases hL
  case sty => cases hL
  case edi => cases hL
  case int => cases hL
  case bool => cases hL
  case text => cases hL
  case pos => cases hL
  case tok => cases hL
  case inp => cases hL
  case toks => cases hL
  all_goals
    dsimp only [LT.Inv] at hi
    repeat (rcases (hi : ∃ _, _) with ⟨_, hi⟩)
    injection hi with hi
    subst hi
    simp only [Dv.val, Dv.cells, Dv.cellsL, List.cons_append, List.nil_append, List.append_nil, CellsAt, Nat.zero_add, Nat.reduceAdd, and_true, LT.tid, LT.fc, AllC] at *
    have HCS := hiq hcs
    clear hcs
    go_wp2_with fail
    generalize World.alloc (World.alloc _ _) _ = W1 at *
    obtain ⟨X, Wf, hX, hS1, hS2⟩ := family (fun W => Below W1.heap.size W1 W) W1 (Below.refl _ _)
    have HS2 := hiq hS2
    have q := fun x => HCS.out _ (hS1 x)
    clear hS1 hS2 HCS
    have hc0 : Below W1.heap.size W1 W1.drew := (Below.refl _ _).drew
    refine wp_region_reads (Wf := Wf) N ks acts (by kernel_rfl) (by rw [hN, hks, hacts]; kernel_rfl) (fun _ _ d _ _ h => by cases d <;> exact h) (HS2.out _ hc0) ?_
    dsimp only [LT.N, LT.ks, LT.acts] at hN hks hacts
    subst hN hks hacts
    simp only [pickOps, List.filterMap_cons, List.filterMap_nil, List.getElem?_cons_zero, List.getElem?_cons_succ]
    repeat (refine wpReads_step (fun K hK => ?_); unfold rOp; go_simp; (refine hK _ ?_; clear hK K))
    clear q
    refine wpReads_nil (wpActs_cons ?_)
    have A0 := hiq (WAcc.init hc0)
    clear hc0
    repeat
      obtain ⟨hcall, HC⟩ := HC
      go_wp2_with fail
      refine (hcall _ A0.out.below).mono ?_
      intro e V hk
      obtain ⟨⟨k, n, t, a, c, l⟩, he, A1⟩ := A0.out.step hk
      change e = .returned (.agg #[.int .i64 k, .int .i64 n, .string t, .slice a l.length c]) at he
      subst he
      clear A0 hcall hk
      have A0 := hiq A1
      clear A1
      go_wp2_with fail
      refine ⟨HS2.out _ A0.out.below, wpActs_cons ?_⟩
    obtain ⟨hcL, hFL⟩ := HA.out _ _ A0.out (by simp)
    simp only [List.nil_append, List.cons_append, List.append_nil, flat, List.flatMap_cons, List.flatMap_nil, Vl.cells, Vl.kind, Vl.num, Vl.text, Vl.sl, Vl.addr, Vl.items, Vl.cap, List.length_cons, List.length_nil, Nat.reduceAdd, Nat.zero_add, lstF] at hcL hFL
    have FL := hiq hFL
    clear HA A0 hFL HC
    go_wp2_with fail
    refine ⟨HS2.out _ hcL, wpActs_cons ?_⟩
    go_wp2_with fail
    refine FL.out.mono ?_
    rintro e VL ⟨al, cl, m, WF, rfl, hcZ, z0, z1, z2, z3, zf, hWF, hzz, hP⟩
    have HWF := hiq hWF
    have HZZ := hiq hzz
    have HP := hiq hP
    have HCZ := hiq hcZ
    clear hWF hzz hP FL hcL hcZ
    go_wp2_with fail
    refine ⟨HS2.out _ HCZ.out, wpActs_nil ?_⟩
    go_wp2
    have hww : WF = put4 VL (w.heap.size + 1) (.int .i64 3) (.int .i64 0) (.string ⟨#[]⟩) (.slice al m cl) := HWF.out
    change bodyPost _ _ _ _ _ (put4 VL (w.heap.size + 1) (.int .i64 3) (.int .i64 0) (.string ⟨#[]⟩) (.slice al m cl))
    rw [<- hww]
    have hzz := HZZ.out
    simp only [CellsAt, Nat.zero_add, Nat.reduceAdd, and_true] at hzz
    refine bodyPost_ret ?_ rfl HP.out
    simp [results, Tryz.results213, Tryz.results215, Tryz.results207, Tryz.results209, Tryz.results210, Tryz.results211, Tryz.results208, go_sem, hzz]
end Go.Proofs.YtlbcmeebcfalpaaGreatDoor
namespace Go.Proofs.YtlbcmeebcfalpaaGreatDoor
open Go.RowKit

@[reducible] def LT.isWB1 : LT -> Bool | wit => true | nod => true | exp => true | cst => true | pos => true | tok => true | _ => false
theorem wrB1_st (T : LT) (hL : T.isWB1 = true) (S : Nat -> Prop) (w : World) (l : List Dv) (hh : Has T.ty (.struc l)) (hr : RdD S w (.struc l)) (hS : ∀ b, S b -> b < w.heap.size)
    (hc : ∀ W1, Below w.heap.size w W1 -> AllC W1 l (T.fc true)) : Calls Tryz.prog (T.wf true) #[(Dv.struc l).val] w (NewV (Dv.struc l).toV w) := by
  have hb1 : Below w.heap.size w ((w.alloc (.cells (Dv.cellsL l).toArray T.tid)).alloc (.cells #[.int .i64 0, .int .i64 0, .string ⟨#[]⟩, .slice none 0 0] 24)) := ((Below.refl _ _).alloc (Nat.le_refl _) _).alloc (by simp) _
  have hs1 : ((w.alloc (.cells (Dv.cellsL l).toArray T.tid)).alloc (.cells #[.int .i64 0, .int .i64 0, .string ⟨#[]⟩, .slice none 0 0] 24)).heap.size = w.heap.size + 2 := by simp
  have hbx : ((w.alloc (.cells (Dv.cellsL l).toArray T.tid)).alloc (.cells #[.int .i64 0, .int .i64 0, .string ⟨#[]⟩, .slice none 0 0] 24)).heap[w.heap.size + 1]? = some (.cells #[.int .i64 0, .int .i64 0, .string ⟨#[]⟩, .slice none 0 0] 24 (0, 0)) := by
    have := World.alloc_heap_new (w.alloc (.cells (Dv.cellsL l).toArray T.tid)) (.cells #[.int .i64 0, .int .i64 0, .string ⟨#[]⟩, .slice none 0 0] 24)
    simpa using this
  have hcs : ∀ V, Below ((w.alloc (.cells (Dv.cellsL l).toArray T.tid)).alloc (.cells #[.int .i64 0, .int .i64 0, .string ⟨#[]⟩, .slice none 0 0] 24)).heap.size ((w.alloc (.cells (Dv.cellsL l).toArray T.tid)).alloc (.cells #[.int .i64 0, .int .i64 0, .string ⟨#[]⟩, .slice none 0 0] 24)) V -> CellsAt V w.heap.size 0 (Dv.cellsL l) := fun V hV =>
    all_cells (alloc_heap_some (World.alloc_heap_new w (.cells (Dv.cellsL l).toArray T.tid))) hV
  have HC := hiq (hc _ hb1)
  have hi := T.inv hh
  have HA : Hid (∀ V vs, WAcc ((w.alloc (.cells (Dv.cellsL l).toArray T.tid)).alloc (.cells #[.int .i64 0, .int .i64 0, .string ⟨#[]⟩, .slice none 0 0] 24)) V vs l -> vs.length <= 1000 -> _) := fun V vs h hm => h.fin (σ := true) hm hb1 hs1 hbx
  have hV : (Dv.struc l).toV = .mk 3 0 ⟨#[]⟩ (Dv.toVL l) := by rw [Dv.toV]
  rw [hV]
  obtain ⟨N, hN⟩ : ∃ N, N = T.N true := ⟨_, rfl⟩
  obtain ⟨ks, hks⟩ : ∃ ks, ks = T.ks true := ⟨_, rfl⟩
  obtain ⟨acts, hacts⟩ : ∃ acts, acts = T.acts true := ⟨_, rfl⟩
  clear hc hh hr hS hb1 hs1 hbx hV
  cases T
  case' wit => go_enter Tryz.func98, Tryz.ntmps98
  case' nod => go_enter Tryz.func203, Tryz.ntmps203
  case' exp => go_enter Tryz.func204, Tryz.ntmps204
  case' cst => go_enter Tryz.func101, Tryz.ntmps101
  case' pos => go_enter Tryz.func216, Tryz.ntmps216
  case' tok => go_enter Tryz.func132, Tryz.ntmps132
  case op => cases hL
  case dec => cases hL
  case rew => cases hL
  case grp => cases hL
  case pat => cases hL
  case sec => cases hL
  case rul => cases hL
  case sty => cases hL
  case edi => cases hL
  case int => cases hL
  case bool => cases hL
  case text => cases hL
  case inp => cases hL
  case toks => cases hL
  all_goals
    dsimp only [LT.Inv] at hi
    repeat (rcases (hi : ∃ _, _) with ⟨_, hi⟩)
    injection hi with hi
    subst hi
    simp only [Dv.val, Dv.cells, Dv.cellsL, List.cons_append, List.nil_append, List.append_nil, CellsAt, Nat.zero_add, Nat.reduceAdd, and_true, LT.tid, LT.fc, AllC] at *
    have HCS := hiq hcs
    clear hcs
    go_wp2_with fail
    generalize World.alloc (World.alloc _ _) _ = W1 at *
    obtain ⟨X, Wf, hX, hS1, hS2⟩ := family (fun W => Below W1.heap.size W1 W) W1 (Below.refl _ _)
    have HS2 := hiq hS2
    have q := fun x => HCS.out _ (hS1 x)
    clear hS1 hS2 HCS
    have hc0 : Below W1.heap.size W1 W1.drew := (Below.refl _ _).drew
    refine wp_region_reads (Wf := Wf) N ks acts (by kernel_rfl) (by rw [hN, hks, hacts]; kernel_rfl) (fun _ _ d _ _ h => by cases d <;> exact h) (HS2.out _ hc0) ?_
    dsimp only [LT.N, LT.ks, LT.acts] at hN hks hacts
    subst hN hks hacts
    simp only [pickOps, List.filterMap_cons, List.filterMap_nil, List.getElem?_cons_zero, List.getElem?_cons_succ]
    repeat (refine wpReads_step (fun K hK => ?_); unfold rOp; go_simp; (refine hK _ ?_; clear hK K))
    clear q
    refine wpReads_nil (wpActs_cons ?_)
    have A0 := hiq (WAcc.init hc0)
    clear hc0
    repeat
      obtain ⟨hcall, HC⟩ := HC
      go_wp2_with fail
      refine (hcall _ A0.out.below).mono ?_
      intro e V hk
      obtain ⟨⟨k, n, t, a, c, l⟩, he, A1⟩ := A0.out.step hk
      change e = .returned (.agg #[.int .i64 k, .int .i64 n, .string t, .slice a l.length c]) at he
      subst he
      clear A0 hcall hk
      have A0 := hiq A1
      clear A1
      go_wp2_with fail
      refine ⟨HS2.out _ A0.out.below, wpActs_cons ?_⟩
    obtain ⟨hcL, hFL⟩ := HA.out _ _ A0.out (by simp)
    simp only [List.nil_append, List.cons_append, List.append_nil, flat, List.flatMap_cons, List.flatMap_nil, Vl.cells, Vl.kind, Vl.num, Vl.text, Vl.sl, Vl.addr, Vl.items, Vl.cap, List.length_cons, List.length_nil, Nat.reduceAdd, Nat.zero_add, lstF] at hcL hFL
    have FL := hiq hFL
    clear HA A0 hFL HC
    go_wp2_with fail
    refine ⟨HS2.out _ hcL, wpActs_cons ?_⟩
    go_wp2_with fail
    refine FL.out.mono ?_
    rintro e VL ⟨al, cl, m, WF, rfl, hcZ, z0, z1, z2, z3, zf, hWF, hzz, hP⟩
    have HWF := hiq hWF
    have HZZ := hiq hzz
    have HP := hiq hP
    have HCZ := hiq hcZ
    clear hWF hzz hP FL hcL hcZ
    go_wp2_with fail
    refine ⟨HS2.out _ HCZ.out, wpActs_nil ?_⟩
    go_wp2
    have hww : WF = put4 VL (w.heap.size + 1) (.int .i64 3) (.int .i64 0) (.string ⟨#[]⟩) (.slice al m cl) := HWF.out
    change bodyPost _ _ _ _ _ (put4 VL (w.heap.size + 1) (.int .i64 3) (.int .i64 0) (.string ⟨#[]⟩) (.slice al m cl))
    rw [<- hww]
    have hzz := HZZ.out
    simp only [CellsAt, Nat.zero_add, Nat.reduceAdd, and_true] at hzz
    refine bodyPost_ret ?_ rfl HP.out
    simp [results, Tryz.results98, Tryz.results203, Tryz.results204, Tryz.results101, Tryz.results216, Tryz.results132, go_sem, hzz]
end Go.Proofs.YtlbcmeebcfalpaaGreatDoor
namespace Go.Proofs.YtlbcmeebcfalpaaGreatDoor
open Go.RowKit

@[reducible] def LT.isWB0 : LT -> Bool | wit => true | nod => true | exp => true | cst => true | pos => true | tok => true | _ => false
theorem wrB0_st (T : LT) (hL : T.isWB0 = true) (S : Nat -> Prop) (w : World) (l : List Dv) (hh : Has T.ty (.struc l)) (hr : RdD S w (.struc l)) (hS : ∀ b, S b -> b < w.heap.size)
    (hc : ∀ W1, Below w.heap.size w W1 -> AllC W1 l (T.fc false)) : Calls Tryz.prog (T.wf false) #[(Dv.struc l).val] w (NewV (Dv.struc l).toV w) := by
  have hb1 : Below w.heap.size w ((w.alloc (.cells (Dv.cellsL l).toArray T.tid)).alloc (.cells #[.int .i64 0, .int .i64 0, .string ⟨#[]⟩, .slice none 0 0] 24)) := ((Below.refl _ _).alloc (Nat.le_refl _) _).alloc (by simp) _
  have hs1 : ((w.alloc (.cells (Dv.cellsL l).toArray T.tid)).alloc (.cells #[.int .i64 0, .int .i64 0, .string ⟨#[]⟩, .slice none 0 0] 24)).heap.size = w.heap.size + 2 := by simp
  have hbx : ((w.alloc (.cells (Dv.cellsL l).toArray T.tid)).alloc (.cells #[.int .i64 0, .int .i64 0, .string ⟨#[]⟩, .slice none 0 0] 24)).heap[w.heap.size + 1]? = some (.cells #[.int .i64 0, .int .i64 0, .string ⟨#[]⟩, .slice none 0 0] 24 (0, 0)) := by
    have := World.alloc_heap_new (w.alloc (.cells (Dv.cellsL l).toArray T.tid)) (.cells #[.int .i64 0, .int .i64 0, .string ⟨#[]⟩, .slice none 0 0] 24)
    simpa using this
  have hcs : ∀ V, Below ((w.alloc (.cells (Dv.cellsL l).toArray T.tid)).alloc (.cells #[.int .i64 0, .int .i64 0, .string ⟨#[]⟩, .slice none 0 0] 24)).heap.size ((w.alloc (.cells (Dv.cellsL l).toArray T.tid)).alloc (.cells #[.int .i64 0, .int .i64 0, .string ⟨#[]⟩, .slice none 0 0] 24)) V -> CellsAt V w.heap.size 0 (Dv.cellsL l) := fun V hV =>
    all_cells (alloc_heap_some (World.alloc_heap_new w (.cells (Dv.cellsL l).toArray T.tid))) hV
  have HC := hiq (hc _ hb1)
  have hi := T.inv hh
  have HA : Hid (∀ V vs, WAcc ((w.alloc (.cells (Dv.cellsL l).toArray T.tid)).alloc (.cells #[.int .i64 0, .int .i64 0, .string ⟨#[]⟩, .slice none 0 0] 24)) V vs l -> vs.length <= 1000 -> _) := fun V vs h hm => h.fin (σ := false) hm hb1 hs1 hbx
  have hV : (Dv.struc l).toV = .mk 3 0 ⟨#[]⟩ (Dv.toVL l) := by rw [Dv.toV]
  rw [hV]
  obtain ⟨N, hN⟩ : ∃ N, N = T.N false := ⟨_, rfl⟩
  obtain ⟨ks, hks⟩ : ∃ ks, ks = T.ks false := ⟨_, rfl⟩
  obtain ⟨acts, hacts⟩ : ∃ acts, acts = T.acts false := ⟨_, rfl⟩
  clear hc hh hr hS hb1 hs1 hbx hV
  cases T
  case' wit => go_enter Tryz.func206, Tryz.ntmps206
  case' nod => go_enter Tryz.func261, Tryz.ntmps261
  case' exp => go_enter Tryz.func245, Tryz.ntmps245
  case' cst => go_enter Tryz.func116, Tryz.ntmps116
  case' pos => go_enter Tryz.func263, Tryz.ntmps263
  case' tok => go_enter Tryz.func247, Tryz.ntmps247
  case op => cases hL
  case dec => cases hL
  case rew => cases hL
  case grp => cases hL
  case pat => cases hL
  case sec => cases hL
  case rul => cases hL
  case sty => cases hL
  case edi => cases hL
  case int => cases hL
  case bool => cases hL
  case text => cases hL
  case inp => cases hL
  case toks => cases hL
  all_goals
    dsimp only [LT.Inv] at hi
    repeat (rcases (hi : ∃ _, _) with ⟨_, hi⟩)
    injection hi with hi
    subst hi
    simp only [Dv.val, Dv.cells, Dv.cellsL, List.cons_append, List.nil_append, List.append_nil, CellsAt, Nat.zero_add, Nat.reduceAdd, and_true, LT.tid, LT.fc, AllC] at *
    have HCS := hiq hcs
    clear hcs
    go_wp2_with fail
    generalize World.alloc (World.alloc _ _) _ = W1 at *
    obtain ⟨X, Wf, hX, hS1, hS2⟩ := family (fun W => Below W1.heap.size W1 W) W1 (Below.refl _ _)
    have HS2 := hiq hS2
    have q := fun x => HCS.out _ (hS1 x)
    clear hS1 hS2 HCS
    have hc0 : Below W1.heap.size W1 W1.drew := (Below.refl _ _).drew
    refine wp_region_reads (Wf := Wf) N ks acts (by kernel_rfl) (by rw [hN, hks, hacts]; kernel_rfl) (fun _ _ d _ _ h => by cases d <;> exact h) (HS2.out _ hc0) ?_
    dsimp only [LT.N, LT.ks, LT.acts] at hN hks hacts
    subst hN hks hacts
    simp only [pickOps, List.filterMap_cons, List.filterMap_nil, List.getElem?_cons_zero, List.getElem?_cons_succ]
    repeat (refine wpReads_step (fun K hK => ?_); unfold rOp; go_simp; (refine hK _ ?_; clear hK K))
    clear q
    refine wpReads_nil (wpActs_cons ?_)
    have A0 := hiq (WAcc.init hc0)
    clear hc0
    repeat
      obtain ⟨hcall, HC⟩ := HC
      go_wp2_with fail
      refine (hcall _ A0.out.below).mono ?_
      intro e V hk
      obtain ⟨⟨k, n, t, a, c, l⟩, he, A1⟩ := A0.out.step hk
      change e = .returned (.agg #[.int .i64 k, .int .i64 n, .string t, .slice a l.length c]) at he
      subst he
      clear A0 hcall hk
      have A0 := hiq A1
      clear A1
      go_wp2_with fail
      refine ⟨HS2.out _ A0.out.below, wpActs_cons ?_⟩
    obtain ⟨hcL, hFL⟩ := HA.out _ _ A0.out (by simp)
    simp only [List.nil_append, List.cons_append, List.append_nil, flat, List.flatMap_cons, List.flatMap_nil, Vl.cells, Vl.kind, Vl.num, Vl.text, Vl.sl, Vl.addr, Vl.items, Vl.cap, List.length_cons, List.length_nil, Nat.reduceAdd, Nat.zero_add, lstF] at hcL hFL
    have FL := hiq hFL
    clear HA A0 hFL HC
    go_wp2_with fail
    refine ⟨HS2.out _ hcL, wpActs_cons ?_⟩
    go_wp2_with fail
    refine FL.out.mono ?_
    rintro e VL ⟨al, cl, m, WF, rfl, hcZ, z0, z1, z2, z3, zf, hWF, hzz, hP⟩
    have HWF := hiq hWF
    have HZZ := hiq hzz
    have HP := hiq hP
    have HCZ := hiq hcZ
    clear hWF hzz hP FL hcL hcZ
    go_wp2_with fail
    refine ⟨HS2.out _ HCZ.out, wpActs_nil ?_⟩
    go_wp2
    have hww : WF = put4 VL (w.heap.size + 1) (.int .i64 3) (.int .i64 0) (.string ⟨#[]⟩) (.slice al m cl) := HWF.out
    change bodyPost _ _ _ _ _ (put4 VL (w.heap.size + 1) (.int .i64 3) (.int .i64 0) (.string ⟨#[]⟩) (.slice al m cl))
    rw [<- hww]
    have hzz := HZZ.out
    simp only [CellsAt, Nat.zero_add, Nat.reduceAdd, and_true] at hzz
    refine bodyPost_ret ?_ rfl HP.out
    simp [results, Tryz.results206, Tryz.results261, Tryz.results245, Tryz.results116, Tryz.results263, Tryz.results247, go_sem, hzz]
end Go.Proofs.YtlbcmeebcfalpaaGreatDoor
namespace Go.Proofs.YtlbcmeebcfalpaaGreatDoor
open Go.RowKit

@[reducible] def LT.isWC1 : LT -> Bool | edi => true | inp => true | _ => false
theorem wrC1_st (T : LT) (hL : T.isWC1 = true) (S : Nat -> Prop) (w : World) (l : List Dv) (hh : Has T.ty (.struc l)) (hr : RdD S w (.struc l)) (hS : ∀ b, S b -> b < w.heap.size)
    (hc : ∀ W1, Below w.heap.size w W1 -> AllC W1 l (T.fc true)) : Calls Tryz.prog (T.wf true) #[(Dv.struc l).val] w (NewV (Dv.struc l).toV w) := by
  have hb1 : Below w.heap.size w ((w.alloc (.cells (Dv.cellsL l).toArray T.tid)).alloc (.cells #[.int .i64 0, .int .i64 0, .string ⟨#[]⟩, .slice none 0 0] 24)) := ((Below.refl _ _).alloc (Nat.le_refl _) _).alloc (by simp) _
  have hs1 : ((w.alloc (.cells (Dv.cellsL l).toArray T.tid)).alloc (.cells #[.int .i64 0, .int .i64 0, .string ⟨#[]⟩, .slice none 0 0] 24)).heap.size = w.heap.size + 2 := by simp
  have hbx : ((w.alloc (.cells (Dv.cellsL l).toArray T.tid)).alloc (.cells #[.int .i64 0, .int .i64 0, .string ⟨#[]⟩, .slice none 0 0] 24)).heap[w.heap.size + 1]? = some (.cells #[.int .i64 0, .int .i64 0, .string ⟨#[]⟩, .slice none 0 0] 24 (0, 0)) := by
    have := World.alloc_heap_new (w.alloc (.cells (Dv.cellsL l).toArray T.tid)) (.cells #[.int .i64 0, .int .i64 0, .string ⟨#[]⟩, .slice none 0 0] 24)
    simpa using this
  have hcs : ∀ V, Below ((w.alloc (.cells (Dv.cellsL l).toArray T.tid)).alloc (.cells #[.int .i64 0, .int .i64 0, .string ⟨#[]⟩, .slice none 0 0] 24)).heap.size ((w.alloc (.cells (Dv.cellsL l).toArray T.tid)).alloc (.cells #[.int .i64 0, .int .i64 0, .string ⟨#[]⟩, .slice none 0 0] 24)) V -> CellsAt V w.heap.size 0 (Dv.cellsL l) := fun V hV =>
    all_cells (alloc_heap_some (World.alloc_heap_new w (.cells (Dv.cellsL l).toArray T.tid))) hV
  have HC := hiq (hc _ hb1)
  have hi := T.inv hh
  have HA : Hid (∀ V vs, WAcc ((w.alloc (.cells (Dv.cellsL l).toArray T.tid)).alloc (.cells #[.int .i64 0, .int .i64 0, .string ⟨#[]⟩, .slice none 0 0] 24)) V vs l -> vs.length <= 1000 -> _) := fun V vs h hm => h.fin (σ := true) hm hb1 hs1 hbx
  have hV : (Dv.struc l).toV = .mk 3 0 ⟨#[]⟩ (Dv.toVL l) := by rw [Dv.toV]
  rw [hV]
  obtain ⟨N, hN⟩ : ∃ N, N = T.N true := ⟨_, rfl⟩
  obtain ⟨ks, hks⟩ : ∃ ks, ks = T.ks true := ⟨_, rfl⟩
  obtain ⟨acts, hacts⟩ : ∃ acts, acts = T.acts true := ⟨_, rfl⟩
  clear hc hh hr hS hb1 hs1 hbx hV
  cases T
  case' edi => go_enter Tryz.func38, Tryz.ntmps38
  case' inp => go_enter Tryz.func46, Tryz.ntmps46
  case op => cases hL
  case dec => cases hL
  case rew => cases hL
  case grp => cases hL
  case pat => cases hL
  case sec => cases hL
  case rul => cases hL
  case wit => cases hL
  case nod => cases hL
  case exp => cases hL
  case cst => cases hL
  case sty => cases hL
  case int => cases hL
  case bool => cases hL
  case text => cases hL
  case pos => cases hL
  case tok => cases hL
  case toks => cases hL
  all_goals
    dsimp only [LT.Inv] at hi
    repeat (rcases (hi : ∃ _, _) with ⟨_, hi⟩)
    injection hi with hi
    subst hi
    simp only [Dv.val, Dv.cells, Dv.cellsL, List.cons_append, List.nil_append, List.append_nil, CellsAt, Nat.zero_add, Nat.reduceAdd, and_true, LT.tid, LT.fc, AllC] at *
    have HCS := hiq hcs
    clear hcs
    go_wp2_with fail
    generalize World.alloc (World.alloc _ _) _ = W1 at *
    obtain ⟨X, Wf, hX, hS1, hS2⟩ := family (fun W => Below W1.heap.size W1 W) W1 (Below.refl _ _)
    have HS2 := hiq hS2
    have q := fun x => HCS.out _ (hS1 x)
    clear hS1 hS2 HCS
    have hc0 : Below W1.heap.size W1 W1.drew := (Below.refl _ _).drew
    refine wp_region_reads (Wf := Wf) N ks acts (by kernel_rfl) (by rw [hN, hks, hacts]; kernel_rfl) (fun _ _ d _ _ h => by cases d <;> exact h) (HS2.out _ hc0) ?_
    dsimp only [LT.N, LT.ks, LT.acts] at hN hks hacts
    subst hN hks hacts
    simp only [pickOps, List.filterMap_cons, List.filterMap_nil, List.getElem?_cons_zero, List.getElem?_cons_succ]
    repeat (refine wpReads_step (fun K hK => ?_); unfold rOp; go_simp; (refine hK _ ?_; clear hK K))
    clear q
    refine wpReads_nil (wpActs_cons ?_)
    have A0 := hiq (WAcc.init hc0)
    clear hc0
    repeat
      obtain ⟨hcall, HC⟩ := HC
      go_wp2_with fail
      refine (hcall _ A0.out.below).mono ?_
      intro e V hk
      obtain ⟨⟨k, n, t, a, c, l⟩, he, A1⟩ := A0.out.step hk
      change e = .returned (.agg #[.int .i64 k, .int .i64 n, .string t, .slice a l.length c]) at he
      subst he
      clear A0 hcall hk
      have A0 := hiq A1
      clear A1
      go_wp2_with fail
      refine ⟨HS2.out _ A0.out.below, wpActs_cons ?_⟩
    obtain ⟨hcL, hFL⟩ := HA.out _ _ A0.out (by simp)
    simp only [List.nil_append, List.cons_append, List.append_nil, flat, List.flatMap_cons, List.flatMap_nil, Vl.cells, Vl.kind, Vl.num, Vl.text, Vl.sl, Vl.addr, Vl.items, Vl.cap, List.length_cons, List.length_nil, Nat.reduceAdd, Nat.zero_add, lstF] at hcL hFL
    have FL := hiq hFL
    clear HA A0 hFL HC
    go_wp2_with fail
    refine ⟨HS2.out _ hcL, wpActs_cons ?_⟩
    go_wp2_with fail
    refine FL.out.mono ?_
    rintro e VL ⟨al, cl, m, WF, rfl, hcZ, z0, z1, z2, z3, zf, hWF, hzz, hP⟩
    have HWF := hiq hWF
    have HZZ := hiq hzz
    have HP := hiq hP
    have HCZ := hiq hcZ
    clear hWF hzz hP FL hcL hcZ
    go_wp2_with fail
    refine ⟨HS2.out _ HCZ.out, wpActs_nil ?_⟩
    go_wp2
    have hww : WF = put4 VL (w.heap.size + 1) (.int .i64 3) (.int .i64 0) (.string ⟨#[]⟩) (.slice al m cl) := HWF.out
    change bodyPost _ _ _ _ _ (put4 VL (w.heap.size + 1) (.int .i64 3) (.int .i64 0) (.string ⟨#[]⟩) (.slice al m cl))
    rw [<- hww]
    have hzz := HZZ.out
    simp only [CellsAt, Nat.zero_add, Nat.reduceAdd, and_true] at hzz
    refine bodyPost_ret ?_ rfl HP.out
    simp [results, Tryz.results38, Tryz.results46, go_sem, hzz]
end Go.Proofs.YtlbcmeebcfalpaaGreatDoor
