/- editop.Inverse. -/
import Derived.Test.YtbdgmgddliploaaGreatDoorECom
import Derived.Test.YtbdgmgddliploaaGreatDoorEAlp
import Derived.Test.YtbdgmgddliploaaGreatDoorETree
set_option linter.unusedVariables false
set_option linter.unusedSimpArgs false
namespace Go.Proofs.YtbdgmgddliploaaGreatDoor
open Go.RowKit Go.Shelf
attribute [local go_sem] Oper.semAt_some

/-- No panic behind it. -/
def noPanic (Q : Exit → Act → World → Prop) : Exit → Act → World → Prop
  | .panic _, _, _ => False
  | e, a, w => Q e a w
@[go_sem] theorem noPanic_normal (Q : Exit → Act → World → Prop) (a : Act) (w : World) : noPanic Q .normal a w = Q .normal a w := rfl
theorem wp_region_treeN {P : Program} {X : Type} {Wf : X → World} {Q : Exit → Act → World → Prop} {id : Nat} {a : Act} {w : World} {l : List Oper} (n : Nat) (t : Tree) (hm : P.follows .mixedOrders = true) (hB : treeFormB l n t = true) (hS : ∃ x, w.drew = Wf x)
    (h : wpTree P l (noPanic Q) Wf (wpList P l.toArray (noPanic Q) (l.drop n)) t a w.drew) : (Code.region id l.toArray true).wp P Q a w :=
  Code.wp_mono (fun e a w h => by cases e <;> first | exact h | exact h.elim) (wp_region_tree n t hm hB (fun _ _ _ _ _ h => h.elim) hS h)
theorem keepsFrom_set {B : Nat} {W W1 : World} (h : KeepsFrom B W W1) {b j : Nat} (hb : b < B) (v : Value) : KeepsFrom B W (W1.setCell ⟨b, j, none⟩ v) :=
  ⟨by simp [World.setCell]; exact h.1, fun k o hk h1 hc => by rw [Below.heap_setCell _ _ _ _ (by show k ≠ b; omega)]; exact h.2 k o hk h1 hc⟩
theorem kpO_const {O : Nat → Prop} {A B : World} (h : KeepS (fun b => ¬ O b) A B) : KpO (fun _ b => O b) A B := ⟨h.1, h.2, fun _ h => .inl h, fun hn b hb => Nat.lt_of_lt_of_le (hn b hb) h.1⟩
theorem find_pre {α : Type} {P : α → Bool} {l m : List α} {b : α} (h : l <+: m) (hf : l.find? P = some b) : m.find? P = some b := by
  obtain ⟨r, rfl⟩ := h
  rw [List.find?_append, hf]; rfl
theorem find_snoc {α : Type} {P : α → Bool} {l : List α} {b : α} (h : l.find? P = none) : (l ++ [b]).find? P = if P b then some b else none := by
  rw [List.find?_append, h]
  cases hb : P b <;> simp [hb]
abbrev put5 (W : World) (b : Nat) (d0 d1 d2 d3 d4 : Value) : World := ((((W.setCell ⟨b, 0, none⟩ d0).setCell ⟨b, 1, none⟩ d1).setCell ⟨b, 2, none⟩ d2).setCell ⟨b, 3, none⟩ d3).setCell ⟨b, 4, none⟩ d4
theorem put5_at {W : World} {b : Nat} {c0 c1 c2 c3 c4 : Value} {t : TypeId} {fr : Nat × Nat} (h : W.heap[b]? = some (.cells #[c0, c1, c2, c3, c4] t fr)) (d0 d1 d2 d3 d4 : Value) : (put5 W b d0 d1 d2 d3 d4).heap[b]? = some (.cells #[d0, d1, d2, d3, d4] t fr) := by
  have h0 := heap_set_at (j := 0) h d0
  have h1 := heap_set_at (j := 1) h0 d1
  have h2 := heap_set_at (j := 2) h1 d2
  have h3 := heap_set_at (j := 3) h2 d3
  have h4 := heap_set_at (j := 4) h3 d4
  rw [h4]; rfl
theorem put5_other {W : World} {b b' : Nat} (hb : b' ≠ b) (d0 d1 d2 d3 d4 : Value) : (put5 W b d0 d1 d2 d3 d4).heap[b']? = W.heap[b']? := by
  have hh : ∀ (W : World) (j : Nat) (v : Value), (W.setCell ⟨b, j, none⟩ v).heap[b']? = W.heap[b']? := fun W j v => Below.heap_setCell _ _ _ _ (by simpa using hb)
  rw [hh, hh, hh, hh, hh]
theorem put5_below {n : Nat} {A W : World} (h : Below n A W) {b : Nat} (hb : n ≤ b) (d0 d1 d2 d3 d4 : Value) : Below n A (put5 W b d0 d1 d2 d3 d4) :=
  ((((h.setCell (p := ⟨b, 0, none⟩) hb _).setCell (p := ⟨b, 1, none⟩) hb _).setCell (p := ⟨b, 2, none⟩) hb _).setCell (p := ⟨b, 3, none⟩) hb _).setCell (p := ⟨b, 4, none⟩) hb _
theorem frozen5 {W : World} {b : Nat} {cs : Array Value} {t : TypeId} (h : W.heap[b]? = some (.cells cs t (0, 0))) (j : Nat) : W.frozen? ⟨b, j, none⟩ = false := Lib.frozen_of_heap h j
def InvPost (x : Col) (o : Op) (w : World) (e : Ending) (w' : World) : Prop := e = .returned (.tuple #[(inverse x o).1.val, .int .i64 (inverse x o).2]) ∧ Below w.heap.size w w'
theorem box4b (w : World) (C D E F : Array Value) (tc td te tf : TypeId) : ∃ W, W = ((((w.alloc (.cells C tc)).alloc (.cells D td)).alloc (.cells E te)).alloc (.cells F tf)) ∧ Below w.heap.size w W ∧ W.heap.size = w.heap.size + 1 + 1 + 1 + 1 ∧
    W.heap[w.heap.size]? = some (.cells C tc (0, 0)) ∧ W.heap[w.heap.size + 1]? = some (.cells D td (0, 0)) ∧ W.heap[w.heap.size + 1 + 1]? = some (.cells E te (0, 0)) ∧ W.heap[w.heap.size + 1 + 1 + 1]? = some (.cells F tf (0, 0)) := by
  obtain ⟨h1, h2, h3, h4, h5, h6⟩ := box4 w C D E F tc td te tf
  exact ⟨_, rfl, h1, h2, h3, h4, h5, h6⟩
set_option maxRecDepth 100000 in
set_option maxHeartbeats 4000000 in
theorem inv_err (S : Nat → Prop) (v : CV) (x : Col) (o : Op) (w : World) (h : RdC S w v x) (hm : Sml x) (hE : Env w) (ho : o.ok) (hx : o.text.size ≤ 1000000) (he : opErr x o ≠ 0) : Calls Tryz.prog 29 #[v.val, o.val] w (InvPost x o w) := by
  have HF : Hid (∀ W, Below w.heap.size w W → CallsIn Fence.wide 9 Tryz.prog 40 #[v.val, o.val] W (FindPost x o W)) := fun W hb => callsIn_wide.2 (efind_any S v x o W (h.below hb) hm (hE.below hb) ho hx)
  have HI : Hid (inverse x o = (Op.zero, opErr x o)) := by show _ = _; unfold inverse; rw [if_pos he]
  have t0 : ((opErr x o : Int) != 0) = true := by simpa using he
  unfold InvPost
  unfold FindPost at HF
  rw [HI.out]
  clear HI h hm hE ho hx
  generalize opErr x o = E at *
  generalize x.place o = PL at *
  generalize Op.oth o = TH at *
  obtain ⟨sec, sa, sn, sc, ta, tn, tc, ca, cn, cc⟩ := v
  obtain ⟨ok, og, ot, oo, ox⟩ := o
  change Calls _ _ #[.agg #[.string sec, .slice sa sn sc, .slice ta tn tc, .slice ca cn cc], .agg #[.int .i64 ok, .string og, .int .i64 ot, .int .i64 oo, .string ox]] _ _
  change Hid (∀ W, _ → CallsIn _ _ _ _ #[.agg #[.string sec, .slice sa sn sc, .slice ta tn tc, .slice ca cn cc], .agg #[.int .i64 ok, .string og, .int .i64 ot, .int .i64 oo, .string ox]] _ _) at HF
  obtain ⟨W1, hW1, hb0, hs1, gX, gO, gR, gE⟩ := box4b w #[.string sec, .slice sa sn sc, .slice ta tn tc, .slice ca cn cc] #[.int .i64 ok, .string og, .int .i64 ot, .int .i64 oo, .string ox] #[.int .i64 0, .string ⟨#[]⟩, .int .i64 0, .int .i64 0, .string ⟨#[]⟩] #[.int .i64 0] 26 28 28 32
  have HFF := Lib.hid (HF.out _ hb0)
  obtain ⟨c0, c1, c2, c3, -⟩ := box_cells4 gX
  obtain ⟨o0, o1, o2, o3, o4⟩ := box_cells5 gO
  rw [hW1] at c0 c1 c2 c3 o0 o1 o2 o3 o4
  refine (callsIn_wide (n := 10)).1 ?_
  refine callsIn_of_wp_marks Tryz.func29 rfl trivial ?_ rfl
  simp only [Tryz.ntmps29, List.size_toArray, List.length_cons, List.length_nil, Nat.reduceAdd, Nat.reduceSub, Array.replicate_succ, Array.replicate_zero, List.push_toArray, List.append_toArray, List.nil_append, List.cons_append]
  gi_wp2_with (fail)
  rw [← hW1] at *
  clear hW1
  refine ⟨trivial, ?_⟩
  refine HFF.out.mono ?_
  rintro e W2 ⟨p, q, r, rfl, -, hb2⟩
  have hal : Below W2.heap.size W2 (W2.alloc (.cells #[.int .i64 p, .int .i64 q, .int .i64 r] 66)) := (Below.refl _ _).alloc (Nat.le_refl _) _
  have hb3 := hb2.trans (hal.mono hb2.size)
  have gR3 := (hb3.block _ (by omega)).trans gR
  have gE3 := (hb3.block _ (by omega)).trans gE
  have hb4 := hb0.trans (hb3.mono hb0.size)
  have hX : Hid (Below w.heap.size w ((put5 (W2.alloc (.cells #[.int .i64 p, .int .i64 q, .int .i64 r] 66)) (w.heap.size + 1 + 1) (.int .i64 0) (.string ⟨#[]⟩) (.int .i64 0) (.int .i64 0) (.string ⟨#[]⟩)).setCell ⟨(w.heap.size + 1 + 1 + 1), 0, none⟩ (.int .i64 E)) ∧
      ((put5 (W2.alloc (.cells #[.int .i64 p, .int .i64 q, .int .i64 r] 66)) (w.heap.size + 1 + 1) (.int .i64 0) (.string ⟨#[]⟩) (.int .i64 0) (.int .i64 0) (.string ⟨#[]⟩)).setCell ⟨(w.heap.size + 1 + 1 + 1), 0, none⟩ (.int .i64 E)).heap[(w.heap.size + 1 + 1)]? = some (.cells #[.int .i64 0, .string ⟨#[]⟩, .int .i64 0, .int .i64 0, .string ⟨#[]⟩] 28 (0, 0)) ∧
      ((put5 (W2.alloc (.cells #[.int .i64 p, .int .i64 q, .int .i64 r] 66)) (w.heap.size + 1 + 1) (.int .i64 0) (.string ⟨#[]⟩) (.int .i64 0) (.int .i64 0) (.string ⟨#[]⟩)).setCell ⟨(w.heap.size + 1 + 1 + 1), 0, none⟩ (.int .i64 E)).heap[(w.heap.size + 1 + 1 + 1)]? = some (.cells #[.int .i64 E] 32 (0, 0))) := by
    refine ⟨below_setc (put5_below hb4 (by omega) _ _ _ _ _) (by omega) _ _, ?_, ?_⟩
    · rw [heap_setCell_other (by omega)]; exact put5_at gR3 _ _ _ _ _
    · rw [heap_setCell_self (by rw [put5_other (by omega)]; exact gE3)]; simp
  obtain ⟨r0, r1, r2, r3, r4⟩ := box_cells5 gR3
  have f0 := frozen5 gR3 0
  have f1 := frozen5 gR3 1
  have f2 := frozen5 gR3 2
  have f3 := frozen5 gR3 3
  have f4 := frozen5 gR3 4
  have e0 := cell_of_one gE3
  have fe := frozen5 gE3 0
  clear gR3 gE3 hb4 hb3 hal hb2 gX gO gR gE
  gi_wp2
  obtain ⟨x1, x2, x3⟩ := hX.out
  refine leaves_marks (hi := w.heap.size) (by simp) (Φ := fun W => Below w.heap.size w W ∧ W.heap[(w.heap.size + 1 + 1)]? = some (.cells #[.int .i64 0, .string ⟨#[]⟩, .int .i64 0, .int .i64 0, .string ⟨#[]⟩] 28 (0, 0)) ∧ W.heap[(w.heap.size + 1 + 1 + 1)]? = some (.cells #[.int .i64 E] 32 (0, 0))) ?_ ?_ [] _ trivial ⟨x1, x2, x3⟩
  · rintro W D ⟨h1, h2, h3⟩ hD hd
    exact ⟨below_putObj h1 hD hd _, cells_putObj h2 hd rfl _, cells_putObj h3 hd rfl _⟩
  · rintro W ⟨hb3, gr3, ge3⟩
    obtain ⟨s0, s1, s2, s3, s4⟩ := box_cells5 gr3
    have e2 := cell_of_one ge3
    refine ⟨_, by simp [results, Tryz.results29, go_sem, s0, s1, s2, s3, s4, e2]; rfl, ?_⟩
    exact ⟨rfl, hb3⟩
set_option maxRecDepth 100000 in
set_option maxHeartbeats 4000000 in
theorem inv_reg (S : Nat → Prop) (v : CV) (x : Col) (o : Op) (w : World) (h : RdC S w v x) (hm : Sml x) (hE : Env w) (ho : o.ok) (hx : o.text.size ≤ 1000000) (he : opErr x o = 0) (hk : o.kind = 4) : Calls Tryz.prog 29 #[v.val, o.val] w (InvPost x o w) := by
  have HF : Hid (∀ W, Below w.heap.size w W → Calls Tryz.prog 40 #[v.val, o.val] W (FindPost x o W)) := fun W hb => (efind_any S v x o W (h.below hb) hm (hE.below hb) ho hx)
  obtain ⟨s, c, F⟩ := fits_of he
  have HI : Hid (inverse x o = ({ o with text := (x.tk s o.tok).norm }, 0)) := by show _ = _; unfold inverse; rw [if_neg (by simp [he]), if_pos hk, F.place]
  have hpl : x.place o = some (s, c) := F.place
  have hks : s < x.toks.length := by rw [F.heads.len]; exact F.ks
  have ht0 := F.t0
  have ht1 := F.t1
  unfold InvPost
  unfold FindPost at HF
  rw [HI.out]
  rw [hpl, he] at HF
  generalize Op.oth o = TH at *
  clear HI hm hE ho hx F hpl he
  obtain ⟨sec, sa, sn, sc, ta, tn, tc, ca, cn, cc⟩ := v
  obtain ⟨ok, og, ot, oo, ox⟩ := o
  dsimp only at hk ht0 ht1 ⊢
  subst hk
  obtain ⟨tk, rfl⟩ : ∃ tk : Nat, ot = (tk : Int) := ⟨ot.toNat, by omega⟩
  obtain ⟨-, -, h2, h3, h4⟩ := h
  dsimp only at h2 h3 h4
  obtain ⟨r, bo, off, a1, n1, k1, hu, hmem, rfl, -, hbl, hr, d1⟩ := h3.row (j := s) (by rw [h3.len]; exact hks)
  have htr : x.tks s = r := by unfold Col.tks; rw [hu]; rfl
  rw [htr] at ht1
  obtain ⟨t, b2, off2, hu2, hmem2, rfl, -, hbl2, -, ⟨-, e1, -, -, -, -⟩⟩ := hr.tok (j := tk) (by rw [hr.len]; omega)
  have htk : x.tk s (tk : Int) = t := by unfold Col.tk; rw [htr, Int.toNat_natCast, hu2]; rfl
  rw [htk]
  have hsn : s < tn := by rw [h3.len]; exact hks
  have htn : tk < n1 := by rw [hr.len]; omega
  have htb := h3.bound
  have hrb := hr.bound
  generalize t.norm = nm at *
  clear hu hmem hu2 hmem2 htr htk h2 h3 h4 hr ht0 ht1 hks
  change Calls _ _ #[.agg #[.string sec, .slice sa sn sc, .slice (some ⟨bo, off, none⟩) tn tc, .slice ca cn cc], .agg #[.int .i64 4, .string og, .int .i64 (tk : Int), .int .i64 oo, .string ox]] _ _
  change Hid (∀ W, _ → Calls _ _ #[.agg #[.string sec, .slice sa sn sc, .slice (some ⟨bo, off, none⟩) tn tc, .slice ca cn cc], .agg #[.int .i64 4, .string og, .int .i64 (tk : Int), .int .i64 oo, .string ox]] _ _) at HF
  obtain ⟨W1, hW1, hb0, hs1, gX, gO, gR, gE⟩ := box4b w #[.string sec, .slice sa sn sc, .slice (some ⟨bo, off, none⟩) tn tc, .slice ca cn cc] #[.int .i64 4, .string og, .int .i64 (tk : Int), .int .i64 oo, .string ox] #[.int .i64 0, .string ⟨#[]⟩, .int .i64 0, .int .i64 0, .string ⟨#[]⟩] #[.int .i64 0] 26 28 28 32
  have HFF := Lib.hid (HF.out _ hb0)
  have d1' := cell_later hb0 d1
  have e1' := cell_later hb0 e1
  clear d1 e1 HF
  obtain ⟨c0, c1, c2, c3, -⟩ := box_cells4 gX
  obtain ⟨o0, o1, o2, o3, o4⟩ := box_cells5 gO
  rw [hW1] at c0 c1 c2 c3 o0 o1 o2 o3 o4
  refine (callsIn_wide (n := 10)).1 ?_
  refine callsIn_of_wp_marks Tryz.func29 rfl trivial ?_ rfl
  simp only [Tryz.ntmps29, List.size_toArray, List.length_cons, List.length_nil, Nat.reduceAdd, Nat.reduceSub, Array.replicate_succ, Array.replicate_zero, List.push_toArray, List.append_toArray, List.nil_append, List.cons_append]
  refine wpIn_wide.2 ?_
  go_wp2_with fail
  rw [← hW1] at *
  clear hW1
  refine HFF.out.mono ?_
  rintro e W2 ⟨p, q, r, rfl, hF, hb2⟩
  obtain ⟨s', c', he, rfl, rfl, rfl⟩ := hF trivial
  obtain ⟨rfl, rfl⟩ : s = s' ∧ c = c' := by simpa using he
  clear hF he
  generalize TH c = po at *
  have hal : Below W2.heap.size W2 (W2.alloc (.cells #[.int .i64 (s : Int), .int .i64 (c : Int), .int .i64 po] 66)) := (Below.refl _ _).alloc (Nat.le_refl _) _
  obtain ⟨p0, p1, p2, -⟩ := box_cells3 (World.alloc_heap_new W2 (.cells #[.int .i64 (s : Int), .int .i64 (c : Int), .int .i64 po] 66))
  have hb3 := hb2.trans (hal.mono hb2.size)
  have gO3 := (hb3.block _ (by omega)).trans gO
  have gR3 := (hb3.block _ (by omega)).trans gR
  have gE3 := (hb3.block _ (by omega)).trans gE
  have hb4 := hb0.trans (hb3.mono hb0.size)
  obtain ⟨c0, c1, c2, c3, -⟩ := box_cells4 ((hb3.block _ (by omega)).trans gX)
  obtain ⟨o0, o1, o2, o3, o4⟩ := box_cells5 gO3
  replace d1' := cell_later hb3 d1'
  replace e1' := cell_later hb3 e1'
  clear gX gO gR gE hb0 hb2 hb3 hal HFF
  go_wp2
  generalize W2.alloc (.cells #[.int .i64 (s : Int), .int .i64 (c : Int), .int .i64 po] 66) = W3 at *
  obtain ⟨X, Wf, hX, hS1, hS2⟩ := family (fun V => Below W3.heap.size W3 V) W3 (Below.refl _ _)
  have HS2 := Lib.hid hS2
  have q_c2 := fun x => cell_later (hS1 x) c2
  have q_o2 := fun x => cell_later (hS1 x) o2
  have q_p0 := fun x => cell_later (hS1 x) p0
  have q_d1' := fun x => cell_later (hS1 x) d1'
  have q_e1' := fun x => cell_later (hS1 x) e1'
  clear hS1 hS2
  have hd0 : Below W3.heap.size W3 W3.drew := (Below.refl _ _).drew
  refine wp_region_treeN (Wf := Wf) 12 (.read 0 (.read 1 (.read 2 (.read 3 (.read 4 (.read 5 (.read 6 (.read 7 (.read 8 (.read 9 (.read 10 (.read 11 .fin)))))))))))) (by kernel_rfl) (by kernel_rfl) (HS2.out _ hd0) ?_
  refine wpTree_read _ rfl (fun K hK => ?_); unfold rOp; go_simp; (refine hK _ ?_; clear hK K)
  refine wpTree_read _ rfl (fun K hK => ?_); unfold rOp; go_simp; (refine hK _ ?_; clear hK K)
  refine wpTree_read _ rfl (fun K hK => ?_); unfold rOp; go_simp; (refine hK _ ?_; clear hK K)
  refine wpTree_read _ rfl (fun K hK => ?_); unfold rOp; go_simp; (refine hK _ ?_; clear hK K)
  refine wpTree_read _ rfl (fun K hK => ?_); unfold rOp; go_simp; (refine hK _ ?_; clear hK K)
  refine wpTree_read _ rfl (fun K hK => ?_); unfold rOp; go_simp; (refine hK _ ?_; clear hK K)
  refine wpTree_read _ rfl (fun K hK => ?_); unfold rOp; go_simp; (refine hK _ ?_; clear hK K)
  refine wpTree_read _ rfl (fun K hK => ?_); unfold rOp; go_simp; (refine hK _ ?_; clear hK K)
  refine wpTree_read _ rfl (fun K hK => ?_); unfold rOp; go_simp; (refine hK _ ?_; clear hK K)
  refine wpTree_read _ rfl (fun K hK => ?_); unfold rOp; go_simp; (refine hK _ ?_; clear hK K)
  refine wpTree_read _ rfl (fun K hK => ?_); unfold rOp; go_simp; (refine hK _ ?_; clear hK K)
  refine wpTree_read _ rfl (fun K hK => ?_); unfold rOp; go_simp; (refine hK _ ?_; clear hK K)
  refine wpTree_fin ?_
  clear q_c2 q_o2 q_p0 q_d1' q_e1' HS2 hX
  have f4 := frozen5 gO3 4
  go_wp2
  rw [noPanic_normal]
  have gO4 : (W3.setCell ⟨w.heap.size + 1, 4, none⟩ (.string nm)).drew.heap[w.heap.size + 1]? = some (.cells #[.int .i64 4, .string og, .int .i64 (tk : Int), .int .i64 oo, .string nm] 28 (0, 0)) := heap_set_at (j := 4) gO3 (.string nm)
  have gR4 : (W3.setCell ⟨w.heap.size + 1, 4, none⟩ (.string nm)).drew.heap[(w.heap.size + 1 + 1)]? = some (.cells #[.int .i64 0, .string ⟨#[]⟩, .int .i64 0, .int .i64 0, .string ⟨#[]⟩] 28 (0, 0)) := (heap_setCell_other (by omega) _).trans gR3
  have gE4 : (W3.setCell ⟨w.heap.size + 1, 4, none⟩ (.string nm)).drew.heap[(w.heap.size + 1 + 1 + 1)]? = some (.cells #[.int .i64 0] 32 (0, 0)) := (heap_setCell_other (by omega) _).trans gE3
  have hb5 : Below w.heap.size w (W3.setCell ⟨w.heap.size + 1, 4, none⟩ (.string nm)).drew := (below_setc hb4 (by omega) _ _).drew
  generalize (W3.setCell ⟨w.heap.size + 1, 4, none⟩ (.string nm)).drew = W4 at *
  have hX : Hid (Below w.heap.size w ((put5 W4 (w.heap.size + 1 + 1) (.int .i64 4) (.string og) (.int .i64 (tk : Int)) (.int .i64 oo) (.string nm)).setCell ⟨(w.heap.size + 1 + 1 + 1), 0, none⟩ (.int .i64 0)) ∧
      ((put5 W4 (w.heap.size + 1 + 1) (.int .i64 4) (.string og) (.int .i64 (tk : Int)) (.int .i64 oo) (.string nm)).setCell ⟨(w.heap.size + 1 + 1 + 1), 0, none⟩ (.int .i64 0)).heap[(w.heap.size + 1 + 1)]? = some (.cells #[.int .i64 4, .string og, .int .i64 (tk : Int), .int .i64 oo, .string nm] 28 (0, 0)) ∧
      ((put5 W4 (w.heap.size + 1 + 1) (.int .i64 4) (.string og) (.int .i64 (tk : Int)) (.int .i64 oo) (.string nm)).setCell ⟨(w.heap.size + 1 + 1 + 1), 0, none⟩ (.int .i64 0)).heap[(w.heap.size + 1 + 1 + 1)]? = some (.cells #[.int .i64 0] 32 (0, 0))) := by
    refine ⟨below_setc (put5_below hb5 (by omega) _ _ _ _ _) (by omega) _ _, ?_, ?_⟩
    · rw [heap_setCell_other (by omega)]; exact put5_at gR4 _ _ _ _ _
    · rw [heap_setCell_self (by rw [put5_other (by omega)]; exact gE4)]; simp
  clear o0 o1 o2 o3 o4 c0 c1 c2 c3 p0 p1 p2 d1' e1'
  obtain ⟨o0, o1, o2, o3, o4⟩ := box_cells5 gO4
  obtain ⟨r0, r1, r2, r3, r4⟩ := box_cells5 gR4
  have f0 := frozen5 gR4 0
  have f1 := frozen5 gR4 1
  have f2 := frozen5 gR4 2
  have f3 := frozen5 gR4 3
  have f5 := frozen5 gR4 4
  have e0 := cell_of_one gE4
  have fe := frozen5 gE4 0
  clear gR4 gE4 gO4 gO3 gR3 gE3 hb4 hd0 f4 hb5
  go_wp2
  obtain ⟨x1, x2, x3⟩ := hX.out
  refine leaves_marks (hi := w.heap.size) (by simp) (Φ := fun W => Below w.heap.size w W ∧ W.heap[(w.heap.size + 1 + 1)]? = some (.cells #[.int .i64 4, .string og, .int .i64 (tk : Int), .int .i64 oo, .string nm] 28 (0, 0)) ∧ W.heap[(w.heap.size + 1 + 1 + 1)]? = some (.cells #[.int .i64 0] 32 (0, 0))) ?_ ?_ [] _ trivial ⟨x1, x2, x3⟩
  · rintro W D ⟨h1, h2, h3⟩ hD hd
    exact ⟨below_putObj h1 hD hd _, cells_putObj h2 hd rfl _, cells_putObj h3 hd rfl _⟩
  · rintro W ⟨hb3, gr3, ge3⟩
    obtain ⟨s0, s1, s2, s3, s4⟩ := box_cells5 gr3
    have e2 := cell_of_one ge3
    refine ⟨_, by simp [results, Tryz.results29, go_sem, s0, s1, s2, s3, s4, e2]; rfl, ?_⟩
    exact ⟨rfl, hb3⟩
end Go.Proofs.YtbdgmgddliploaaGreatDoor
