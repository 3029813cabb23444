/- Joined: ISb, ISs1, ISs2. -/
import Derived.Test.YtlbcmeebcfalpaaGreatDoorP12
import Derived.Test.YtlbcmeebcfalpaaGreatDoorP14
set_option linter.unusedVariables false
set_option linter.unusedSimpArgs false
set_option maxRecDepth 100000
set_option maxHeartbeats 16000000
namespace Go.Proofs.YtlbcmeebcfalpaaGreatDoor
open Go.RowKit

def SFact (w : World) : FK -> Dv -> Dv -> Bool -> Prop
  | .one U, d, d', r => match U.isQ with
    | true => EqR .eql U.tid d.val d'.val r
    | false => ∀ V, Below w.heap.size w V -> Calls Tryz.prog U.sf #[d.val, d'.val] V (fun e V' => e = .returned (.bool r) /\ Below V.heap.size V V')
  | .many U, d, d', r => ∀ V, Below w.heap.size w V -> Calls Tryz.prog U.slf #[d.val, d'.val] V (fun e V' => e = .returned (.bool r) /\ Below V.heap.size V V')
/-- What is known of each pair of fields; Z: what the result is good for. -/
def AllS (w : World) (Z : Bool -> Prop) : Bool -> List FK -> List Dv -> List Dv -> Prop
  | g, [], [], [] => Z g
  | g, k :: ks, d :: l, d' :: l' => ∃ r, Hid (SFact w k d d' r) /\ AllS w Z (g && r) ks l l'
  | _, _, _, _ => False
/-- Two structs in boxes of their own. -/
structure KeepB (w : World) (t : TypeId) (A A' : Array Value) (V : World) : Prop where
  below : Below w.heap.size w V
  fst : V.heap[w.heap.size]? = some (.cells A t (0, 0))
  snd : V.heap[w.heap.size + 1]? = some (.cells A' t (0, 0))
theorem keepB_new (w : World) (t : TypeId) (A A' : Array Value) : KeepB w t A A' ((w.alloc (.cells A t)).alloc (.cells A' t)) :=
  ⟨((Below.refl _ _).alloc (Nat.le_refl _) _).alloc (by simp) _, alloc_heap_some (World.alloc_heap_new w (.cells A t)), by
    have := World.alloc_heap_new (w.alloc (.cells A t)) (.cells A' t)
    simpa using this⟩
theorem KeepB.next {w V V' : World} {t : TypeId} {A A' : Array Value} (h : KeepB w t A A' V) (hb : Below V.heap.size V V') : KeepB w t A A' V' :=
  ⟨h.below.trans (hb.mono h.below.size), (hb.block _ (Array.getElem?_eq_some_iff.1 h.fst).1).trans h.fst, (hb.block _ (Array.getElem?_eq_some_iff.1 h.snd).1).trans h.snd⟩
theorem KeepB.cells {w V : World} {t : TypeId} {cs cs' : List Value} (h : KeepB w t cs.toArray cs'.toArray V) : CellsAt V w.heap.size 0 cs /\ CellsAt V (w.heap.size + 1) 0 cs' := ⟨cellsAt h.fst, cellsAt h.snd⟩
section
variable {ops : Array Oper} {L : List Oper} {act : Act} {Q : Exit -> Act -> World -> Prop}
end
/-- Behind a comparison that fails nothing of a chain of 'and' is looked at. -/
def skipB (N z : Nat) (ops : Array Oper) : List Nat -> List Oper -> Bool
  | F, [] => F.contains z
  | F, o :: L => match o.dst with
    | none => false
    | some d => decide (d < N) && (match o.guard with
      | some (j, true) => (match (ops[j]?).bind (·.dst) with | some s => F.contains s | none => false) && !F.contains d && skipB N z ops F L
      | some (_, false) => false
      | none => match o.op with
        | .move (.tmp t) => F.contains t && skipB N z ops (d :: F) L
        | .assign (.tmp t) => F.contains t && skipB N z ops (d :: F) L
        | .pick (.tmp t) _ (.const (.bool false)) => F.contains t && skipB N z ops (d :: F) L
        | _ => false)
theorem put_false {a : Act} {d N : Nat} {F : List Nat} (hd : d < N) (hN : a.tmps.size = N) (hF : ∀ t ∈ F, a.tmps[t]? = some (.bool false)) : ∀ t ∈ d :: F, (a.put (some d) (.bool false)).tmps[t]? = some (.bool false) := by
  intro t ht
  show (a.tmps.setIfInBounds d (.bool false))[t]? = _
  by_cases e : t = d
  · subst e; rw [Array.getElem?_setIfInBounds_self_of_lt (by omega)]
  · rw [Array.getElem?_setIfInBounds_ne (fun h => e h.symm)]
    rcases List.mem_cons.1 ht with h | h
    · exact absurd h e
    · exact hF t h
theorem eval_false {a : Act} {t : Nat} (h : a.tmps[t]? = some (.bool false)) : a.eval (.tmp t) = .bool false := by
  show a.tmps.getD t undef = _
  simp [h]
theorem wpList_skip {ops : Array Oper} {Q : Exit -> Act -> World -> Prop} {W : World} {N z : Nat} : ∀ (L : List Oper) (F : List Nat) (act : Act), skipB N z ops F L = true -> act.tmps.size = N -> (∀ t ∈ F, act.tmps[t]? = some (.bool false)) ->
    (∀ a : Act, a.tmps[z]? = some (.bool false) -> a.defers = act.defers -> Q .normal a W) -> wpList Tryz.prog ops Q L act W
  | [], F, act, hB, hN, hF, hk => by
    refine wpList_nil (hk act (hF z ?_) rfl)
    simpa [skipB] using hB
  | o :: L, F, act, hB, hN, hF, hk => by
    unfold skipB at hB
    split at hB
    · cases hB
    · rename_i d hd
      rw [Bool.and_eq_true] at hB
      obtain ⟨hdN, hB⟩ := hB
      have hdN := of_decide_eq_true hdN
      have hsz : ∀ v, (act.put (some d) v).tmps.size = N := fun v => by show (act.tmps.setIfInBounds d v).size = N; simp [hN]
      split at hB
      · rename_i j hg
        rw [Bool.and_eq_true, Bool.and_eq_true] at hB
        obtain ⟨⟨h1, h2⟩, h3⟩ := hB
        refine wpList_step fun K hK => ?_
        have hw : Region.wanted o (yielded ops act.tmps) = false := by
          unfold Region.wanted yielded
          rw [hg]
          split at h1
          · rename_i s hs
            have := hF s (by simpa using h1)
            simp [hs, this]
          · cases h1
        rw [hw, hd]
        refine hK _ _ (wpList_skip L F _ h3 (hsz _) (fun t ht => ?_) hk)
        show (act.tmps.setIfInBounds d undef)[t]? = _
        rw [Array.getElem?_setIfInBounds_ne (fun h => by subst h; simp [ht] at h2)]
        exact hF t ht
      · cases hB
      · rename_i hg
        split at hB
        · rename_i t ho
          rw [Bool.and_eq_true] at hB
          have ht := hF t (by simpa using hB.1)
          refine wpList_plain hg fun K hK => ?_
          unfold Oper.wp execOp
          simp only [ho, eval_false ht, Sem.run_bind, Sem.run_pure, Result.andThen_ok]
          rw [Oper.upon_value, hd]
          exact hK _ _ (wpList_skip L _ _ hB.2 (hsz _) (put_false hdN hN hF) hk)
        · rename_i t ho
          rw [Bool.and_eq_true] at hB
          have ht := hF t (by simpa using hB.1)
          refine wpList_plain hg fun K hK => ?_
          unfold Oper.wp execOp
          simp only [ho, eval_false ht, Sem.run_bind, Sem.run_pure, Result.andThen_ok]
          rw [Oper.upon_value, hd]
          exact hK _ _ (wpList_skip L _ _ hB.2 (hsz _) (put_false hdN hN hF) hk)
        · rename_i t x ho
          rw [Bool.and_eq_true] at hB
          have ht := hF t (by simpa using hB.1)
          refine wpList_plain hg fun K hK => ?_
          unfold Oper.wp execOp
          simp only [ho, eval_false ht, Sem.run_bind, Sem.run_pure, Result.andThen_ok, asBool]
          rw [Oper.upon_value, hd]
          exact hK _ _ (wpList_skip L _ _ hB.2 (hsz _) (put_false hdN hN hF) hk)
        · cases hB
/-- A region walked in pieces of so many operations. -/
def wpCut (ops : Array Oper) (Q : Exit -> Act -> World -> Prop) : List Nat -> List Oper -> Act -> World -> Prop
  | [], L, a, w => wpList Tryz.prog ops Q L a w
  | n :: ns, L, a, w => wpList Tryz.prog ops (Exit.then (fun a w => wpCut ops Q ns (L.drop n) a w) Q) (L.take n) a w
theorem wpList_app {ops : Array Oper} {Q : Exit -> Act -> World -> Prop} {K : Act -> World -> Prop} {m : List Oper} (hK : ∀ a w, K a w -> wpList Tryz.prog ops Q m a w) : ∀ (l : List Oper) (a : Act) (w : World), wpList Tryz.prog ops (Exit.then K Q) l a w -> wpList Tryz.prog ops Q (l ++ m) a w
  | [], a, w, h => hK a w h
  | o :: l, a, w, h => by
    rw [List.cons_append]
    unfold wpList at h ⊢
    split
    · rename_i hw
      rw [if_pos hw] at h
      rcases h with h | h
      · have h' : o.wp Tryz.prog a w (wpList Tryz.prog ops (Exit.then K Q) l) Q := h
        exact .inl (Oper.wp_mono (fun a w h => wpList_app hK l a w h) h')
      · exact .inr h
    · rename_i hw
      rw [if_neg hw] at h
      exact wpList_app hK l _ _ h
theorem wpCut_list {ops : Array Oper} {Q : Exit -> Act -> World -> Prop} : ∀ (ns : List Nat) (L : List Oper) (a : Act) (w : World), wpCut ops Q ns L a w -> wpList Tryz.prog ops Q L a w
  | [], L, a, w, h => h
  | n :: ns, L, a, w, h => by
    rw [<- List.take_append_drop n L]
    exact wpList_app (fun a w h => wpCut_list ns _ a w h) _ _ _ h
theorem wpList_part {ops : Array Oper} {Q : Exit -> Act -> World -> Prop} {K : Act -> World -> Prop} {m : List Oper} (hK : ∀ a w, wpList Tryz.prog ops Q m a w -> K a w) : ∀ (l : List Oper) (a : Act) (w : World), wpList Tryz.prog ops Q (l ++ m) a w -> wpList Tryz.prog ops (Exit.then K Q) l a w
  | [], a, w, h => hK a w h
  | o :: l, a, w, h => by
    rw [List.cons_append] at h
    unfold wpList at h ⊢
    split
    · rename_i hw
      rw [if_pos hw] at h
      rcases h with h | h
      · have h' : o.wp Tryz.prog a w (wpList Tryz.prog ops (Exit.then K Q) l) Q := Oper.wp_mono (fun a w h => wpList_part hK l a w h) h
        exact .inl h'
      · exact .inr h
    · rename_i hw
      rw [if_neg hw] at h
      exact wpList_part hK l _ _ h
theorem wpCut_back {ops : Array Oper} {Q : Exit -> Act -> World -> Prop} : ∀ (ns : List Nat) (L : List Oper) (a : Act) (w : World), wpList Tryz.prog ops Q L a w -> wpCut ops Q ns L a w
  | [], L, a, w, h => h
  | n :: ns, L, a, w, h => by
    rw [<- List.take_append_drop n L] at h
    exact wpList_part (fun a w h => wpCut_back ns _ a w h) _ _ _ h
theorem wpCut_skip {ops : Array Oper} {Q : Exit -> Act -> World -> Prop} {W : World} {ns : List Nat} {L : List Oper} {act : Act} (N z p : Nat) (hB : skipB N z ops [p] L = true) (hN : act.tmps.size = N) (hp : act.tmps[p]? = some (.bool false))
    (hk : ∀ a : Act, a.tmps[z]? = some (.bool false) -> a.defers = act.defers -> Q .normal a W) : wpCut ops Q ns L act W :=
  wpCut_back _ _ _ _ (wpList_skip L [p] act hB hN (fun t ht => by rw [List.mem_singleton] at ht; rw [ht]; exact hp) hk)
theorem wpCut_cons {ops : Array Oper} {Q : Exit -> Act -> World -> Prop} {n : Nat} {ns : List Nat} {L : List Oper} {a : Act} {w : World} (h : wpList Tryz.prog ops (Exit.then (fun a w => wpCut ops Q ns (L.drop n) a w) Q) (L.take n) a w) : wpCut ops Q (n :: ns) L a w := h
theorem wpCut_nil {ops : Array Oper} {Q : Exit -> Act -> World -> Prop} {L : List Oper} {a : Act} {w : World} (h : wpList Tryz.prog ops Q L a w) : wpCut ops Q [] L a w := h
theorem wp_region_cut {id : Nat} {l : List Oper} {Q : Exit -> Act -> World -> Prop} {a : Act} {w : World} (ns : List Nat) (h : wpCut l.toArray Q ns l a w) : (Code.region id l.toArray false).wp Tryz.prog Q a w := wp_region_lit (wpCut_list ns l a w h)
theorem allS_of {w : World} {Z : Bool -> Prop} : ∀ (fk : List FK) (l l' : List Dv) (g : Bool), l.length = fk.length -> l'.length = fk.length -> (∀ (i : Nat) (k : FK) (d d' : Dv), fk[i]? = some k -> l[i]? = some d -> l'[i]? = some d' -> SFact w k d d' (sameV d.toV d'.toV)) -> Z (g && sameL (Dv.toVL l) (Dv.toVL l')) -> AllS w Z g fk l l'
  | [], [], [], g, _, _, _, h => by
    rw [Dv.toVL, sameL, Bool.and_true] at h; exact h
  | k :: ks, d :: l, d' :: l', g, h1, h2, hf, h => by
    refine ⟨sameV d.toV d'.toV, hf 0 k d d' rfl rfl rfl, allS_of ks l l' _ (by simpa using h1) (by simpa using h2) (fun i k e e' a b c => hf (i + 1) k e e' a b c) ?_⟩
    rw [Dv.toVL, Dv.toVL, sameL, <- Bool.and_assoc] at h; exact h
  | [], _ :: _, _, _, h, _, _, _ => by cases h
  | [], [], _ :: _, _, _, h, _, _ => by cases h
  | _ :: _, [], _, _, h, _, _, _ => by cases h
  | _ :: _, _ :: _, [], _, _, h, _, _ => by cases h
theorem eqr_int {a b : Int} {r : Bool} (W : World) (h : EqR .eql 3 (.int .i64 a) (.int .i64 b) r) : (a == b) = r := by
  have := h (.tmp 0) (.tmp 0) W
  simpa [go_sem] using this
theorem eqr_text {a b : ByteArray} {r : Bool} (W : World) (h : EqR .eql 9 (.string a) (.string b) r) : (a.toList == b.toList) = r := by
  have := h (.tmp 0) (.tmp 0) W
  simpa [go_sem, beq_toListBytes] using this
theorem eqr_cst {A B : Array Value} {r : Bool} (h : EqR .eql 30 (.agg A) (.agg B) r) : ∀ W, (binOp .eql 30 (.agg A) (.agg B)).run Tryz.prog W = .ok (.bool r) W := fun W => by
  have := h (.tmp 0) (.tmp 0) W
  simpa [go_sem] using this
end Go.Proofs.YtlbcmeebcfalpaaGreatDoor
namespace Go.Proofs.YtlbcmeebcfalpaaGreatDoor
open Go.RowKit

theorem sme_grp {l l' : List Dv} (hi : LT.Inv .grp (.struc l)) (hi' : LT.Inv .grp (.struc l')) {w : World} {P : Ending -> World -> Prop} (HC : AllS w (fun g => ∀ V, Below w.heap.size w V -> P (.returned (.bool g)) V) true (LT.fk .grp) l l') : Calls Tryz.prog 193 #[.agg (Dv.cellsL l).toArray, .agg (Dv.cellsL l').toArray] w P := by
  have HG := hiq (keepB_new w 120 (Dv.cellsL l).toArray (Dv.cellsL l').toArray)
  have HK : Hid (∀ V V', KeepB w 120 (Dv.cellsL l).toArray (Dv.cellsL l').toArray V -> Below V.heap.size V V' -> KeepB w 120 (Dv.cellsL l).toArray (Dv.cellsL l').toArray V') := fun V V' h hb => h.next hb
  have HX : Hid (∀ V, KeepB w 120 (Dv.cellsL l).toArray (Dv.cellsL l').toArray V -> CellsAt V w.heap.size 0 (Dv.cellsL l) /\ CellsAt V (w.heap.size + 1) 0 (Dv.cellsL l')) := fun V h => h.cells
  generalize (Dv.cellsL l).toArray = A at *
  generalize (Dv.cellsL l').toArray = A2 at *
  dsimp only [LT.Inv] at hi hi'
  repeat (rcases (hi : ∃ _, _) with ⟨_, hi⟩)
  repeat (rcases (hi' : ∃ _, _) with ⟨_, hi'⟩)
  injection hi with hi
  injection hi' with hi'
  subst hi
  subst hi'
  simp only [Dv.cells, Dv.cellsL, List.cons_append, List.nil_append, List.append_nil, CellsAt, Nat.zero_add, Nat.reduceAdd, and_true] at HX
  dsimp only [LT.fk, AllS, SFact, LT.isQ, LT.tid, LT.sf, LT.slf] at HC
  simp only [Dv.val, Dv.cells, Dv.cellsL, List.cons_append, List.nil_append, List.append_nil] at HC
  obtain ⟨r0, H0, HC⟩ := HC
  obtain ⟨r1, H1, HC⟩ := HC
  have E0 := eqr_text w H0.out
  have HZ := hiq HC
  clear HC
  go_enter Tryz.func193, Tryz.ntmps193
  generalize hC1 : Code.region 1 _ _ = C1
  go_wp2_with fail
  rename_i K hK
  have hk1 := HG.out
  generalize World.alloc (World.alloc _ _) _ = W1 at *
  have q := HX.out _ hk1
  have HK1 := hiq hk1
  clear hk1 HG
  subst hC1
  try simp only [List.cons_append, List.nil_append]
  refine wp_region_cut [5, 7] ?_
  refine wpCut_cons ?_
  simp only [List.take_succ_cons, List.take_zero, List.drop_succ_cons, List.drop_zero]
  go_wp2_with fail
  cases r0
  case false =>
    refine wpCut_skip 17 4 9 (by kernel_rfl) rfl rfl ?_
    intro a ha hd
    refine hK _ _ (wp_ret (bodyPost_ret (v := .bool false) ?_ hd (HZ.out _ HK1.out.below)))
    simp [results, Tryz.results193, ha]
  refine wpCut_cons ?_
  simp only [List.take_succ_cons, List.take_zero, List.drop_succ_cons, List.drop_zero]
  go_wp2_with fail
  refine (H1.out _ HK1.out.below).mono ?_
  rintro e V ⟨rfl, hb⟩
  replace HK1 := hiq (HK.out _ _ HK1.out hb)
  replace q := HX.out _ HK1.out
  clear hb
  go_wp2_with fail
  cases r1
  case false =>
    refine wpCut_skip 17 4 16 (by kernel_rfl) rfl rfl ?_
    intro a ha hd
    refine hK _ _ (wp_ret (bodyPost_ret (v := .bool false) ?_ hd (HZ.out _ HK1.out.below)))
    simp [results, Tryz.results193, ha]
  refine wpCut_nil ?_
  go_wp2
  exact HZ.out _ HK1.out.below
theorem sme_pat {l l' : List Dv} (hi : LT.Inv .pat (.struc l)) (hi' : LT.Inv .pat (.struc l')) {w : World} {P : Ending -> World -> Prop} (HC : AllS w (fun g => ∀ V, Below w.heap.size w V -> P (.returned (.bool g)) V) true (LT.fk .pat) l l') : Calls Tryz.prog 194 #[.agg (Dv.cellsL l).toArray, .agg (Dv.cellsL l').toArray] w P := by
  have HG := hiq (keepB_new w 124 (Dv.cellsL l).toArray (Dv.cellsL l').toArray)
  have HK : Hid (∀ V V', KeepB w 124 (Dv.cellsL l).toArray (Dv.cellsL l').toArray V -> Below V.heap.size V V' -> KeepB w 124 (Dv.cellsL l).toArray (Dv.cellsL l').toArray V') := fun V V' h hb => h.next hb
  have HX : Hid (∀ V, KeepB w 124 (Dv.cellsL l).toArray (Dv.cellsL l').toArray V -> CellsAt V w.heap.size 0 (Dv.cellsL l) /\ CellsAt V (w.heap.size + 1) 0 (Dv.cellsL l')) := fun V h => h.cells
  generalize (Dv.cellsL l).toArray = A at *
  generalize (Dv.cellsL l').toArray = A2 at *
  dsimp only [LT.Inv] at hi hi'
  repeat (rcases (hi : ∃ _, _) with ⟨_, hi⟩)
  repeat (rcases (hi' : ∃ _, _) with ⟨_, hi'⟩)
  injection hi with hi
  injection hi' with hi'
  subst hi
  subst hi'
  simp only [Dv.cells, Dv.cellsL, List.cons_append, List.nil_append, List.append_nil, CellsAt, Nat.zero_add, Nat.reduceAdd, and_true] at HX
  dsimp only [LT.fk, AllS, SFact, LT.isQ, LT.tid, LT.sf, LT.slf] at HC
  simp only [Dv.val, Dv.cells, Dv.cellsL, List.cons_append, List.nil_append, List.append_nil] at HC
  obtain ⟨r0, H0, HC⟩ := HC
  obtain ⟨r1, H1, HC⟩ := HC
  have E0 := eqr_text w H0.out
  have HZ := hiq HC
  clear HC
  go_enter Tryz.func194, Tryz.ntmps194
  generalize hC1 : Code.region 1 _ _ = C1
  go_wp2_with fail
  rename_i K hK
  have hk1 := HG.out
  generalize World.alloc (World.alloc _ _) _ = W1 at *
  have q := HX.out _ hk1
  have HK1 := hiq hk1
  clear hk1 HG
  subst hC1
  try simp only [List.cons_append, List.nil_append]
  refine wp_region_cut [5, 7] ?_
  refine wpCut_cons ?_
  simp only [List.take_succ_cons, List.take_zero, List.drop_succ_cons, List.drop_zero]
  go_wp2_with fail
  cases r0
  case false =>
    refine wpCut_skip 17 4 9 (by kernel_rfl) rfl rfl ?_
    intro a ha hd
    refine hK _ _ (wp_ret (bodyPost_ret (v := .bool false) ?_ hd (HZ.out _ HK1.out.below)))
    simp [results, Tryz.results194, ha]
  refine wpCut_cons ?_
  simp only [List.take_succ_cons, List.take_zero, List.drop_succ_cons, List.drop_zero]
  go_wp2_with fail
  refine (H1.out _ HK1.out.below).mono ?_
  rintro e V ⟨rfl, hb⟩
  replace HK1 := hiq (HK.out _ _ HK1.out hb)
  replace q := HX.out _ HK1.out
  clear hb
  go_wp2_with fail
  cases r1
  case false =>
    refine wpCut_skip 17 4 16 (by kernel_rfl) rfl rfl ?_
    intro a ha hd
    refine hK _ _ (wp_ret (bodyPost_ret (v := .bool false) ?_ hd (HZ.out _ HK1.out.below)))
    simp [results, Tryz.results194, ha]
  refine wpCut_nil ?_
  go_wp2
  exact HZ.out _ HK1.out.below
theorem sme_rul {l l' : List Dv} (hi : LT.Inv .rul (.struc l)) (hi' : LT.Inv .rul (.struc l')) {w : World} {P : Ending -> World -> Prop} (HC : AllS w (fun g => ∀ V, Below w.heap.size w V -> P (.returned (.bool g)) V) true (LT.fk .rul) l l') : Calls Tryz.prog 192 #[.agg (Dv.cellsL l).toArray, .agg (Dv.cellsL l').toArray] w P := by
  have HG := hiq (keepB_new w 115 (Dv.cellsL l).toArray (Dv.cellsL l').toArray)
  have HK : Hid (∀ V V', KeepB w 115 (Dv.cellsL l).toArray (Dv.cellsL l').toArray V -> Below V.heap.size V V' -> KeepB w 115 (Dv.cellsL l).toArray (Dv.cellsL l').toArray V') := fun V V' h hb => h.next hb
  have HX : Hid (∀ V, KeepB w 115 (Dv.cellsL l).toArray (Dv.cellsL l').toArray V -> CellsAt V w.heap.size 0 (Dv.cellsL l) /\ CellsAt V (w.heap.size + 1) 0 (Dv.cellsL l')) := fun V h => h.cells
  generalize (Dv.cellsL l).toArray = A at *
  generalize (Dv.cellsL l').toArray = A2 at *
  dsimp only [LT.Inv] at hi hi'
  repeat (rcases (hi : ∃ _, _) with ⟨_, hi⟩)
  repeat (rcases (hi' : ∃ _, _) with ⟨_, hi'⟩)
  injection hi with hi
  injection hi' with hi'
  subst hi
  subst hi'
  simp only [Dv.cells, Dv.cellsL, List.cons_append, List.nil_append, List.append_nil, CellsAt, Nat.zero_add, Nat.reduceAdd, and_true] at HX
  dsimp only [LT.fk, AllS, SFact, LT.isQ, LT.tid, LT.sf, LT.slf] at HC
  simp only [Dv.val, Dv.cells, Dv.cellsL, List.cons_append, List.nil_append, List.append_nil] at HC
  obtain ⟨r0, H0, HC⟩ := HC
  obtain ⟨r1, H1, HC⟩ := HC
  have E0 := eqr_text w H0.out
  have HZ := hiq HC
  clear HC
  go_enter Tryz.func192, Tryz.ntmps192
  generalize hC1 : Code.region 1 _ _ = C1
  go_wp2_with fail
  rename_i K hK
  have hk1 := HG.out
  generalize World.alloc (World.alloc _ _) _ = W1 at *
  have q := HX.out _ hk1
  have HK1 := hiq hk1
  clear hk1 HG
  subst hC1
  try simp only [List.cons_append, List.nil_append]
  refine wp_region_cut [5, 7] ?_
  refine wpCut_cons ?_
  simp only [List.take_succ_cons, List.take_zero, List.drop_succ_cons, List.drop_zero]
  go_wp2_with fail
  cases r0
  case false =>
    refine wpCut_skip 17 4 9 (by kernel_rfl) rfl rfl ?_
    intro a ha hd
    refine hK _ _ (wp_ret (bodyPost_ret (v := .bool false) ?_ hd (HZ.out _ HK1.out.below)))
    simp [results, Tryz.results192, ha]
  refine wpCut_cons ?_
  simp only [List.take_succ_cons, List.take_zero, List.drop_succ_cons, List.drop_zero]
  go_wp2_with fail
  refine (H1.out _ HK1.out.below).mono ?_
  rintro e V ⟨rfl, hb⟩
  replace HK1 := hiq (HK.out _ _ HK1.out hb)
  replace q := HX.out _ HK1.out
  clear hb
  go_wp2_with fail
  cases r1
  case false =>
    refine wpCut_skip 17 4 16 (by kernel_rfl) rfl rfl ?_
    intro a ha hd
    refine hK _ _ (wp_ret (bodyPost_ret (v := .bool false) ?_ hd (HZ.out _ HK1.out.below)))
    simp [results, Tryz.results192, ha]
  refine wpCut_nil ?_
  go_wp2
  exact HZ.out _ HK1.out.below
theorem sme_wit {l l' : List Dv} (hi : LT.Inv .wit (.struc l)) (hi' : LT.Inv .wit (.struc l')) {w : World} {P : Ending -> World -> Prop} (HC : AllS w (fun g => ∀ V, Below w.heap.size w V -> P (.returned (.bool g)) V) true (LT.fk .wit) l l') : Calls Tryz.prog 191 #[.agg (Dv.cellsL l).toArray, .agg (Dv.cellsL l').toArray] w P := by
  have HG := hiq (keepB_new w 66 (Dv.cellsL l).toArray (Dv.cellsL l').toArray)
  have HK : Hid (∀ V V', KeepB w 66 (Dv.cellsL l).toArray (Dv.cellsL l').toArray V -> Below V.heap.size V V' -> KeepB w 66 (Dv.cellsL l).toArray (Dv.cellsL l').toArray V') := fun V V' h hb => h.next hb
  have HX : Hid (∀ V, KeepB w 66 (Dv.cellsL l).toArray (Dv.cellsL l').toArray V -> CellsAt V w.heap.size 0 (Dv.cellsL l) /\ CellsAt V (w.heap.size + 1) 0 (Dv.cellsL l')) := fun V h => h.cells
  generalize (Dv.cellsL l).toArray = A at *
  generalize (Dv.cellsL l').toArray = A2 at *
  dsimp only [LT.Inv] at hi hi'
  repeat (rcases (hi : ∃ _, _) with ⟨_, hi⟩)
  repeat (rcases (hi' : ∃ _, _) with ⟨_, hi'⟩)
  injection hi with hi
  injection hi' with hi'
  subst hi
  subst hi'
  simp only [Dv.cells, Dv.cellsL, List.cons_append, List.nil_append, List.append_nil, CellsAt, Nat.zero_add, Nat.reduceAdd, and_true] at HX
  dsimp only [LT.fk, AllS, SFact, LT.isQ, LT.tid, LT.sf, LT.slf] at HC
  simp only [Dv.val, Dv.cells, Dv.cellsL, List.cons_append, List.nil_append, List.append_nil] at HC
  obtain ⟨r0, H0, HC⟩ := HC
  obtain ⟨r1, H1, HC⟩ := HC
  have E0 := eqr_text w H0.out
  have HZ := hiq HC
  clear HC
  go_enter Tryz.func191, Tryz.ntmps191
  generalize hC1 : Code.region 1 _ _ = C1
  go_wp2_with fail
  rename_i K hK
  have hk1 := HG.out
  generalize World.alloc (World.alloc _ _) _ = W1 at *
  have q := HX.out _ hk1
  have HK1 := hiq hk1
  clear hk1 HG
  subst hC1
  try simp only [List.cons_append, List.nil_append]
  refine wp_region_cut [5, 7] ?_
  refine wpCut_cons ?_
  simp only [List.take_succ_cons, List.take_zero, List.drop_succ_cons, List.drop_zero]
  go_wp2_with fail
  cases r0
  case false =>
    refine wpCut_skip 17 4 9 (by kernel_rfl) rfl rfl ?_
    intro a ha hd
    refine hK _ _ (wp_ret (bodyPost_ret (v := .bool false) ?_ hd (HZ.out _ HK1.out.below)))
    simp [results, Tryz.results191, ha]
  refine wpCut_cons ?_
  simp only [List.take_succ_cons, List.take_zero, List.drop_succ_cons, List.drop_zero]
  go_wp2_with fail
  refine (H1.out _ HK1.out.below).mono ?_
  rintro e V ⟨rfl, hb⟩
  replace HK1 := hiq (HK.out _ _ HK1.out hb)
  replace q := HX.out _ HK1.out
  clear hb
  go_wp2_with fail
  cases r1
  case false =>
    refine wpCut_skip 17 4 16 (by kernel_rfl) rfl rfl ?_
    intro a ha hd
    refine hK _ _ (wp_ret (bodyPost_ret (v := .bool false) ?_ hd (HZ.out _ HK1.out.below)))
    simp [results, Tryz.results191, ha]
  refine wpCut_nil ?_
  go_wp2
  exact HZ.out _ HK1.out.below
theorem sme_nod {l l' : List Dv} (hi : LT.Inv .nod (.struc l)) (hi' : LT.Inv .nod (.struc l')) {w : World} {P : Ending -> World -> Prop} (HC : AllS w (fun g => ∀ V, Below w.heap.size w V -> P (.returned (.bool g)) V) true (LT.fk .nod) l l') : Calls Tryz.prog 257 #[.agg (Dv.cellsL l).toArray, .agg (Dv.cellsL l').toArray] w P := by
  have HG := hiq (keepB_new w 64 (Dv.cellsL l).toArray (Dv.cellsL l').toArray)
  have HK : Hid (∀ V V', KeepB w 64 (Dv.cellsL l).toArray (Dv.cellsL l').toArray V -> Below V.heap.size V V' -> KeepB w 64 (Dv.cellsL l).toArray (Dv.cellsL l').toArray V') := fun V V' h hb => h.next hb
  have HX : Hid (∀ V, KeepB w 64 (Dv.cellsL l).toArray (Dv.cellsL l').toArray V -> CellsAt V w.heap.size 0 (Dv.cellsL l) /\ CellsAt V (w.heap.size + 1) 0 (Dv.cellsL l')) := fun V h => h.cells
  generalize (Dv.cellsL l).toArray = A at *
  generalize (Dv.cellsL l').toArray = A2 at *
  dsimp only [LT.Inv] at hi hi'
  repeat (rcases (hi : ∃ _, _) with ⟨_, hi⟩)
  repeat (rcases (hi' : ∃ _, _) with ⟨_, hi'⟩)
  injection hi with hi
  injection hi' with hi'
  subst hi
  subst hi'
  simp only [Dv.cells, Dv.cellsL, List.cons_append, List.nil_append, List.append_nil, CellsAt, Nat.zero_add, Nat.reduceAdd, and_true] at HX
  dsimp only [LT.fk, AllS, SFact, LT.isQ, LT.tid, LT.sf, LT.slf] at HC
  simp only [Dv.val, Dv.cells, Dv.cellsL, List.cons_append, List.nil_append, List.append_nil] at HC
  obtain ⟨r0, H0, HC⟩ := HC
  obtain ⟨r1, H1, HC⟩ := HC
  obtain ⟨r2, H2, HC⟩ := HC
  obtain ⟨r3, H3, HC⟩ := HC
  have E0 := eqr_int w H0.out
  have E1 := eqr_text w H1.out
  have E2 := eqr_int w H2.out
  have HZ := hiq HC
  clear HC
  go_enter Tryz.func257, Tryz.ntmps257
  generalize hC1 : Code.region 1 _ _ = C1
  go_wp2_with fail
  rename_i K hK
  have hk1 := HG.out
  generalize World.alloc (World.alloc _ _) _ = W1 at *
  have q := HX.out _ hk1
  have HK1 := hiq hk1
  clear hk1 HG
  subst hC1
  try simp only [List.cons_append, List.nil_append]
  refine wp_region_cut [5, 7, 7, 7] ?_
  refine wpCut_cons ?_
  simp only [List.take_succ_cons, List.take_zero, List.drop_succ_cons, List.drop_zero]
  go_wp2_with fail
  cases r0
  case false =>
    refine wpCut_skip 31 4 9 (by kernel_rfl) rfl rfl ?_
    intro a ha hd
    refine hK _ _ (wp_ret (bodyPost_ret (v := .bool false) ?_ hd (HZ.out _ HK1.out.below)))
    simp [results, Tryz.results257, ha]
  refine wpCut_cons ?_
  simp only [List.take_succ_cons, List.take_zero, List.drop_succ_cons, List.drop_zero]
  go_wp2_with fail
  cases r1
  case false =>
    refine wpCut_skip 31 4 16 (by kernel_rfl) rfl rfl ?_
    intro a ha hd
    refine hK _ _ (wp_ret (bodyPost_ret (v := .bool false) ?_ hd (HZ.out _ HK1.out.below)))
    simp [results, Tryz.results257, ha]
  refine wpCut_cons ?_
  simp only [List.take_succ_cons, List.take_zero, List.drop_succ_cons, List.drop_zero]
  go_wp2_with fail
  cases r2
  case false =>
    refine wpCut_skip 31 4 23 (by kernel_rfl) rfl rfl ?_
    intro a ha hd
    refine hK _ _ (wp_ret (bodyPost_ret (v := .bool false) ?_ hd (HZ.out _ HK1.out.below)))
    simp [results, Tryz.results257, ha]
  refine wpCut_cons ?_
  simp only [List.take_succ_cons, List.take_zero, List.drop_succ_cons, List.drop_zero]
  go_wp2_with fail
  refine (H3.out _ HK1.out.below).mono ?_
  rintro e V ⟨rfl, hb⟩
  replace HK1 := hiq (HK.out _ _ HK1.out hb)
  replace q := HX.out _ HK1.out
  clear hb
  go_wp2_with fail
  cases r3
  case false =>
    refine wpCut_skip 31 4 30 (by kernel_rfl) rfl rfl ?_
    intro a ha hd
    refine hK _ _ (wp_ret (bodyPost_ret (v := .bool false) ?_ hd (HZ.out _ HK1.out.below)))
    simp [results, Tryz.results257, ha]
  refine wpCut_nil ?_
  go_wp2
  exact HZ.out _ HK1.out.below
theorem sme_exp {l l' : List Dv} (hi : LT.Inv .exp (.struc l)) (hi' : LT.Inv .exp (.struc l')) {w : World} {P : Ending -> World -> Prop} (HC : AllS w (fun g => ∀ V, Below w.heap.size w V -> P (.returned (.bool g)) V) true (LT.fk .exp) l l') : Calls Tryz.prog 239 #[.agg (Dv.cellsL l).toArray, .agg (Dv.cellsL l').toArray] w P := by
  have HG := hiq (keepB_new w 113 (Dv.cellsL l).toArray (Dv.cellsL l').toArray)
  have HK : Hid (∀ V V', KeepB w 113 (Dv.cellsL l).toArray (Dv.cellsL l').toArray V -> Below V.heap.size V V' -> KeepB w 113 (Dv.cellsL l).toArray (Dv.cellsL l').toArray V') := fun V V' h hb => h.next hb
  have HX : Hid (∀ V, KeepB w 113 (Dv.cellsL l).toArray (Dv.cellsL l').toArray V -> CellsAt V w.heap.size 0 (Dv.cellsL l) /\ CellsAt V (w.heap.size + 1) 0 (Dv.cellsL l')) := fun V h => h.cells
  generalize (Dv.cellsL l).toArray = A at *
  generalize (Dv.cellsL l').toArray = A2 at *
  dsimp only [LT.Inv] at hi hi'
  repeat (rcases (hi : ∃ _, _) with ⟨_, hi⟩)
  repeat (rcases (hi' : ∃ _, _) with ⟨_, hi'⟩)
  injection hi with hi
  injection hi' with hi'
  subst hi
  subst hi'
  simp only [Dv.cells, Dv.cellsL, List.cons_append, List.nil_append, List.append_nil, CellsAt, Nat.zero_add, Nat.reduceAdd, and_true] at HX
  dsimp only [LT.fk, AllS, SFact, LT.isQ, LT.tid, LT.sf, LT.slf] at HC
  simp only [Dv.val, Dv.cells, Dv.cellsL, List.cons_append, List.nil_append, List.append_nil] at HC
  obtain ⟨r0, H0, HC⟩ := HC
  obtain ⟨r1, H1, HC⟩ := HC
  obtain ⟨r2, H2, HC⟩ := HC
  obtain ⟨r3, H3, HC⟩ := HC
  have E0 := eqr_int w H0.out
  have E1 := eqr_int w H1.out
  have E2 := eqr_text w H2.out
  have HZ := hiq HC
  clear HC
  go_enter Tryz.func239, Tryz.ntmps239
  generalize hC1 : Code.region 1 _ _ = C1
  go_wp2_with fail
  rename_i K hK
  have hk1 := HG.out
  generalize World.alloc (World.alloc _ _) _ = W1 at *
  have q := HX.out _ hk1
  have HK1 := hiq hk1
  clear hk1 HG
  subst hC1
  try simp only [List.cons_append, List.nil_append]
  refine wp_region_cut [5, 7, 7, 7] ?_
  refine wpCut_cons ?_
  simp only [List.take_succ_cons, List.take_zero, List.drop_succ_cons, List.drop_zero]
  go_wp2_with fail
  cases r0
  case false =>
    refine wpCut_skip 31 4 9 (by kernel_rfl) rfl rfl ?_
    intro a ha hd
    refine hK _ _ (wp_ret (bodyPost_ret (v := .bool false) ?_ hd (HZ.out _ HK1.out.below)))
    simp [results, Tryz.results239, ha]
  refine wpCut_cons ?_
  simp only [List.take_succ_cons, List.take_zero, List.drop_succ_cons, List.drop_zero]
  go_wp2_with fail
  cases r1
  case false =>
    refine wpCut_skip 31 4 16 (by kernel_rfl) rfl rfl ?_
    intro a ha hd
    refine hK _ _ (wp_ret (bodyPost_ret (v := .bool false) ?_ hd (HZ.out _ HK1.out.below)))
    simp [results, Tryz.results239, ha]
  refine wpCut_cons ?_
  simp only [List.take_succ_cons, List.take_zero, List.drop_succ_cons, List.drop_zero]
  go_wp2_with fail
  cases r2
  case false =>
    refine wpCut_skip 31 4 23 (by kernel_rfl) rfl rfl ?_
    intro a ha hd
    refine hK _ _ (wp_ret (bodyPost_ret (v := .bool false) ?_ hd (HZ.out _ HK1.out.below)))
    simp [results, Tryz.results239, ha]
  refine wpCut_cons ?_
  simp only [List.take_succ_cons, List.take_zero, List.drop_succ_cons, List.drop_zero]
  go_wp2_with fail
  refine (H3.out _ HK1.out.below).mono ?_
  rintro e V ⟨rfl, hb⟩
  replace HK1 := hiq (HK.out _ _ HK1.out hb)
  replace q := HX.out _ HK1.out
  clear hb
  go_wp2_with fail
  cases r3
  case false =>
    refine wpCut_skip 31 4 30 (by kernel_rfl) rfl rfl ?_
    intro a ha hd
    refine hK _ _ (wp_ret (bodyPost_ret (v := .bool false) ?_ hd (HZ.out _ HK1.out.below)))
    simp [results, Tryz.results239, ha]
  refine wpCut_nil ?_
  go_wp2
  exact HZ.out _ HK1.out.below
end Go.Proofs.YtlbcmeebcfalpaaGreatDoor
namespace Go.Proofs.YtlbcmeebcfalpaaGreatDoor
open Go.RowKit

theorem sme_sec {l l' : List Dv} (hi : LT.Inv .sec (.struc l)) (hi' : LT.Inv .sec (.struc l')) {w : World} {P : Ending -> World -> Prop} (HC : AllS w (fun g => ∀ V, Below w.heap.size w V -> P (.returned (.bool g)) V) true (LT.fk .sec) l l') : Calls Tryz.prog 195 #[.agg (Dv.cellsL l).toArray, .agg (Dv.cellsL l').toArray] w P := by
  have HG := hiq (keepB_new w 87 (Dv.cellsL l).toArray (Dv.cellsL l').toArray)
  have HK : Hid (∀ V V', KeepB w 87 (Dv.cellsL l).toArray (Dv.cellsL l').toArray V -> Below V.heap.size V V' -> KeepB w 87 (Dv.cellsL l).toArray (Dv.cellsL l').toArray V') := fun V V' h hb => h.next hb
  have HX : Hid (∀ V, KeepB w 87 (Dv.cellsL l).toArray (Dv.cellsL l').toArray V -> CellsAt V w.heap.size 0 (Dv.cellsL l) /\ CellsAt V (w.heap.size + 1) 0 (Dv.cellsL l')) := fun V h => h.cells
  generalize (Dv.cellsL l).toArray = A at *
  generalize (Dv.cellsL l').toArray = A2 at *
  dsimp only [LT.Inv] at hi hi'
  repeat (rcases (hi : ∃ _, _) with ⟨_, hi⟩)
  repeat (rcases (hi' : ∃ _, _) with ⟨_, hi'⟩)
  injection hi with hi
  injection hi' with hi'
  subst hi
  subst hi'
  simp only [Dv.cells, Dv.cellsL, List.cons_append, List.nil_append, List.append_nil, CellsAt, Nat.zero_add, Nat.reduceAdd, and_true] at HX
  dsimp only [LT.fk, AllS, SFact, LT.isQ, LT.tid, LT.sf, LT.slf] at HC
  simp only [Dv.val, Dv.cells, Dv.cellsL, List.cons_append, List.nil_append, List.append_nil] at HC
  obtain ⟨r0, H0, HC⟩ := HC
  obtain ⟨r1, H1, HC⟩ := HC
  obtain ⟨r2, H2, HC⟩ := HC
  obtain ⟨r3, H3, HC⟩ := HC
  obtain ⟨r4, H4, HC⟩ := HC
  have E0 := eqr_text w H0.out
  have E4 := eqr_text w H4.out
  have HZ := hiq HC
  clear HC
  go_enter Tryz.func195, Tryz.ntmps195
  generalize hC1 : Code.region 1 _ _ = C1
  go_wp2_with fail
  rename_i K hK
  have hk1 := HG.out
  generalize World.alloc (World.alloc _ _) _ = W1 at *
  have q := HX.out _ hk1
  have HK1 := hiq hk1
  clear hk1 HG
  subst hC1
  try simp only [List.cons_append, List.nil_append]
  refine wp_region_cut [5, 7, 7, 7, 7] ?_
  refine wpCut_cons ?_
  simp only [List.take_succ_cons, List.take_zero, List.drop_succ_cons, List.drop_zero]
  go_wp2_with fail
  cases r0
  case false =>
    refine wpCut_skip 38 4 9 (by kernel_rfl) rfl rfl ?_
    intro a ha hd
    refine hK _ _ (wp_ret (bodyPost_ret (v := .bool false) ?_ hd (HZ.out _ HK1.out.below)))
    simp [results, Tryz.results195, ha]
  refine wpCut_cons ?_
  simp only [List.take_succ_cons, List.take_zero, List.drop_succ_cons, List.drop_zero]
  go_wp2_with fail
  refine (H1.out _ HK1.out.below).mono ?_
  rintro e V ⟨rfl, hb⟩
  replace HK1 := hiq (HK.out _ _ HK1.out hb)
  replace q := HX.out _ HK1.out
  clear hb
  go_wp2_with fail
  cases r1
  case false =>
    refine wpCut_skip 38 4 16 (by kernel_rfl) rfl rfl ?_
    intro a ha hd
    refine hK _ _ (wp_ret (bodyPost_ret (v := .bool false) ?_ hd (HZ.out _ HK1.out.below)))
    simp [results, Tryz.results195, ha]
  refine wpCut_cons ?_
  simp only [List.take_succ_cons, List.take_zero, List.drop_succ_cons, List.drop_zero]
  go_wp2_with fail
  refine (H2.out _ HK1.out.below).mono ?_
  rintro e V ⟨rfl, hb⟩
  replace HK1 := hiq (HK.out _ _ HK1.out hb)
  replace q := HX.out _ HK1.out
  clear hb
  go_wp2_with fail
  cases r2
  case false =>
    refine wpCut_skip 38 4 23 (by kernel_rfl) rfl rfl ?_
    intro a ha hd
    refine hK _ _ (wp_ret (bodyPost_ret (v := .bool false) ?_ hd (HZ.out _ HK1.out.below)))
    simp [results, Tryz.results195, ha]
  refine wpCut_cons ?_
  simp only [List.take_succ_cons, List.take_zero, List.drop_succ_cons, List.drop_zero]
  go_wp2_with fail
  refine (H3.out _ HK1.out.below).mono ?_
  rintro e V ⟨rfl, hb⟩
  replace HK1 := hiq (HK.out _ _ HK1.out hb)
  replace q := HX.out _ HK1.out
  clear hb
  go_wp2_with fail
  cases r3
  case false =>
    refine wpCut_skip 38 4 30 (by kernel_rfl) rfl rfl ?_
    intro a ha hd
    refine hK _ _ (wp_ret (bodyPost_ret (v := .bool false) ?_ hd (HZ.out _ HK1.out.below)))
    simp [results, Tryz.results195, ha]
  refine wpCut_cons ?_
  simp only [List.take_succ_cons, List.take_zero, List.drop_succ_cons, List.drop_zero]
  go_wp2_with fail
  cases r4
  case false =>
    refine wpCut_skip 38 4 37 (by kernel_rfl) rfl rfl ?_
    intro a ha hd
    refine hK _ _ (wp_ret (bodyPost_ret (v := .bool false) ?_ hd (HZ.out _ HK1.out.below)))
    simp [results, Tryz.results195, ha]
  refine wpCut_nil ?_
  go_wp2
  exact HZ.out _ HK1.out.below
end Go.Proofs.YtlbcmeebcfalpaaGreatDoor
