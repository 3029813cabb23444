/- Joined: ISs5, ISc, IPrn, IVal, IPar, IAwk. -/
import Derived.Test.YtlbcmeebcfalpaaGreatDoorR14
import Derived.Test.YtlbcmeebcfalpaaGreatDoorR26
import Derived.Test.YtlbcmeebcfalpaaGreatDoorR12
import Derived.Test.YtlbcmeebcfalpaaGreatDoorR20
import Derived.Test.YtlbcmeebcfalpaaGreatDoorR03
import Derived.StillTail
import Derived.StillTailTactics
import Derived.Deep.QuietTactic
import Derived.BigQuiet
import Derived.Test.YtlbcmeebcfalpaaGreatDoorR23
set_option linter.unusedVariables false
set_option linter.unusedSimpArgs false
set_option maxRecDepth 100000
set_option maxHeartbeats 16000000
namespace Go.Proofs.YtlbcmeebcfalpaaGreatDoor
open Go.RowKit

theorem sme_inp {l l' : List Dv} (hi : LT.Inv .inp (.struc l)) (hi' : LT.Inv .inp (.struc l')) {w : World} {P : Ending -> World -> Prop} (HC : AllS w (fun g => ∀ V, Below w.heap.size w V -> P (.returned (.bool g)) V) true (LT.fk .inp) l l') : Calls Tryz.prog 47 #[.agg (Dv.cellsL l).toArray, .agg (Dv.cellsL l').toArray] w P := by
  have HG := hiq (keepB_new w 58 (Dv.cellsL l).toArray (Dv.cellsL l').toArray)
  have HK : Hid (∀ V V', KeepB w 58 (Dv.cellsL l).toArray (Dv.cellsL l').toArray V -> Below V.heap.size V V' -> KeepB w 58 (Dv.cellsL l).toArray (Dv.cellsL l').toArray V') := fun V V' h hb => h.next hb
  have HX : Hid (∀ V, KeepB w 58 (Dv.cellsL l).toArray (Dv.cellsL l').toArray V -> CellsAt V w.heap.size 0 (Dv.cellsL l) /\ CellsAt V (w.heap.size + 1) 0 (Dv.cellsL l')) := fun V h => h.cells
  generalize (Dv.cellsL l).toArray = A at *
  generalize (Dv.cellsL l').toArray = A2 at *
  dsimp only [LT.Inv] at hi hi'
  repeat (rcases (hi : ∃ _, _) with ⟨_, hi⟩)
  repeat (rcases (hi' : ∃ _, _) with ⟨_, hi'⟩)
  injection hi with hi
  injection hi' with hi'
  subst hi
  subst hi'
  simp only [Dv.cells, Dv.cellsL, List.cons_append, List.nil_append, List.append_nil, CellsAt, Nat.zero_add, Nat.reduceAdd, and_true] at HX
  dsimp only [LT.fk, AllS, SFact, LT.isQ, LT.tid, LT.sf, LT.slf] at HC
  simp only [Dv.val, Dv.cells, Dv.cellsL, List.cons_append, List.nil_append, List.append_nil] at HC
  obtain ⟨r0, H0, HC⟩ := HC
  obtain ⟨r1, H1, HC⟩ := HC
  obtain ⟨r2, H2, HC⟩ := HC
  obtain ⟨r3, H3, HC⟩ := HC
  obtain ⟨r4, H4, HC⟩ := HC
  obtain ⟨r5, H5, HC⟩ := HC
  obtain ⟨r6, H6, HC⟩ := HC
  obtain ⟨r7, H7, HC⟩ := HC
  obtain ⟨r8, H8, HC⟩ := HC
  obtain ⟨r9, H9, HC⟩ := HC
  obtain ⟨r10, H10, HC⟩ := HC
  obtain ⟨r11, H11, HC⟩ := HC
  obtain ⟨r12, H12, HC⟩ := HC
  have E0 := eqr_text w H0.out
  have E3 := eqr_cst H3.out
  have E7 := eqr_int w H7.out
  have E11 := eqr_text w H11.out
  have HZ := hiq HC
  clear HC
  go_enter Tryz.func47, Tryz.ntmps47
  generalize hC1 : Code.region 1 _ _ = C1
  go_wp2_with fail
  rename_i K hK
  have hk1 := HG.out
  generalize World.alloc (World.alloc _ _) _ = W1 at *
  have q := HX.out _ hk1
  have HK1 := hiq hk1
  clear hk1 HG
  subst hC1
  try simp only [List.append_eq, List.cons_append, List.nil_append]
  refine wp_region_cut [5, 7, 7, 7, 7, 7, 7, 7, 7, 7, 7, 7, 7] ?_
  refine wpCut_cons ?_
  simp only [List.take_succ_cons, List.take_zero, List.drop_succ_cons, List.drop_zero]
  go_wp2_with fail
  cases r0
  case false =>
    refine wpCut_skip 94 4 9 (by kernel_rfl) rfl rfl ?_
    intro a ha hd
    refine hK _ _ (wp_ret (bodyPost_ret (v := .bool false) ?_ hd (HZ.out _ HK1.out.below)))
    simp [results, Tryz.results47, ha]
  refine wpCut_cons ?_
  simp only [List.take_succ_cons, List.take_zero, List.drop_succ_cons, List.drop_zero]
  go_wp2_with fail
  refine (H1.out _ HK1.out.below).mono ?_
  rintro e V ⟨rfl, hb⟩
  replace HK1 := hiq (HK.out _ _ HK1.out hb)
  replace q := HX.out _ HK1.out
  clear hb
  go_wp2_with fail
  cases r1
  case false =>
    refine wpCut_skip 94 4 16 (by kernel_rfl) rfl rfl ?_
    intro a ha hd
    refine hK _ _ (wp_ret (bodyPost_ret (v := .bool false) ?_ hd (HZ.out _ HK1.out.below)))
    simp [results, Tryz.results47, ha]
  refine wpCut_cons ?_
  simp only [List.take_succ_cons, List.take_zero, List.drop_succ_cons, List.drop_zero]
  go_wp2_with fail
  refine (H2.out _ HK1.out.below).mono ?_
  rintro e V ⟨rfl, hb⟩
  replace HK1 := hiq (HK.out _ _ HK1.out hb)
  replace q := HX.out _ HK1.out
  clear hb
  go_wp2_with fail
  cases r2
  case false =>
    refine wpCut_skip 94 4 23 (by kernel_rfl) rfl rfl ?_
    intro a ha hd
    refine hK _ _ (wp_ret (bodyPost_ret (v := .bool false) ?_ hd (HZ.out _ HK1.out.below)))
    simp [results, Tryz.results47, ha]
  refine wpCut_cons ?_
  simp only [List.take_succ_cons, List.take_zero, List.drop_succ_cons, List.drop_zero]
  go_wp2_with fail
  cases r3
  case false =>
    refine wpCut_skip 94 4 30 (by kernel_rfl) rfl rfl ?_
    intro a ha hd
    refine hK _ _ (wp_ret (bodyPost_ret (v := .bool false) ?_ hd (HZ.out _ HK1.out.below)))
    simp [results, Tryz.results47, ha]
  refine wpCut_cons ?_
  simp only [List.take_succ_cons, List.take_zero, List.drop_succ_cons, List.drop_zero]
  go_wp2_with fail
  refine (H4.out _ HK1.out.below).mono ?_
  rintro e V ⟨rfl, hb⟩
  replace HK1 := hiq (HK.out _ _ HK1.out hb)
  replace q := HX.out _ HK1.out
  clear hb
  go_wp2_with fail
  cases r4
  case false =>
    refine wpCut_skip 94 4 37 (by kernel_rfl) rfl rfl ?_
    intro a ha hd
    refine hK _ _ (wp_ret (bodyPost_ret (v := .bool false) ?_ hd (HZ.out _ HK1.out.below)))
    simp [results, Tryz.results47, ha]
  refine wpCut_cons ?_
  simp only [List.take_succ_cons, List.take_zero, List.drop_succ_cons, List.drop_zero]
  go_wp2_with fail
  refine (H5.out _ HK1.out.below).mono ?_
  rintro e V ⟨rfl, hb⟩
  replace HK1 := hiq (HK.out _ _ HK1.out hb)
  replace q := HX.out _ HK1.out
  clear hb
  go_wp2_with fail
  cases r5
  case false =>
    refine wpCut_skip 94 4 44 (by kernel_rfl) rfl rfl ?_
    intro a ha hd
    refine hK _ _ (wp_ret (bodyPost_ret (v := .bool false) ?_ hd (HZ.out _ HK1.out.below)))
    simp [results, Tryz.results47, ha]
  refine wpCut_cons ?_
  simp only [List.take_succ_cons, List.take_zero, List.drop_succ_cons, List.drop_zero]
  go_wp2_with fail
  refine (H6.out _ HK1.out.below).mono ?_
  rintro e V ⟨rfl, hb⟩
  replace HK1 := hiq (HK.out _ _ HK1.out hb)
  replace q := HX.out _ HK1.out
  clear hb
  go_wp2_with fail
  cases r6
  case false =>
    refine wpCut_skip 94 4 51 (by kernel_rfl) rfl rfl ?_
    intro a ha hd
    refine hK _ _ (wp_ret (bodyPost_ret (v := .bool false) ?_ hd (HZ.out _ HK1.out.below)))
    simp [results, Tryz.results47, ha]
  refine wpCut_cons ?_
  simp only [List.take_succ_cons, List.take_zero, List.drop_succ_cons, List.drop_zero]
  go_wp2_with fail
  cases r7
  case false =>
    refine wpCut_skip 94 4 58 (by kernel_rfl) rfl rfl ?_
    intro a ha hd
    refine hK _ _ (wp_ret (bodyPost_ret (v := .bool false) ?_ hd (HZ.out _ HK1.out.below)))
    simp [results, Tryz.results47, ha]
  refine wpCut_cons ?_
  simp only [List.take_succ_cons, List.take_zero, List.drop_succ_cons, List.drop_zero]
  go_wp2_with fail
  refine (H8.out _ HK1.out.below).mono ?_
  rintro e V ⟨rfl, hb⟩
  replace HK1 := hiq (HK.out _ _ HK1.out hb)
  replace q := HX.out _ HK1.out
  clear hb
  go_wp2_with fail
  cases r8
  case false =>
    refine wpCut_skip 94 4 65 (by kernel_rfl) rfl rfl ?_
    intro a ha hd
    refine hK _ _ (wp_ret (bodyPost_ret (v := .bool false) ?_ hd (HZ.out _ HK1.out.below)))
    simp [results, Tryz.results47, ha]
  refine wpCut_cons ?_
  simp only [List.take_succ_cons, List.take_zero, List.drop_succ_cons, List.drop_zero]
  go_wp2_with fail
  refine (H9.out _ HK1.out.below).mono ?_
  rintro e V ⟨rfl, hb⟩
  replace HK1 := hiq (HK.out _ _ HK1.out hb)
  replace q := HX.out _ HK1.out
  clear hb
  go_wp2_with fail
  cases r9
  case false =>
    refine wpCut_skip 94 4 72 (by kernel_rfl) rfl rfl ?_
    intro a ha hd
    refine hK _ _ (wp_ret (bodyPost_ret (v := .bool false) ?_ hd (HZ.out _ HK1.out.below)))
    simp [results, Tryz.results47, ha]
  refine wpCut_cons ?_
  simp only [List.take_succ_cons, List.take_zero, List.drop_succ_cons, List.drop_zero]
  go_wp2_with fail
  refine (H10.out _ HK1.out.below).mono ?_
  rintro e V ⟨rfl, hb⟩
  replace HK1 := hiq (HK.out _ _ HK1.out hb)
  replace q := HX.out _ HK1.out
  clear hb
  go_wp2_with fail
  cases r10
  case false =>
    refine wpCut_skip 94 4 79 (by kernel_rfl) rfl rfl ?_
    intro a ha hd
    refine hK _ _ (wp_ret (bodyPost_ret (v := .bool false) ?_ hd (HZ.out _ HK1.out.below)))
    simp [results, Tryz.results47, ha]
  refine wpCut_cons ?_
  simp only [List.take_succ_cons, List.take_zero, List.drop_succ_cons, List.drop_zero]
  go_wp2_with fail
  cases r11
  case false =>
    refine wpCut_skip 94 4 86 (by kernel_rfl) rfl rfl ?_
    intro a ha hd
    refine hK _ _ (wp_ret (bodyPost_ret (v := .bool false) ?_ hd (HZ.out _ HK1.out.below)))
    simp [results, Tryz.results47, ha]
  refine wpCut_cons ?_
  simp only [List.take_succ_cons, List.take_zero, List.drop_succ_cons, List.drop_zero]
  go_wp2_with fail
  refine (H12.out _ HK1.out.below).mono ?_
  rintro e V ⟨rfl, hb⟩
  replace HK1 := hiq (HK.out _ _ HK1.out hb)
  replace q := HX.out _ HK1.out
  clear hb
  go_wp2_with fail
  cases r12
  case false =>
    refine wpCut_skip 94 4 93 (by kernel_rfl) rfl rfl ?_
    intro a ha hd
    refine hK _ _ (wp_ret (bodyPost_ret (v := .bool false) ?_ hd (HZ.out _ HK1.out.below)))
    simp [results, Tryz.results47, ha]
  refine wpCut_nil ?_
  go_wp2
  exact HZ.out _ HK1.out.below
end Go.Proofs.YtlbcmeebcfalpaaGreatDoor
namespace Go.Proofs.YtlbcmeebcfalpaaGreatDoor
open Go.RowKit

def SOk (d : Dv) : Prop := ∀ (T : LT) (d' : Dv), T.isX = true -> Has T.ty d -> Has T.ty d' -> ∀ (S S' : Nat -> Prop) (w : World), RdD S w d -> RdD S' w d' -> Calls Tryz.prog T.sf #[d.val, d'.val] w (SmeP d.toV d'.toV w)
@[reducible] def FK.ok2 : FK -> Bool | .one U => U.isQ || U.isX | .many U => U.isSA || U.isSB
theorem LT.fk_ok2 (T : LT) (h : T.isX = true) : ∀ x ∈ T.fk, x.ok2 = true := by cases T <;> first | (cases h; done) | decide
theorem LT.sa_x (T : LT) (h : T.isSA = true) : T.isX = true := by cases T <;> first | rfl | cases h
theorem LT.sb_q (T : LT) (h : T.isSB = true) : T.isQ = true := by cases T <;> first | rfl | cases h
theorem LT.x_w (T : LT) (h : T.isX = true) : T = .toks \/ T.isW = true := by cases T <;> first | exact .inl rfl | exact .inr rfl | cases h
theorem list_sok {U : LT} (hE : (U.isSA || U.isSB) = true) {S S' : Nat -> Prop} {w : World} {a a' : Option Addr} {c c' : Nat} {l m : List Dv} (hl : ∀ x ∈ l, Has U.ty x) (hm : ∀ x ∈ m, Has U.ty x) (hr : RdD S w (.list U.k U.s a c l)) (hr' : RdD S' w (.list U.k U.s a' c' m)) (hk : ∀ x ∈ l, SOk x) :
    Calls Tryz.prog U.slf #[.slice a l.length c, .slice a' m.length c'] w (SmeP (Dv.list U.k U.s a c l).toV (Dv.list U.k U.s a' c' m).toV w) := by
  have hI := rdD_list.1 hr
  have hI' := rdD_list.1 hr'
  rw [Dv.toV, Dv.toV, Dv.toVL_map, Dv.toVL_map]
  cases hA : U.isSA
  · rw [hA] at hE
    have hB : U.isSB = true := hE
    exact sb_any U hB hI hI' hl hm (fun d hd d' hd' W _ => (eqr_any U (U.sb_q hB) (hl d hd) (hm d' hd')).1)
  · refine sa_any U hA hI hI' hl hm (fun d hd d' hd' W hW => ?_)
    obtain ⟨j, hj⟩ := List.mem_iff_getElem?.1 hd
    obtain ⟨i, hi⟩ := List.mem_iff_getElem?.1 hd'
    exact hk d hd U d' (U.sa_x hA) (hl d hd) (hm d' hd') S S' W ((hI.2.2.2 j d hj).2.below hW) ((hI'.2.2.2 i d' hi).2.below hW)
theorem hasL_len : ∀ {ts : List Ty} {l : List Dv}, HasL ts l -> l.length = ts.length
  | [], l, h => by rw [h.nil_inv]; rfl
  | t :: ts, l, h => by
    obtain ⟨d, r, rfl, -, h2⟩ := h.cons_inv
    rw [List.length_cons, List.length_cons, hasL_len h2]
theorem hasL_get : ∀ {ts : List Ty} {l : List Dv}, HasL ts l -> ∀ (i : Nat) (t : Ty) (d : Dv), ts[i]? = some t -> l[i]? = some d -> Has t d
  | [], l, h, i, t, d, ht, _ => by cases ht
  | t :: ts, l, h, i, t', d', ht, hd => by
    obtain ⟨d, r, rfl, h1, h2⟩ := h.cons_inv
    cases i with
    | zero => cases ht; cases hd; exact h1
    | succ i => exact hasL_get h2 i t' d' (by simpa using ht) (by simpa using hd)
theorem sme_st (T : LT) (hX : T.isX = true) (hW : T.isW = true) {l l' : List Dv} (h : Has T.ty (.struc l)) (h' : Has T.ty (.struc l')) {w : World} {P : Ending -> World -> Prop} (HC : AllS w (fun g => ∀ V, Below w.heap.size w V -> P (.returned (.bool g)) V) true T.fk l l') : Calls Tryz.prog T.sf #[(Dv.struc l).val, (Dv.struc l').val] w P := by
  have hi := T.inv h
  have hi' := T.inv h'
  cases T
  case wit => exact sme_wit hi hi' HC
  case rul => exact sme_rul hi hi' HC
  case grp => exact sme_grp hi hi' HC
  case pat => exact sme_pat hi hi' HC
  case nod => exact sme_nod hi hi' HC
  case exp => exact sme_exp hi hi' HC
  case sec => exact sme_sec hi hi' HC
  case sty => exact sme_sty hi hi' HC
  case edi => exact sme_edi hi hi' HC
  case inp => exact sme_inp hi hi' HC
  all_goals first | (cases hX; done) | (cases hW; done)
theorem sfact_one {w : World} {U : LT} {d d' : Dv} {r : Bool} (h1 : U.isQ = true -> EqR .eql U.tid d.val d'.val r) (h2 : U.isQ = false -> ∀ V, Below w.heap.size w V -> Calls Tryz.prog U.sf #[d.val, d'.val] V (fun e V' => e = .returned (.bool r) /\ Below V.heap.size V V')) : SFact w (.one U) d d' r := by
  unfold SFact
  dsimp only
  generalize U.isQ = q at *
  cases q
  · exact h2 rfl
  · exact h1 rfl
theorem s_all (d : Dv) : SOk d /\ ∀ k s a c l, d = .list k s a c l -> ∀ x ∈ l, SOk x := by
  have main : ∀ d : Dv, (∀ l, d = .struc l -> ∀ x ∈ l, SOk x /\ ∀ k s a c m, x = .list k s a c m -> ∀ y ∈ m, SOk y) -> (∀ k s a c l, d = .list k s a c l -> ∀ x ∈ l, SOk x) -> SOk d := by
    intro d h1 h2 T d' hX hT hT' S S' w hr hr'
    rcases T.x_w hX with rfl | hW
    · obtain ⟨a, c, l, rfl, hl⟩ := hT.list_inv
      obtain ⟨a', c', m, rfl, hm⟩ := hT'.list_inv
      exact list_sok (U := .tok) rfl hl hm hr hr' (h2 _ _ _ _ _ rfl)
    · obtain ⟨l, rfl, hl⟩ := has_struc_of T hW hT
      obtain ⟨l', rfl, hl'⟩ := has_struc_of T hW hT'
      obtain ⟨f1, -, -⟩ := T.fk_ok hW
      rw [f1] at hl hl'
      have n1 := hasL_len hl
      have n2 := hasL_len hl'
      rw [List.length_map] at n1 n2
      refine sme_st T hX hW hT hT' (allS_of T.fk l l' true n1 n2 (fun i k x x' hk hx hx' => ?_) (fun V hV => ⟨?_, hV⟩))
      · have g1 := hasL_get hl i k.ty x (by simp [hk]) hx
        have g2 := hasL_get hl' i k.ty x' (by simp [hk]) hx'
        have m1 := List.mem_of_getElem? hx
        have m2 := List.mem_of_getElem? hx'
        have ho := T.fk_ok2 hX k (List.mem_of_getElem? hk)
        obtain ⟨s1, s2⟩ := h1 _ rfl x m1
        have r1 := rdD_struc.1 hr x m1
        have r2 := rdD_struc.1 hr' x' m2
        cases k with
        | one U =>
          refine sfact_one (fun hq => (eqr_any U hq g1 g2).2) (fun hq V hV => ?_)
          have hx : U.isX = true := by simpa [FK.ok2, hq] using ho
          exact s1 U x' hx g1 g2 S S' V (r1.below hV) (r2.below hV)
        | many U =>
          obtain ⟨a, c, y, rfl, hy⟩ := Has.list_inv g1
          obtain ⟨a', c', y', rfl, hy'⟩ := Has.list_inv g2
          intro V hV
          exact list_sok (U := U) ho hy hy' (r1.below hV) (r2.below hV) (s2 _ _ _ _ _ rfl)
      · rw [Dv.toV, Dv.toV]; simp [sameV]
  induction d using Dv.ind with
  | hi n => exact ⟨main _ (fun l e => by cases e) (fun k s a c l e => by cases e), fun k s a c l e => by cases e⟩
  | hb b => exact ⟨main _ (fun l e => by cases e) (fun k s a c l e => by cases e), fun k s a c l e => by cases e⟩
  | ht t => exact ⟨main _ (fun l e => by cases e) (fun k s a c l e => by cases e), fun k s a c l e => by cases e⟩
  | hs L ih => exact ⟨main _ (fun l e => by cases e; exact ih) (fun k s a c l e => by cases e), fun k s a c l e => by cases e⟩
  | hl k s a c L ih => exact ⟨main _ (fun l e => by cases e) (fun k s a c l e => by cases e; exact fun x hx => (ih x hx).1), fun k s a c l e => by cases e; exact fun x hx => (ih x hx).1⟩
/-- Every comparison of the reference. -/
theorem same_of (T : LT) (hX : T.isX = true) {d d' : Dv} (hT : Has T.ty d) (hT' : Has T.ty d') {S S' : Nat -> Prop} {w : World} (hr : RdD S w d) (hr' : RdD S' w d') : Calls Tryz.prog T.sf #[d.val, d'.val] w (SmeP d.toV d'.toV w) := (s_all d).1 T d' hX hT hT' S S' w hr hr'
theorem Same_ref {d d2 : Dv} (hT : Has (LT.ty .edi) d) (hT2 : Has (LT.ty .edi) d2) {S S2 : Nat -> Prop} {w : World} (hr : RdD S w d) (hr2 : RdD S2 w d2) : Calls Tryz.prog 15 #[d.val, d2.val] w (SmeP d.toV d2.toV w) := by
  obtain ⟨hl1, -, ho1, hv1⟩ := LT.len .edi hT
  obtain ⟨hl2, -, ho2, hv2⟩ := LT.len .edi hT2
  have hk := keepB_new w (LT.tid .edi) d.cells.toArray d2.cells.toArray
  have HL := hiq (And.intro (LT.ld .edi rfl hl1 hk.fst) (LT.ld .edi rfl hl2 hk.snd))
  have HM := hiq (same_of .edi rfl hT hT2 (hr.below hk.below) (hr2.below hk.below))
  have HB := hiq hk.below
  rw [hv1 rfl, hv2 rfl] at HM ⊢
  clear hl1 ho1 hv1 hl2 ho2 hv2 hT hT2 hr hr2 hk
  generalize d.cells.toArray = A at *
  generalize d2.cells.toArray = A2 at *
  dsimp only [LT.tid, LT.sf] at HL HM HB
  go_enter Tryz.func15, Tryz.ntmps15
  generalize hC1 : Code.region 1 _ _ = C1
  go_wp2_with fail
  generalize World.alloc (World.alloc _ _) _ = W1 at *
  subst hC1
  go_wp2_with (first | ((with_reducible refine wpList_ldL HL.out.1 rfl _ rfl ?_ ?_); rfl) | ((with_reducible refine wpList_ldL HL.out.2 rfl _ rfl ?_ ?_); rfl) | fail)
  refine HM.out.mono ?_
  rintro e V ⟨rfl, hb⟩
  have HZ := hiq (HB.out.trans (hb.mono HB.out.size))
  clear hb HM
  go_wp2
  go_ret
  exact ⟨rfl, HZ.out⟩
end Go.Proofs.YtlbcmeebcfalpaaGreatDoor
namespace Go.Proofs.YtlbcmeebcfalpaaGreatDoor
open Go.RowKit

/-- What printing answers. -/
def prtE (x : V) : Int := if encE x = 0 then 0 else 4
theorem encB_err {x : V} (h : encE x ≠ 0) : encB x = [] := by
  unfold encE at h
  unfold encB
  split
  · rename_i h2
    rw [if_neg (by simp [h2.1]), if_neg (by omega)] at h
    exact absurd rfl h
  · rfl
def PrtP (x : V) (w : World) (e : Ending) (w' : World) : Prop := e = .returned (.tuple #[.string ⟨(encB x).toArray⟩, .int .i64 (prtE x)]) /\ Below w.heap.size w w'
theorem encode_any (S : Nat -> Prop) : ∀ (v : Vl) (w : World), Rd S w v -> (∀ b, S b -> b < w.heap.size) -> Env w -> Calls Tryz.prog 37 #[v.val] w (PrtP v.er w)
  | .mk k nn t a c l, w, h, hS, hE => by
    have hB := boxed S w _ h
    have hb1 := hB.below
    have HM := hiq (encode_A S (.mk k nn t a c l) _ hB.rd (fun b hb => Nat.lt_of_lt_of_le (hS b hb) hb1.size) (hE.below hb1))
    change Below _ w (w.alloc (.cells #[.int .i64 k, .int .i64 nn, .string t, .slice a l.length c] 24)) at hb1
    dsimp only [Vl.val, Vl.cells, Vl.kind, Vl.num, Vl.text, Vl.sl, Vl.addr, Vl.items, Vl.cap] at HM
    have HEB := hiq (@encB_err (Vl.mk k nn t a c l).er)
    have HPE : Hid (prtE (Vl.mk k nn t a c l).er = if encE (Vl.mk k nn t a c l).er = 0 then 0 else 4) := rfl
    have HB := hiq hb1
    clear h hS hE hB hb1
    change Calls _ _ #[.agg #[.int .i64 k, .int .i64 nn, .string t, .slice a l.length c]] _ _
    unfold PrtP
    generalize encB (Vl.mk k nn t a c l).er = RB at *
    generalize encE (Vl.mk k nn t a c l).er = RE at *
    generalize prtE (Vl.mk k nn t a c l).er = PE at *
    go_enter Tryz.func37, Tryz.ntmps37
    go_wp2_with fail
    refine HM.out.mono ?_
    generalize w.alloc (.cells #[.int .i64 k, .int .i64 nn, .string t, .slice a l.length c] 24) = W1 at *
    rintro e W2 ⟨rfl, hb2⟩
    have HBW := hiq (HB.out.trans (hb2.mono HB.out.size))
    clear hb2
    by_cases h0 : RE = 0
    · subst h0
      have e1 : PE = 0 := by rw [HPE.out]; rfl
      subst e1
      go_wp2
      exact bodyPost_ret (results_tmp2 rfl _ _ _) rfl ⟨rfl, HBW.out⟩
    · have e1 : PE = 4 := by rw [HPE.out, if_neg h0]
      have e2 : RB = [] := HEB.out h0
      subst e1
      subst e2
      have h1 : (RE != 0) = true := by simp [h0]
      clear h0
      go_wp2
      exact bodyPost_ret (results_tmp2 rfl _ _ _) rfl ⟨rfl, HBW.out⟩
theorem ldv_new (T : LT) (hW : T.isW = true) {d : Dv} (hT : Has T.ty d) (w : World) : LdV w.heap.size T.tid (.agg d.cells.toArray) (w.alloc (.cells d.cells.toArray T.tid)) := T.ld hW (T.len hT).1 (World.alloc_heap_new w _)
theorem print_any {d : Dv} (hT : Has (LT.ty .edi) d) (hm : Sm d) {S : Nat -> Prop} {w : World} (hr : RdD S w d) (hS : ∀ b, S b -> b < w.heap.size) (hE : Env w) : Calls Tryz.prog 16 #[d.val] w (PrtP d.toV w) := by
  have hv := (LT.len .edi hT).2.2.2 rfl
  have hl := ldv_new .edi rfl hT w
  have hb1 : Below w.heap.size w (w.alloc (.cells d.cells.toArray (LT.tid .edi))) := (Below.refl _ _).alloc (Nat.le_refl _) _
  have HW := write_of .edi true hT hm (hr.below hb1) (fun b hb => Nat.lt_of_lt_of_le (hS b hb) hb1.size)
  rw [hv] at HW ⊢
  generalize d.cells.toArray = A at *
  have HM := hiq HW
  have HLD := hiq hl
  have HB := hiq hb1
  have HE := hiq hE
  clear HW hl hb1 hE hm hr hS hT hv
  dsimp only [LT.tid, LT.wf] at HM HLD HB
  go_enter Tryz.func16, Tryz.ntmps16
  go_wp2_with (first | ((with_reducible refine wpList_ldL HLD.out rfl _ rfl ?_ ?_); rfl) | fail)
  refine HM.out.mono ?_
  generalize World.alloc _ _ = W1 at *
  rintro e W2 ⟨⟨k, nn, t, a, c, l⟩, he, hx, hrd, hb2⟩
  change e = .returned (.agg #[.int .i64 k, .int .i64 nn, .string t, .slice a l.length c]) at he
  subst he
  have HBW := hiq (HB.out.trans (hb2.mono HB.out.size))
  have HQ := hiq (encode_any (fun b => W1.heap.size <= b /\ b < W2.heap.size) (.mk k nn t a c l) W2 (hrd.mono fun b h1 h2 => ⟨h1, h2⟩) (fun b hb => hb.2) (HE.out.below HBW.out))
  rw [hx] at HQ
  dsimp only [Vl.val, Vl.cells, Vl.kind, Vl.num, Vl.text, Vl.sl, Vl.addr, Vl.items, Vl.cap] at HQ
  clear hrd hb2 HM hx
  go_wp2_with fail
  refine HQ.out.mono ?_
  rintro e W3 ⟨rfl, hb3⟩
  have HBZ := hiq (HBW.out.trans (hb3.mono HBW.out.size))
  clear hb3
  go_wp2
  exact bodyPost_ret (results_tmp2 rfl _ _ _) rfl ⟨rfl, HBZ.out⟩
end Go.Proofs.YtlbcmeebcfalpaaGreatDoor
namespace Go.Proofs.YtlbcmeebcfalpaaGreatDoor
open Go.RowKit

theorem rOp_ldL {X : Type} {Wf : X -> World} {ops : Array Oper} {o : Oper} {act : Act} {next : Act -> Prop} {b : Nat} {t : TypeId} {v : Value} (h : ∀ y, LdV b t v (Wf y)) (hgd : o.guard = none) (x : Operand) (ho : o.op = .load t x) (hx : act.eval x = .pointer (some ⟨b, 0, none⟩)) (hk : next (act.put o.dst v)) : rOp Tryz.prog ops Wf o act next := by
  unfold rOp
  rw [if_pos (by simp [Region.wanted, hgd])]
  refine ⟨v, fun y => ?_, hk⟩
  have h' : (loadVar t ⟨b, 0, none⟩).run Tryz.prog (Wf y) = .ok v (Wf y) := h y
  unfold execOp
  simp only [ho, hx, Instr.loadAt, Instr.sureAddr, Sem.run_bind, Sem.run_pure, Result.andThen_ok, h']
theorem sameE_any {d d2 : Dv} (hT : Has tyEdition d) (hT2 : Has tyEdition d2) (hm : Sm d) (hm2 : Sm d2) {S S2 : Nat -> Prop} {w : World} (hr : RdD S w d) (hr2 : RdD S2 w d2) (hS : ∀ b, S b -> b < w.heap.size) (hS2 : ∀ b, S2 b -> b < w.heap.size) : Calls Tryz.prog 18 #[d.val, d2.val] w fun e w' => e = .returned (.bool (sameV d.toV d2.toV)) /\ Below w.heap.size w w' := by
  obtain ⟨hl1, -, ho1, hv1⟩ := LT.len .edi hT
  obtain ⟨hl2, -, ho2, hv2⟩ := LT.len .edi hT2
  have hb1 : Below w.heap.size w ((w.alloc (.cells d.cells.toArray (LT.tid .edi))).alloc (.cells d2.cells.toArray (LT.tid .edi))) := ((Below.refl _ _).alloc (Nat.le_refl _) _).alloc (by simp) _
  have hs1 : ((w.alloc (.cells d.cells.toArray (LT.tid .edi))).alloc (.cells d2.cells.toArray (LT.tid .edi))).heap.size = w.heap.size + 2 := by simp
  have h1 := alloc_heap_some (o := .cells d2.cells.toArray (LT.tid .edi)) (World.alloc_heap_new w (.cells d.cells.toArray (LT.tid .edi)))
  have h2 : ((w.alloc (.cells d.cells.toArray (LT.tid .edi))).alloc (.cells d2.cells.toArray (LT.tid .edi))).heap[w.heap.size + 1]? = some (.cells d2.cells.toArray (LT.tid .edi) (0, 0)) := by
    have := World.alloc_heap_new (w.alloc (.cells d.cells.toArray (LT.tid .edi))) (.cells d2.cells.toArray (LT.tid .edi))
    simpa using this
  have hld : ∀ V, Below ((w.alloc (.cells d.cells.toArray (LT.tid .edi))).alloc (.cells d2.cells.toArray (LT.tid .edi))).heap.size ((w.alloc (.cells d.cells.toArray (LT.tid .edi))).alloc (.cells d2.cells.toArray (LT.tid .edi))) V -> LdV w.heap.size (LT.tid .edi) (.agg d.cells.toArray) V /\ LdV (w.heap.size + 1) (LT.tid .edi) (.agg d2.cells.toArray) V := fun V hV =>
    ⟨LT.ld .edi rfl hl1 ((hV.block _ (by omega)).trans h1), LT.ld .edi rfl hl2 ((hV.block _ (by omega)).trans h2)⟩
  have HW1 := hiq (fun (V : World) (hV : Below ((w.alloc (.cells d.cells.toArray (LT.tid .edi))).alloc (.cells d2.cells.toArray (LT.tid .edi))).heap.size ((w.alloc (.cells d.cells.toArray (LT.tid .edi))).alloc (.cells d2.cells.toArray (LT.tid .edi))) V) => write_of .edi true hT hm (hr.below (hb1.trans (hV.mono hb1.size))) (fun b hb => Nat.lt_of_lt_of_le (hS b hb) (Nat.le_trans hb1.size hV.size)))
  have HW2 := hiq (fun (V : World) (hV : Below ((w.alloc (.cells d.cells.toArray (LT.tid .edi))).alloc (.cells d2.cells.toArray (LT.tid .edi))).heap.size ((w.alloc (.cells d.cells.toArray (LT.tid .edi))).alloc (.cells d2.cells.toArray (LT.tid .edi))) V) => write_of .edi true hT2 hm2 (hr2.below (hb1.trans (hV.mono hb1.size))) (fun b hb => Nat.lt_of_lt_of_le (hS2 b hb) (Nat.le_trans hb1.size hV.size)))
  rw [hv1 rfl] at HW1 ⊢
  rw [hv2 rfl] at HW2 ⊢
  generalize d.cells.toArray = A at *
  generalize d2.cells.toArray = A2 at *
  have HLD := hiq hld
  have HB := hiq hb1
  dsimp only [LT.tid, LT.wf] at HW1 HW2 HLD HB
  clear hld hb1 hs1 h1 h2 hl1 ho1 hv1 hl2 ho2 hv2 hT hT2 hm hm2 hr hr2 hS hS2
  go_enter Tryz.func18, Tryz.ntmps18
  go_wp2_with fail
  generalize World.alloc (World.alloc _ _) _ = W1 at *
  obtain ⟨X, Wf, hX, hS1, hS2⟩ := family (fun V => Below W1.heap.size W1 V) W1 (Below.refl _ _)
  have HS2 := hiq hS2
  have HS1 := hiq hS1
  have hd0 : Below W1.heap.size W1 W1.drew := (Below.refl _ _).drew
  clear hS1 hS2
  refine wp_region_tree (Wf := Wf) 5 (.read 0 (.read 2 (.act 1 (.act 3 (.act 4 .fin))))) (by kernel_rfl) (by kernel_rfl) (fun _ _ d _ _ h => by cases d <;> exact h) (HS2.out _ hd0) ?_
  refine wpTree_read _ rfl (fun K hK => ?_)
  refine rOp_ldL (fun y => (HLD.out _ (HS1.out y)).1) rfl _ rfl rfl (hK _ ?_)
  clear hK K
  refine wpTree_read _ rfl (fun K hK => ?_)
  refine rOp_ldL (fun y => (HLD.out _ (HS1.out y)).2) rfl _ rfl rfl (hK _ ?_)
  clear hK K
  have HM := hiq (HW1.out _ hd0)
  refine wpTree_act _ rfl ?_
  go_wp2_with fail
  refine HM.out.mono ?_
  rintro e V1 ⟨⟨k, nn, t, a, c, l⟩, he, hx1, hr1, hb1⟩
  change e = .returned (.agg #[.int .i64 k, .int .i64 nn, .string t, .slice a l.length c]) at he
  subst he
  have hd1 := hd0.trans (hb1.mono hd0.size)
  have HM2 := hiq (HW2.out _ hd1)
  clear HM
  go_wp2_with fail
  refine ⟨HS2.out _ hd1, wpTree_act _ rfl ?_⟩
  go_wp2_with fail
  refine HM2.out.mono ?_
  rintro e V2 ⟨⟨k2, nn2, t2, a2, c2, l2⟩, he, hx2, hr2, hb2⟩
  change e = .returned (.agg #[.int .i64 k2, .int .i64 nn2, .string t2, .slice a2 l2.length c2]) at he
  subst he
  have hd2 := hd1.trans (hb2.mono hd1.size)
  have HQ := hiq (same_any _ _ _ _ V2 (hr1.below hb2) hr2)
  rw [hx1, hx2] at HQ
  dsimp only [Vl.val, Vl.cells, Vl.kind, Vl.num, Vl.text, Vl.sl, Vl.addr, Vl.items, Vl.cap] at HQ
  clear HM2 hr1 hr2 hb1 hb2 hx1 hx2
  have HD2 := hiq hd2
  clear hd0 hd1 hd2
  go_wp2_with fail
  refine ⟨HS2.out _ HD2.out, wpTree_act _ rfl ?_⟩
  go_wp2_with fail
  refine HQ.out.mono ?_
  rintro e V3 ⟨rfl, hb3⟩
  have hd3 := HD2.out.trans (hb3.mono HD2.out.size)
  go_wp2_with fail
  refine ⟨HS2.out _ hd3, wpTree_fin ?_⟩
  have hz := HB.out.trans (hd3.mono HB.out.size)
  clear hb3 hd3
  go_wp2
  go_ret
  exact ⟨rfl, hz⟩
end Go.Proofs.YtlbcmeebcfalpaaGreatDoor
namespace Go.Proofs.YtlbcmeebcfalpaaGreatDoor
open Go.RowKit

/-- What parsing answers, where decoding has answered x and er. -/
def ParQ (x : V) (er : Int) (w : World) (e : Ending) (w' : World) : Prop :=
  ∃ (d : Dv) (err : Int), e = .returned (.tuple #[.agg d.cells.toArray, .int .i64 err]) /\ Has tyEdition d /\ RdD (NewB w w') w' d /\ Below w.heap.size w w' /\
    ((er ≠ 0 /\ err = er /\ d = zeroEd) \/ (er = 0 /\ ((err = 0 /\ chkV x = 0 /\ Fit tyEdition x /\ d.toV = x) \/ (err = (if chkV x = 4 then 4 else 9) /\ ¬ (chkV x = 0 /\ Fit tyEdition x) /\ d = zeroEd))))
def ParP (s : ByteArray) (w : World) (e : Ending) (w' : World) : Prop := ParQ (decode s.data.toList).1 (decode s.data.toList).2 w e w'
theorem put_below {w W2 : World} {b : Nat} (hb : Below w.heap.size w W2) (h : w.heap.size <= b) (cs : List Value) : Below w.heap.size w (putL W2 b 0 cs) :=
  ((Exc.below (N := fun x => x = b) hb).step (putL_exc b cs 0 W2) fun b _ h => h).to_below (Nat.le_refl _) fun x hx => by have hx : x = b := hx; omega
theorem parse_any (s : ByteArray) (hs : s.size <= 140737488355328) (w : World) (hE : Env w) : Calls Tryz.prog 11 #[.string s] w (ParP s w) := by
  have hbA : Below w.heap.size w (w.alloc (.cells (LT.zero .edi).toArray 40)) := (Below.refl _ _).alloc (Nat.le_refl _) _
  have hz1 := World.alloc_heap_new w (.cells (LT.zero .edi).toArray 40)
  have hs1 : (w.alloc (.cells (LT.zero .edi).toArray 40)).heap.size = w.heap.size + 1 := by simp
  have HC := hiq (decode_any s hs _ (hE.below hbA))
  have HB := hiq hbA
  have HZ := hiq hz1
  have HS1 := hiq hs1
  dsimp only [LT.zero] at HC HB HZ HS1
  obtain ⟨r, hr⟩ : ∃ r, r = decode s.data.toList := ⟨_, rfl⟩
  unfold ParP
  rw [<- hr]
  unfold DecPost at HC
  rw [<- hr] at HC
  clear hbA hz1 hs1 hE hs hr
  obtain ⟨x, er⟩ := r
  dsimp only at HC ⊢
  go_enter Tryz.func11, Tryz.ntmps11
  go_wp2_with fail
  refine HC.out.mono ?_
  generalize World.alloc _ _ = W1 at *
  rintro e W2 ⟨S, ⟨k, nn, t, a, c, l⟩, he, hx, hrd, hS, hb2⟩
  change e = .returned (.tuple #[.agg #[.int .i64 k, .int .i64 nn, .string t, .slice a l.length c], .int .i64 er]) at he
  subst he
  have hb02 := HB.out.trans (hb2.mono HB.out.size)
  have hz2 := (hb2.block w.heap.size (by have := HS1.out; omega)).trans HZ.out
  have hs2 : w.heap.size + 1 <= W2.heap.size := by have := hb2.size; have := HS1.out; omega
  have hone : ∀ v ∈ LT.zero .edi, v.oneCell' = true := by simp [LT.zero, Value.oneCell']
  have hb3 : Below W2.heap.size W2 (W2.alloc (.cells #[.int .i64 k, .int .i64 nn, .string t, .slice a l.length c] 24)) := (Below.refl _ _).alloc (Nat.le_refl _) _
  have hs3 : (W2.alloc (.cells #[.int .i64 k, .int .i64 nn, .string t, .slice a l.length c] 24)).heap.size = W2.heap.size + 1 := by simp
  have hz3 := (hb3.block w.heap.size (by omega)).trans hz2
  have hb03 := hb02.trans (hb3.mono (by omega))
  by_cases h0 : er = 0
  · subst h0
    have hM := edition_any S (.mk k nn t a c l) _ (hrd.below hb3) (fun b hb => by have := (hS b hb).2; omega)
    have HM : Hid (Calls Tryz.prog 13 #[.agg #[.int .i64 k, .int .i64 nn, .string t, .slice a l.length c]] (W2.alloc (.cells #[.int .i64 k, .int .i64 nn, .string t, .slice a l.length c] 24)) fun e W6 => ∃ (d : Dv) (err : Int) (WF : World), e = .returned (.tuple #[.agg d.cells.toArray, .int .i64 err]) /\ StL w.heap.size d.cells W6 WF /\ LdV w.heap.size 40 (.agg d.cells.toArray) WF /\ Hid ((Tryz.prog.info? 40).map (·.size) = some d.cells.length) /\ Hid (ParQ x 0 w (.returned (.tuple #[.agg d.cells.toArray, .int .i64 err])) WF)) := by
      refine hM.mono ?_
      rintro e W6 ⟨d, err, he, hT, hrd6, hb6, hor⟩
      rw [hx] at hor
      obtain ⟨hl, hl2, h1, hval⟩ := LT.len .edi hT
      have hl' : d.cells.length = 25 := hl
      have s6 := hb6.size
      have hz6 := (hb6.block w.heap.size (by omega)).trans hz3
      obtain ⟨i0, ei, ez0, ez1, ez2⟩ := info_parts (LT.info .edi)
      have hp := putL_exc w.heap.size d.cells 0 W6
      have hpz := hp.size
      refine ⟨d, err, _, he, run_putL d.cells 0 _ _ hz6 (by simp [LT.zero]; omega) h1, LT.ld .edi rfl hl (putL_at d.cells (by simp [LT.zero]; omega) hz6), by show _ = _; rw [show 40 = LT.tid .edi from rfl, ei]; simp [ez1, hl], d, err, rfl, hT, ?_, put_below (hb03.trans (hb6.mono (by omega))) (Nat.le_refl _) _, .inr ⟨rfl, hor⟩⟩
      exact (hrd6.keep (hp.keepS fun b hb hn => by have hn : b = w.heap.size := hn; have := hb.1; omega)).mono fun b hb => ⟨by have := hb.1; omega, by have := hb.2; omega⟩
    have hlt2 : w.heap.size < W2.heap.size := by omega
    clear hM hb02 hz2 hs2 hb3 hs3 hz3 hb03 hx hrd hS hb2 hone HC
    go_wp2_with fail
    refine HM.out.mono ?_
    rintro e W6 ⟨d, err, WF, rfl, hst, hld, HSZ, HQ⟩
    have HST := hiq hst
    have HLD := hiq hld
    clear hst hld HM
    go_wp2_with ((with_reducible refine wpList_stL HST.out rfl _ _ _ rfl ?_ ?_ ?_ ?_); rfl; rfl; exact HSZ.out)
    exact ret_ldL2 HLD.out rfl rfl rfl rfl HQ.out
  · have hne : (er != 0) = true := by simp [h0]
    have hE : ParQ x er w (.returned (.tuple #[.agg (LT.zero .edi).toArray, .int .i64 er])) (putL (W2.alloc (.cells #[.int .i64 k, .int .i64 nn, .string t, .slice a l.length c] 24)) w.heap.size 0 (LT.zero .edi)) :=
      ⟨zeroEd, er, by rw [zeroEd_cells], zeroEd_has, zeroEd_rd _ _, put_below hb03 (Nat.le_refl _) _, .inl ⟨h0, rfl, rfl⟩⟩
    have HST := hiq (run_putL (LT.zero .edi) 0 _ _ hz3 (by simp [LT.zero]) hone)
    have HLD := hiq (LT.ld .edi rfl rfl (putL_at (LT.zero .edi) rfl hz3))
    have HE := hiq hE
    have hlt2 : w.heap.size < W2.heap.size := by omega
    generalize putL (W2.alloc (.cells #[.int .i64 k, .int .i64 nn, .string t, .slice a l.length c] 24)) w.heap.size 0 (LT.zero .edi) = WF at *
    dsimp only [LT.zero] at HST HLD HE
    clear hb02 hz2 hs2 hb3 hs3 hz3 hb03 hx hrd hS hb2 hone HC hE h0
    go_wp2_with ((with_reducible refine wpList_stL HST.out rfl _ _ _ rfl ?_ ?_ ?_ ?_); rfl; rfl; kernel_rfl)
    exact ret_ldL2 HLD.out rfl rfl rfl rfl HE.out
end Go.Proofs.YtlbcmeebcfalpaaGreatDoor
namespace Go.Proofs.YtlbcmeebcfalpaaGreatDoor
open Go.RowKit

/-- The example's edition; its lists lie in blocks p and q. -/
def oneEd (p q : Nat) : Dv := .struc [.text ⟨#[97]⟩, .list 2 40 (some ⟨q, 0, none⟩) 1 [.struc [.text ⟨#[65]⟩, .list 4 56 (some ⟨p, 0, none⟩) 1 [.struc [.int 1, .text ⟨#[100, 101]⟩, .int 0, .list 4 56 none 0 []]]]], .list 2 32 none 0 [], .struc [.int 0, .int 0, .int 0, .int 0], .list 5 72 none 0 [], .list 2 40 none 0 [], .list 2 40 none 0 [], .int 7, .list 5 104 none 0 [], .struc [.int 0, .int 0, .int 0, .int 0, .int 0, .int 0, .int 0, .int 0, .int 0, .int 0, .int 0, .list 1 1 none 0 [], .list 1 16 none 0 []]]
def oneV : V := (oneEd 0 0).toV
theorem oneEd_toV (p q : Nat) : (oneEd p q).toV = oneV := rfl
def pre1 : List UInt8 := [108, 115, 48, 58, 108, 101, 108, 101, 108, 105, 48, 59, 105, 48, 59, 105, 48, 59, 105, 48, 59, 101, 108, 101, 108, 101, 108, 101]
def pre2 : List UInt8 := [108, 115, 49, 58, 97, 108, 108, 115, 49, 58, 65, 108, 108, 105, 49, 59, 115, 50, 58, 100, 101, 105, 48, 59, 108, 101, 101, 101, 101, 101, 108, 101, 108, 105, 48, 59, 105, 48, 59, 105, 48, 59, 105, 48, 59, 101, 108, 101, 108, 101, 108, 101, 105, 55, 59, 108, 101]
theorem zero_enc : encE zeroEd.toV = 0 /\ Lib.hasPrefix (encB zeroEd.toV) pre1 = true := by decide +kernel
theorem one_enc : encE oneV = 0 /\ Lib.hasPrefix (encB oneV) pre2 = true := by decide +kernel
theorem one_zero : sameV oneV zeroEd.toV = false := by decide +kernel
theorem oneEd_has (p q : Nat) : Has tyEdition (oneEd p q) := by
  unfold oneEd
  repeat' first | exact .int _ | exact .text _ | exact .nil | refine .struc ?_ | refine .cons ?_ ?_ | refine .node ?_ | (refine .list fun d hd => ?_; first | (exact absurd hd List.not_mem_nil) | (obtain rfl := List.mem_singleton.1 hd))
theorem one_rd {S : Nat -> Prop} {V : World} {p q : Nat} (hp : S p) (hq : S q) (h1 : AtC V p 0 [.int .i64 1, .string ⟨#[100, 101]⟩, .int .i64 0, .slice none 0 0]) (h2 : AtC V q 0 [.string ⟨#[65]⟩, .slice (some ⟨p, 0, none⟩) 1 1]) : RdD S V (oneEd p q) := by
  have hi : ∀ n : Int, n = 0 \/ n = 1 \/ n = 7 -> I64 n := fun n h => by unfold I64; omega
  simp only [oneEd, RdD, RdDL, RdDI, List.length_nil, List.length_cons, and_true]
  simp [hi, ByteArray.size]
  exact ⟨⟨q, 0, ⟨rfl, rfl⟩, hq, h2⟩, ⟨p, 0, ⟨rfl, rfl⟩, hp, h1⟩⟩
theorem one_cells (p q : Nat) : (oneEd p q).cells = [.string ⟨#[97]⟩, .slice (some ⟨q, 0, none⟩) 1 1, .slice none 0 0, .int .i64 0, .int .i64 0, .int .i64 0, .int .i64 0, .slice none 0 0, .slice none 0 0, .slice none 0 0, .int .i64 7, .slice none 0 0, .int .i64 0, .int .i64 0, .int .i64 0, .int .i64 0, .int .i64 0, .int .i64 0, .int .i64 0, .int .i64 0, .int .i64 0, .int .i64 0, .int .i64 0, .slice none 0 0, .slice none 0 0] := by simp [oneEd, Dv.cells, Dv.cellsL]
theorem one_num : NumOk oneV := by
  have h0 : ∀ {n : Int}, n = 0 \/ n = 1 \/ n = 7 -> -9223372036854775808 <= n /\ n <= 9223372036854775807 := fun h => by omega
  unfold oneV oneEd
  simp only [Dv.toV, Dv.toVL]
  repeat' first | exact h0 (by decide) | refine .mk (h0 (by decide)) (fun u hu => ?_) | exact absurd hu List.not_mem_nil | (rcases List.mem_cons.1 hu with rfl | hu)
/-- Where the example lies: node, witness, edition. -/
structure OneIn (w : World) (p : Nat) (V : World) : Prop where
  below : Below w.heap.size w V
  le : w.heap.size <= p
  nod : V.heap[p]? = some (.cells #[.int .i64 1, .string ⟨#[100, 101]⟩, .int .i64 0, .slice none 0 0] 64 (0, 0))
  wit : V.heap[p + 1]? = some (.cells #[.string ⟨#[65]⟩, .slice (some ⟨p, 0, none⟩) 1 1] 66 (0, 0))
  box : V.heap[p + 2]? = some (.cells (oneEd p (p + 1)).cells.toArray 40 (0, 0))
theorem OneIn.next {w V V' : World} {p : Nat} (h : OneIn w p V) (hb : Below V.heap.size V V') : OneIn w p V' :=
  ⟨h.below.trans (hb.mono h.below.size), h.le, (hb.block _ (Array.getElem?_eq_some_iff.1 h.nod).1).trans h.nod, (hb.block _ (Array.getElem?_eq_some_iff.1 h.wit).1).trans h.wit, (hb.block _ (Array.getElem?_eq_some_iff.1 h.box).1).trans h.box⟩
theorem box_at {w : World} {b : Nat} {cs : List Value} {t : TypeId} {fr : Nat × Nat} (h : w.heap[b]? = some (.cells cs.toArray t fr)) : AtC w b 0 cs := fun i x hx => by
  rw [Nat.zero_add]; exact cell_box h i (by simpa using hx)
theorem OneIn.rd {w V : World} {p : Nat} (h : OneIn w p V) : RdD (fun b => b < V.heap.size) V (oneEd p (p + 1)) :=
  one_rd (Array.getElem?_eq_some_iff.1 h.nod).1 (Array.getElem?_eq_some_iff.1 h.wit).1 (box_at (cs := [.int .i64 1, .string ⟨#[100, 101]⟩, .int .i64 0, .slice none 0 0]) h.nod) (box_at (cs := [.string ⟨#[65]⟩, .slice (some ⟨p, 0, none⟩) 1 1]) h.wit)
theorem one_val (p q : Nat) : (oneEd p q).val = .agg (oneEd p q).cells.toArray := (LT.len .edi (oneEd_has p q)).2.2.2 rfl
theorem zero_val : zeroEd.val = .agg (LT.zero .edi).toArray := by rw [(LT.len .edi zeroEd_has).2.2.2 rfl, zeroEd_cells]
/-- What the example's walk needs of the functions that it calls. -/
structure AwkF (w : World) (ZB OB : List UInt8) : Prop where
  z : Lib.hasPrefix ZB pre1 = true
  o : Lib.hasPrefix OB pre2 = true
  p0 : ∀ V, Below w.heap.size w V -> Calls Tryz.prog 16 #[.agg (LT.zero .edi).toArray] V fun e V' => e = .returned (.tuple #[.string ⟨ZB.toArray⟩, .int .i64 0]) /\ Below V.heap.size V V'
  p1 : ∀ V p, OneIn w p V -> Calls Tryz.prog 16 #[.agg (oneEd p (p + 1)).cells.toArray] V fun e V' => e = .returned (.tuple #[.string ⟨OB.toArray⟩, .int .i64 0]) /\ Below V.heap.size V V'
  pa : ∀ V, Below w.heap.size w V -> Calls Tryz.prog 11 #[.string ⟨OB.toArray⟩] V fun e V' => ∃ d : Dv, e = .returned (.tuple #[.agg d.cells.toArray, .int .i64 0]) /\ Has tyEdition d /\ RdD (NewB V V') V' d /\ d.toV = oneV /\ Below V.heap.size V V'
  s : ∀ V p d S, OneIn w p V -> Has tyEdition d -> RdD S V d -> (∀ b, S b -> b < V.heap.size) -> d.toV = oneV -> (Calls Tryz.prog 15 #[.agg d.cells.toArray, .agg (oneEd p (p + 1)).cells.toArray] V fun e V' => e = .returned (.bool true) /\ Below V.heap.size V V') /\ Calls Tryz.prog 18 #[.agg d.cells.toArray, .agg (oneEd p (p + 1)).cells.toArray] V fun e V' => e = .returned (.bool true) /\ Below V.heap.size V V'
  sz : ∀ V p, OneIn w p V -> Calls Tryz.prog 18 #[.agg (oneEd p (p + 1)).cells.toArray, .agg (LT.zero .edi).toArray] V fun e V' => e = .returned (.bool false) /\ Below V.heap.size V V'
theorem awkF {w : World} (hE : Env w) : ∃ ZB OB, AwkF w ZB OB := by
  obtain ⟨z1, z2⟩ := zero_enc
  obtain ⟨o1, o2⟩ := one_enc
  have hsz := sm_chk (d := zeroEd) (encE_ok z1).1
  have hso : ∀ p q, Sm (oneEd p q) := fun p q => sm_chk (d := oneEd p q) (by rw [oneEd_toV]; exact (encE_ok o1).1)
  refine ⟨_, _, z2, o2, fun V hV => ?_, fun V p h => ?_, fun V hV => ?_, fun V p d S h hT hr hS hv => ⟨?_, ?_⟩, fun V p h => ?_⟩
  · have := print_any zeroEd_has hsz (zeroEd_rd (fun _ => False) V) (fun b h => h.elim) (hE.below hV)
    unfold PrtP prtE at this
    rw [z1, zero_val] at this
    exact this
  · have := print_any (oneEd_has p (p + 1)) (hso _ _) h.rd (fun b h => h) (hE.below h.below)
    unfold PrtP prtE at this
    rw [oneEd_toV, o1, one_val] at this
    exact this
  · have hl := (encE_ok o1).2.1
    have he := (encE_ok o1).2.2
    have hn : NumOk oneV := one_num
    refine (parse_any ⟨(encB oneV).toArray⟩ (by show (encB oneV).toArray.size <= _; simp; rw [he]; omega) V (hE.below hV)).mono ?_
    rintro e V' ⟨d, err, he2, hT, hrd, hb, hor⟩
    have hd : decode (encB oneV) = (oneV, 0) := by rw [he]; exact decode_enc (encE_ok o1).1 hn hl
    have e1 : (⟨(encB oneV).toArray⟩ : ByteArray).data.toList = encB oneV := by simp
    rw [e1, hd] at hor
    rcases hor with ⟨h0, -⟩ | ⟨-, ⟨rfl, -, -, hv⟩ | ⟨-, hno, -⟩⟩
    · exact absurd rfl h0
    · exact ⟨d, he2, hT, hrd, hv, hb⟩
    · exact absurd ⟨(encE_ok o1).1, fit_toV (oneEd_has 0 0)⟩ hno
  · have := Same_ref hT (oneEd_has p (p + 1)) hr h.rd
    unfold SmeP at this
    rw [oneEd_toV, hv, sameV_true rfl, one_val, (LT.len .edi hT).2.2.2 rfl] at this
    exact this
  · have := sameE_any hT (oneEd_has p (p + 1)) (sm_chk (by rw [hv]; exact (encE_ok o1).1)) (hso _ _) hr h.rd hS (fun b h => h)
    rw [oneEd_toV, hv, sameV_true rfl, one_val, (LT.len .edi hT).2.2.2 rfl] at this
    exact this
  · have := sameE_any (oneEd_has p (p + 1)) zeroEd_has (hso _ _) hsz h.rd (zeroEd_rd (fun _ => False) V) (fun b h => h) (fun b h => h.elim)
    rw [oneEd_toV, one_zero, one_val, zero_val] at this
    exact this
end Go.Proofs.YtlbcmeebcfalpaaGreatDoor
