/- Joined: ETrb, ODon, ORep. -/
import Derived.Test.YtfdipkhbemgojaaGreatDoorU23
import Derived.Test.YtfdipkhbemgojaaGreatDoorU29
import Derived.Test.YtfdipkhbemgojaaGreatDoorU21
set_option linter.unusedVariables false
set_option linter.unusedSimpArgs false
set_option maxRecDepth 100000
set_option maxHeartbeats 16000000
namespace Go.Proofs.YtfdipkhbemgojaaGreatDoor
open Go

section
variable {P : Program} {ops : Array Oper} {md : Region.Mode} {X : Type} {Wf : X -> World} {Q : Exit -> Act -> World -> Prop}
def treeZ (md : Region.Mode) (ops : Array Oper) : Tree -> Array Bool -> Bool
  | .fin, done => decide (Region.ready md ops done = [])
  | .read k t, done => decide (k < ops.size) && (Region.ready md ops done).contains k && Region.free md ops done k && treeZ md ops t (done.setIfInBounds k true)
  | .act k t, done => decide (k < ops.size) && decide (Region.ready md ops done = [k]) && treeZ md ops t (done.setIfInBounds k true)
  | .two i t j u, done => decide (i < ops.size) && decide (j < ops.size) && decide (t.len = u.len) && decide (Region.ready md ops done = [i, j]) && treeZ md ops t (done.setIfInBounds i true) && treeZ md ops u (done.setIfInBounds j true)
theorem headZ_tree {l : List Oper} (hl : ops = l.toArray) (hsel : Region.noSelect ops = true) (hbar : barB md ops ops.size = true)
    (hQ : ∀ c a d v w, Q (.panic c) (Act.put a d v) w -> Q (.panic c) a w) : ∀ (t : Tree) (done : Array Bool) (a : Act) (w : World), treeZ md ops t done = true ->
    (∃ x, w = Wf x) -> wpTree P l Q Wf (Q .normal) t a w -> headH P md ops Q Wf ops.size (fun done' a' w' => Region.ready md ops done' = [] /\ Q .normal a' w') t.len done a w
  | .fin, done, a, w, hB, _, h => ⟨by simpa [treeZ] using hB, h⟩
  | .read k t, done, a, w, hB, hS, h => by
    simp only [treeZ, Bool.and_eq_true, decide_eq_true_eq, List.contains_iff_mem] at hB
    obtain ⟨⟨⟨hkl, h2⟩, h3⟩, h4⟩ := hB
    obtain ⟨o, ho'⟩ : ∃ o, ops[k]? = some o := ⟨_, Array.getElem?_eq_getElem hkl⟩
    have ho : l[k]? = some o := by rw [hl] at ho'; simpa using ho'
    replace h := h o ho
    rw [<- hl] at h
    unfold rOp at h
    have hL : ∀ done a w, (fun (done' : Array Bool) a' w' => Region.ready md ops done' = [] /\ Q .normal a' w') done a w -> ∀ j ∈ Region.ready md ops done, ops.size <= j := fun done a w hL j hj => by rw [hL.1] at hj; cases hj
    by_cases hw : Region.wanted o (yielded ops a.tmps) = true
    · rw [if_pos hw] at h
      obtain ⟨v, hv, hK⟩ := h
      refine headB_first (v := v) ho' hsel hbar hkl hL hQ t.len done a w (Region.free_spec ho' h3) h2 (.inl ⟨hw, ?_⟩) hS ?_
      · rintro w' ⟨x, rfl⟩; exact hv x
      · exact headZ_tree hl hsel hbar hQ t _ _ w h4 hS hK
    · rw [if_neg hw] at h
      refine headB_first (v := undef) ho' hsel hbar hkl hL hQ t.len done a w (Region.free_spec ho' h3) h2 (.inr ⟨by simpa using hw, rfl⟩) hS ?_
      exact headZ_tree hl hsel hbar hQ t _ _ w h4 hS h
  | .act k t, done, a, w, hB, hS, h => by
    simp only [treeZ, Bool.and_eq_true, decide_eq_true_eq] at hB
    obtain ⟨⟨hkl, h2⟩, h3⟩ := hB
    obtain ⟨o, ho'⟩ : ∃ o, ops[k]? = some o := ⟨_, Array.getElem?_eq_getElem hkl⟩
    have ho : l[k]? = some o := by rw [hl] at ho'; simpa using ho'
    replace h := h o ho
    rw [<- hl] at h
    refine ⟨by rw [h2]; simp, fun i hi => ?_⟩
    rw [h2] at hi
    have e : i = k := by simpa using hi
    subst e
    exact ⟨hkl, wpOp_mono (fun a' w' h' => ⟨h'.1, headZ_tree hl hsel hbar hQ t _ a' w' h3 h'.1 h'.2⟩) (wpOp_of_list ho' h)⟩
  | .two i t j u, done, a, w, hB, hS, h => by
    simp only [treeZ, Bool.and_eq_true, decide_eq_true_eq] at hB
    obtain ⟨⟨⟨⟨⟨hil, hjl⟩, hlen⟩, h2⟩, h3⟩, h4⟩ := hB
    obtain ⟨oi, hoi'⟩ : ∃ o, ops[i]? = some o := ⟨_, Array.getElem?_eq_getElem hil⟩
    obtain ⟨oj, hoj'⟩ : ∃ o, ops[j]? = some o := ⟨_, Array.getElem?_eq_getElem hjl⟩
    have hoi : l[i]? = some oi := by rw [hl] at hoi'; simpa using hoi'
    have hoj : l[j]? = some oj := by rw [hl] at hoj'; simpa using hoj'
    have ha := h.1 oi hoi
    have hb := h.2 oj hoj
    rw [<- hl] at ha hb
    refine ⟨by rw [h2]; simp, fun k hk => ?_⟩
    rw [h2] at hk
    simp only [List.mem_cons, List.not_mem_nil, or_false] at hk
    rcases hk with rfl | rfl
    · exact ⟨hil, wpOp_mono (fun a' w' h' => ⟨h'.1, headZ_tree hl hsel hbar hQ t _ a' w' h3 h'.1 h'.2⟩) (wpOp_of_list hoi' ha)⟩
    · refine ⟨hjl, wpOp_mono (fun a' w' h' => ⟨h'.1, ?_⟩) (wpOp_of_list hoj' hb)⟩
      show headH _ _ _ _ _ _ _ t.len _ _ _
      rw [hlen]
      exact headZ_tree hl hsel hbar hQ u _ a' w' h4 h'.1 h'.2
def treeZB (l : List Oper) (t : Tree) : Bool :=
  Region.noSelect l.toArray && decide (t.len = l.length) && treeZ .any l.toArray t (Array.replicate l.length false)
theorem bar_full (ops : Array Oper) : barB md ops ops.size = true := by
  unfold barB
  rw [List.all_eq_true]
  intro t ht
  rw [List.mem_range] at ht
  simp [ht]
theorem wp_region_treeZ {id : Nat} {a : Act} {w : World} {l : List Oper} (t : Tree) (hm : P.follows .mixedOrders = true) (hB : treeZB l t = true)
    (hQ : ∀ c a d v w, Q (.panic c) (Act.put a d v) w -> Q (.panic c) a w) (hS : ∃ x, w.drew = Wf x)
    (h : wpTree P l Q Wf (Q .normal) t a w.drew) : (Code.region id l.toArray true).wp P Q a w := by
  refine wp_region_any hm ?_
  simp only [treeZB, Bool.and_eq_true, decide_eq_true_eq] at hB
  obtain ⟨⟨hsel, hlen⟩, hr⟩ := hB
  have H := headZ_tree (P := P) (Q := Q) (Wf := Wf) (ops := l.toArray) rfl hsel (bar_full _) hQ t (Array.replicate l.length false) a w.drew hr hS h
  have K := headH_sound (g := 0) (fun done a' w' hL => wpAny_done hL.1 hL.2 _) _ _ _ _ H
  rw [hlen] at K
  simpa using K
end
end Go.Proofs.YtfdipkhbemgojaaGreatDoor
namespace Go.Proofs.YtfdipkhbemgojaaGreatDoor
open Go.RowKit Go.Shelf
attribute [local go_sem] Oper.semAt_some

/-- The elements: of the list of those that are not undone. -/
abbrev DOp (ops : List Op) (und : List Bool) := { p : Nat × Op // p ∈ doneN ops und ops.length }
abbrev dEnc {ops : List Op} {und : List Bool} (p : DOp ops und) : Array Value := #[.int .i64 (p.1.1 : Int), p.1.2.val]
def doneL (ops : List Op) (und : List Bool) : List (DOp ops und) := (doneN ops und ops.length).attach
theorem doneL_len (ops : List Op) (und : List Bool) : (doneL ops und).length = (doneN ops und ops.length).length := by simp [doneL]
theorem doneL_map (ops : List Op) (und : List Bool) : (doneL ops und).map (·.1) = doneN ops und ops.length := by simp [doneL, List.attach_map_subtype_val]
theorem done_get {ops : List Op} {und : List Bool} {k : Nat} (hk : k < ops.length) (hu : unK und k = false) :
    ∃ y : DOp ops und, y.1 = (k, opK ops k) /\ (doneL ops und)[(doneN ops und k).length]? = some y /\ (doneN ops und (k + 1)).length = (doneN ops und k).length + 1 := by
  have e : doneN ops und (k + 1) = doneN ops und k ++ [(k, opK ops k)] := by rw [doneN, if_neg (by simp [hu])]
  obtain ⟨r, hr⟩ := doneN_prefix ops und (k + 1) (ops.length - (k + 1))
  rw [show k + 1 + (ops.length - (k + 1)) = ops.length by omega, e] at hr
  have hget : (doneN ops und ops.length)[(doneN ops und k).length]? = some (k, opK ops k) := by rw [<- hr]; simp
  refine ⟨⟨_, List.mem_of_getElem? hget⟩, rfl, ?_, by rw [e]; simp⟩
  unfold doneL
  rw [List.getElem?_attach]
  simp [hget]
theorem done_skip {ops : List Op} {und : List Bool} {k : Nat} (hu : unK und k = true) : doneN ops und (k + 1) = doneN ops und k := by rw [doneN, if_pos hu]

theorem done_in (m : Nat) (w : World) (oa : Option Addr) (on oc : Nat) (ua : Option Addr) (un uc : Nat) : CallsIn Fence.wide m Tryz.prog 65 #[.slice oa on oc, .slice ua un uc] w fun e w' => e = .returned (.func (.func 91) #[] #[.pointer (some ⟨w.heap.size, 0, none⟩), .pointer (some ⟨w.heap.size + 1, 0, none⟩)]) /\ w' = (w.alloc (.cells #[.slice oa on oc] 27)).alloc (.cells #[.slice ua un uc] 28) := by
  refine callsIn_of_wp Tryz.func65 rfl trivial ?_ rfl
  simp only [Tryz.ntmps65, List.size_toArray, List.length_cons, List.length_nil, Nat.reduceAdd, Nat.reduceSub, Array.replicate_succ, Array.replicate_zero, List.push_toArray, List.append_toArray, List.nil_append, List.cons_append]
  gi_wp2
  go_ret
  exact ⟨rfl, rfl⟩
theorem done_stops (m : Nat) (_hm : 1 <= m) (Ow : World -> Nat -> Prop) (b1 b2 : Nat) (oa : Option Addr) (on oc : Nat) (ua : Option Addr) (un uc : Nat) (ops : List Op) (und : List Bool) (w : World)
    (h1 : w.heap[b1]? = some (.cells #[.slice oa on oc] 27 (0, 0))) (h2 : w.heap[b2]? = some (.cells #[.slice ua un uc] 28 (0, 0))) (ho : Opsq (fun b => ¬ Ow w b) w oa on oc ops) (hu : Flgs (fun b => ¬ Ow w b) w ua un uc und) (hl : ops.length = und.length)
    (hnd : ∀ b, Ow w b -> b < w.heap.size) (hst : ∀ A B, w.heap.size <= A.heap.size -> Below A.heap.size A B -> ∀ b, Ow B b ↔ Ow A b) (hb1 : ¬ Ow w b1) (hb2 : ¬ Ow w b2) :
    SeqStopsK Fence.wide m Tryz.prog 91 #[.pointer (some ⟨b1, 0, none⟩), .pointer (some ⟨b2, 0, none⟩)] (fun p : DOp ops und => dEnc p) (KpO Ow) (fun ys => ys = doneL ops und) (fun pre => pre <+: doneL ops und) (doneL ops und).length w := fun lo J Jx W0 hW hJ _ hY h0 => by
  have hW1 : ∀ b, Ow W0 b ↔ Ow w b := hst w W0 (Nat.le_refl _) hW
  have hkw : KpO Ow w W0 := .below (fun b h => (hW1 b).1 h) hW
  have HK : Hid (∀ W, KpO Ow W0 W -> W.heap[b1]? = some (.cells #[.slice oa on oc] 27 (0, 0)) /\ W.heap[b2]? = some (.cells #[.slice ua un uc] 28 (0, 0)) /\ Opsq (fun b => ¬ Ow w b) W oa on oc ops /\ Flgs (fun b => ¬ Ow w b) W ua un uc und) := fun W hk =>
    ⟨(hkw.trans hk).keepS.2 _ _ _ _ hb1 h1, (hkw.trans hk).keepS.2 _ _ _ _ hb2 h2, ho.keep rOpn_ok (hkw.trans hk).keepS, hu.keep rBool_ok (hkw.trans hk).keepS⟩
  have HST : Hid (∀ A B, W0.heap.size <= A.heap.size -> Below A.heap.size A B -> KpO Ow A B) := fun A B h1 h2 => .below (fun b h => (hst A B (Nat.le_trans hW.size h1) h2 b).1 h) h2
  have HY := hiq hY
  have HJ := hiq hJ
  have HJ0 : Hid (J ((doneL ops und).take (doneN ops und 0).length) W0) := h0
  have hon : on = ops.length := ho.len
  have hun : un = und.length := hu.len
  have hob := ho.bound
  obtain ⟨g1, g2, -⟩ := HK.out _ (KpO.refl _ _)
  have c1 := cell_of_one g1
  have c2 := cell_of_one g2
  have HL : Hid (on = ops.length /\ un = und.length /\ ops.length = und.length) := ⟨hon, hun, hl⟩
  have hle : on <= un := by omega
  clear hY hJ hW hkw hW1 h0 h1 h2 ho hu hnd hst hb1 hb2 g1 g2 hon hun hl
  obtain ⟨W, rfl⟩ : ∃ W, W = W0 := ⟨_, rfl⟩
  refine callsIn_of_wp Tryz.func91 rfl trivial ?_ rfl
  simp only [Tryz.ntmps91, List.size_toArray, List.length_cons, List.length_nil, Nat.reduceAdd, Nat.reduceSub, Array.replicate_succ, Array.replicate_zero, List.push_toArray, List.append_toArray, List.nil_append, List.cons_append]
  gi_wp2
  gi_loopw [8] (fun i wr => ∃ k : Nat, i = .int .i64 k /\ k <= on /\ KpO Ow W wr /\ Hid (J ((doneL ops und).take (doneN ops und k).length) wr)) (fun i _ => on - (intOf i).toNat)
  case atStart => exact ⟨0, rfl, Nat.zero_le _, KpO.refl _ _, HJ0.out⟩
  case round =>
    clear HJ0 c1 c2
    obtain ⟨k, rfl, hk, hkp, hJk⟩ := hrel
    by_cases hlt : k < on
    · obtain ⟨g1, g2, ho, hu⟩ := HK.out _ hkp
      obtain ⟨o, bo, off, eo, -, rfl, -, -, hoo, ⟨d0, d1, d2, d3, d4⟩⟩ := ho.op hlt
      obtain ⟨u, bu, ofu, eu, -, rfl, -, -, du⟩ := hu.flg (j := k) (by omega)
      have hop : opK ops k = o := by unfold opK; rw [eo]; rfl
      have hun : unK und k = u := by unfold unK; rw [eu]; rfl
      have hbx : Below wr.heap.size wr (wr.alloc (.cells #[.int .i64 o.kind, .string o.sig, .int .i64 o.tok, .int .i64 o.other, .string o.text] 32)) := (Below.refl _ _).alloc (Nat.le_refl _) _
      have hkx : KpO Ow W (wr.alloc (.cells #[.int .i64 o.kind, .string o.sig, .int .i64 o.tok, .int .i64 o.other, .string o.text] 32)) := hkp.trans (HST.out _ _ hkp.1 hbx)
      have hJx : Hid (J ((doneL ops und).take (doneN ops und k).length) (wr.alloc (.cells #[.int .i64 o.kind, .string o.sig, .int .i64 o.tok, .int .i64 o.other, .string o.text] 32))) := abides_alloc HJ.out hJk.out _
      obtain ⟨e0, e1, e2, e3, e4⟩ := box_cells5 (World.alloc_heap_new wr (.cells #[.int .i64 o.kind, .string o.sig, .int .i64 o.tok, .int .i64 o.other, .string o.text] 32))
      have c1 := cell_of_one g1
      have c2 := cell_of_one g2
      have hku : k < un := by omega
      replace c2 := clq hbx c2; replace du := clq hbx du
      obtain ⟨ok, og, ot, oo, ox⟩ := o
      dsimp only at d0 d1 d2 d3 d4 e0 e1 e2 e3 e4 hkx hJx c2 du
      have HJX := hJx
      clear g1 g2 ho hu eo eu hoo hJk hkp hbx hJx
      cases u with
      | true =>
        have HSK := hiq (done_skip (ops := ops) hun)
        clear hun hop
        gi_wp2
        refine ⟨(fun f h => by cases h), ?_⟩
        gi_wp2
        generalize wr.alloc (.cells #[.int .i64 ok, .string og, .int .i64 ot, .int .i64 oo, .string ox] 32) = W1 at *
        go_roundw
        case rel => exact ⟨k + 1, by go_num, by omega, hkx, by rw [HSK.out]; exact HJX.out⟩
        case measure => simp [intOf]; omega
      | false =>
        obtain ⟨y, y1, y2, y3⟩ := done_get (ops := ops) (und := und) (k := k) (by have := HL.out.1; omega) hun
        obtain ⟨fn, tmps, assign, body, hyy, hR⟩ := HY.out _ y _ HJX.out (by rw [List.length_take]; have := (List.getElem?_eq_some_iff.1 y2).1; omega)
        have hnext : Hid ((doneL ops und).take (doneN ops und k).length ++ [y] = (doneL ops und).take (doneN ops und (k + 1)).length) := by
          show _ = _
          rw [y3, List.take_add_one, y2]; rfl
        have HRR := hiq hR
        dsimp only [dEnc] at hyy
        rw [y1] at hyy
        dsimp only at hyy
        rw [hop] at hyy
        dsimp only [Op.val] at hyy
        clear hR y1 y2 y3 hop hun HJX
        gi_wp2_with fail
        generalize wr.alloc (.cells #[.int .i64 ok, .string og, .int .i64 ot, .int .i64 oo, .string ox] 32) = W1 at *
        refine HRR.out.mono ?_
        rintro e W4 (⟨rfl, hJ4, hk4⟩ | ⟨rfl, hJx4⟩)
        · have hJ5 : Hid (J ((doneL ops und).take (doneN ops und (k + 1)).length) W4) := by show J _ _; rw [<- hnext.out]; exact hJ4
          have hk5 := hkx.trans hk4
          clear hJ4 hk4 e0 e1 e2 e3 e4 c1 c2 du d0 d1 d2 d3 d4
          gi_wp2
          go_roundw
          case rel => exact ⟨k + 1, by go_num, by omega, hk5, hJ5.out⟩
          case measure => simp [intOf]; omega
        · have hJ5 : Hid (Jx ((doneL ops und).take (doneN ops und (k + 1)).length) W4) := by show Jx _ _; rw [<- hnext.out]; exact hJx4
          clear hJx4 e0 e1 e2 e3 e4 c1 c2 du d0 d1 d2 d3 d4
          gi_wp2
          refine bodyPost_ret (results_none rfl _ _ _) rfl ?_
          exact ⟨⟨_, rfl⟩, .inr ⟨_, List.take_prefix _ _, hJ5.out⟩⟩
    · obtain rfl : on = k := by omega
      have hJ5 : Hid (J (doneL ops und) wr) := by
        have e : (doneL ops und).take (doneN ops und on).length = doneL ops und := by
          rw [HL.out.1, <- doneL_len, List.take_length]
        show J _ _; rw [<- e]; exact hJk.out
      clear hJk
      gi_wp2
      go_end0
      exact ⟨⟨_, rfl⟩, .inl ⟨_, rfl, hJ5.out⟩⟩
end Go.Proofs.YtfdipkhbemgojaaGreatDoor
namespace Go.Proofs.YtfdipkhbemgojaaGreatDoor
open Go.RowKit Go.Shelf
attribute [local go_sem] Oper.semAt_some

theorem infoI : (Tryz.prog.info? 3).map (fun i => (i.zero, i.size, i.bytes)) = some (some (.int .i64 0), 1, 8) := by kernel_rfl
/-- What the closure turns: the collation, the list of the skipped, the first error. -/
def OwR (bx bs bf : Nat) (A : World) (b : Nat) : Prop := b = bx \/ b = bf \/ OwB bs A b
theorem owR_below {bx bs bf : Nat} {A B : World} (h4 : bs < A.heap.size) (h : Below A.heap.size A B) : ∀ b, OwR bx bs bf B b ↔ OwR bx bs bf A b := by
  intro b; unfold OwR; rw [owB_below h4 h]
theorem owR_same {bx bs bf : Nat} {A B : World} (h : B.cell? ⟨bs, 0, none⟩ = A.cell? ⟨bs, 0, none⟩) : ∀ b, OwR bx bs bf B b ↔ OwR bx bs bf A b := by
  intro b; unfold OwR OwB; rw [h]
theorem kpR_of_B {bx bs bf : Nat} {A B : World} (h : KpO (OwB bs) A B) : KpO (OwR bx bs bf) A B := by
  refine ⟨h.1, fun b cs t fr hb hA => h.2.1 b cs t fr (fun q => hb (.inr (.inr q))) hA, ?_, ?_⟩
  · rintro b (rfl | rfl | q)
    · exact .inl (.inl rfl)
    · exact .inl (.inr (.inl rfl))
    · rcases h.2.2.1 b q with r | r
      · exact .inl (.inr (.inr r))
      · exact .inr r
  · rintro hn b (rfl | rfl | q)
    · exact Nat.lt_of_lt_of_le (hn _ (.inl rfl)) h.1
    · exact Nat.lt_of_lt_of_le (hn _ (.inr (.inl rfl))) h.1
    · exact h.2.2.2 (fun b hb => hn b (.inr (.inr hb))) b q
theorem kpR_set {bx bs bf : Nat} {W : World} (hne : bs ≠ bf) (v : Value) : KpO (OwR bx bs bf) W (W.setCell ⟨bf, 0, none⟩ v) := by
  have hsz : (W.setCell ⟨bf, 0, none⟩ v).heap.size = W.heap.size := by simp [World.setCell]
  have hoth : ∀ b, b ≠ bf -> (W.setCell ⟨bf, 0, none⟩ v).heap[b]? = W.heap[b]? := fun b hb => Below.heap_setCell _ _ _ _ hb
  have hOw := owR_same (bx := bx) (bf := bf) (World.cell?_of_block (a := ⟨bs, 0, none⟩) (hoth bs hne))
  refine ⟨by omega, fun b cs t fr hb hA => ?_, fun b hb => .inl ((hOw b).1 hb), fun hn b hb => by rw [hsz]; exact hn b ((hOw b).1 hb)⟩
  rw [hoth b (fun e => hb (.inr (.inl e)))]; exact hA
theorem rdC_kp {G : Nat -> Prop} {bx bs bf : Nat} {A B : World} {v : CV} {x : Col} (h : RdC (fun b => G b /\ ¬ OwR bx bs bf A b) A v x) (hk : KpO (OwR bx bs bf) A B) : RdC (fun b => G b /\ ¬ OwR bx bs bf B b) B v x := by
  have h1 := (h.mono (S' := fun b => (G b /\ ¬ OwR bx bs bf A b) /\ b < A.heap.size) (fun b q q' => ⟨q, q'⟩)).keep (hk.keepS.mono (fun b q => q.1.2))
  refine h1.mono fun b q _ => ⟨q.1.1, fun r => ?_⟩
  rcases hk.2.2.1 b r with z | z
  · exact q.1.2 z
  · omega
/-- What the three variables hold. -/
def VarsP (G : Nat -> Prop) (bx bs bf B : Nat) (q : RS) (W : World) : Prop := ∃ (v : CV) (a : Option Addr) (n c : Nat), W.heap[bx]? = some (.cells v.arr 26 (0, 0)) /\ W.heap[bs]? = some (.cells #[.slice a n c] 51 (0, 0)) /\ W.heap[bf]? = some (.cells #[.int .i64 q.er] 35 (0, 0)) /\
  RdC (fun b => G b /\ ¬ OwR bx bs bf W b) W v q.st /\ OwnQ 3 1 encI W B a n c q.sk
theorem VarsP.below {G : Nat -> Prop} {bx bs bf B : Nat} {q : RS} {A W : World} (h : VarsP G bx bs bf B q A) (hb : Below A.heap.size A W) : VarsP G bx bs bf B q W := by
  obtain ⟨v, a, n, c, h1, h2, h3, h4, h5⟩ := h
  have k1 := (Array.getElem?_eq_some_iff.1 h1).1
  have k2 := (Array.getElem?_eq_some_iff.1 h2).1
  have k3 := (Array.getElem?_eq_some_iff.1 h3).1
  exact ⟨v, a, n, c, (hb.block _ k1).trans h1, (hb.block _ k2).trans h2, (hb.block _ k3).trans h3, (h4.below hb).mono (fun b h _ => ⟨h.1, fun h' => h.2 ((owR_below k2 hb b).1 h')⟩), h5.below hb⟩
/-- One more is skipped. -/
theorem vars_app {G : Nat -> Prop} {bx bs bf B n c n' c' : Nat} {er z : Int} {x : Col} {v : CV} {sk : List Int} {a a' : Option Addr} {W W1 W2 : World} (hne : bx ≠ bs /\ bx ≠ bf /\ bs ≠ bf) (hBn : bx < B /\ bs < B /\ bf < B)
    (h1 : W.heap[bx]? = some (.cells v.arr 26 (0, 0))) (h2 : W.heap[bs]? = some (.cells #[.slice a n c] 51 (0, 0))) (h3 : W.heap[bf]? = some (.cells #[.int .i64 er] 35 (0, 0)))
    (h4 : RdC (fun b => G b /\ ¬ OwR bx bs bf W b) W v x) (h5 : OwnQ 3 1 encI W B a n c sk) (hb1 : Below W.heap.size W W1) (ho : OwnQ 3 1 encI W2 B a' n' c' (sk ++ [z])) (hb : Below B W W2) (hg : W1.grownBy W2 (Value.slice a n c).ownBlock)
    (hv : (Value.slice a' n' c').ownBlock = (Value.slice a n c).ownBlock \/ (Value.slice a' n' c').ownBlock = some W1.heap.size) :
    VarsP G bx bs bf B ⟨x, sk ++ [z], er⟩ (W2.setCell ⟨bs, 0, none⟩ (.slice a' n' c')) /\ KpO (OwR bx bs bf) W (W2.setCell ⟨bs, 0, none⟩ (.slice a' n' c')) /\ KeepsFrom B W (W2.setCell ⟨bs, 0, none⟩ (.slice a' n' c')) /\ Below bs W (W2.setCell ⟨bs, 0, none⟩ (.slice a' n' c')) := by
  have k2 := (Array.getElem?_eq_some_iff.1 h2).1
  have g2 := (hb.block bs hBn.2.1).trans h2
  have hk : KpO (OwR bx bs bf) W (W2.setCell ⟨bs, 0, none⟩ (.slice a' n' c')) := kpR_of_B (kpO_app k2 (cell_of_one h2) h5 ho hb1 hg hv ⟨_, cell_of_one g2⟩)
  refine ⟨⟨v, a', n', c', ?_, ?_, ?_, rdC_kp h4 hk, ho.setOther (fun y hy => by have := (ho.lt y hy).1; omega) _⟩, hk, keepsFrom_app hBn.2.1 h5 hb1 hg _, below_setc (hb.mono (by omega)) (Nat.le_refl _) 0 _⟩
  · rw [heap_setCell_other hne.1, hb.block bx hBn.1]; exact h1
  · rw [heap_setCell_self g2]; simp
  · rw [heap_setCell_other (Ne.symm hne.2.2), hb.block bf hBn.2.2]; exact h3
theorem step_any (G : Nat -> Prop) (bx bs bf B lim : Nat) (q : RS) (k : Nat) (o : Op) (w : World) (hV : VarsP G bx bs bf B q w) (hG : ∀ b, lim <= b -> G b) (hlw : lim <= w.heap.size) (hB : B <= w.heap.size) (hne : bx ≠ bs /\ bx ≠ bf /\ bs ≠ bf) (hBn : bx < B /\ bs < B /\ bf < B)
    (hm : Sml q.st) (hE : Env w) (ho : o.ok) (hx : o.text.size <= 1000000) (hk : k < 4294967296) (hln : q.sk.length <= 8192) (hq : q.er = 0 ↔ q.sk = []) :
    Calls Tryz.prog 80 #[.int .i64 (k : Int), o.val, .pointer (some ⟨bx, 0, none⟩), .pointer (some ⟨bs, 0, none⟩), .pointer (some ⟨bf, 0, none⟩)] w fun e w' => (∃ v, e = .returned v) /\ VarsP G bx bs bf B (stepR q k o false) w' /\ KpO (OwR bx bs bf) w w' /\ KeepsFrom B w w' /\ Below (min bx (min bs bf)) w w' := by
  obtain ⟨v, a, n, c, h1, h2, h3, h4, h5⟩ := hV
  obtain ⟨x, sk, er⟩ := q
  dsimp only at h3 h4 h5 hm hln hq
  have HA : Hid (∀ W, Below w.heap.size w W -> Calls Tryz.prog 26 #[v.val, o.val] W (EditPost (fun b => (G b /\ ¬ OwR bx bs bf w b) /\ b < w.heap.size) x o W)) := fun W hb => edit_any _ v x o W ((h4.mono (fun b h h' => ⟨h, h'⟩)).below hb) hm (hE.below hb) ho hx
  have HST0 : Hid (opErr x o = 0 -> stepR ⟨x, sk, er⟩ k o false = ⟨opApply x o, sk, er⟩) := fun h0 => by unfold stepR; rw [if_neg (by simp), if_pos h0]
  have HST1 : Hid (opErr x o ≠ 0 -> stepR ⟨x, sk, er⟩ k o false = ⟨x, sk ++ [(k : Int)], if er = 0 then opErr x o else er⟩) := fun h0 => by unfold stepR; rw [if_neg (by simp), if_neg h0]
  unfold EditPost at HA
  generalize stepR ⟨x, sk, er⟩ k o false = Q at *
  generalize opApply x o = Y at *
  generalize opErr x o = E at *
  have hle := h5.len
  have hnk : n <= 8192 := by omega
  have HR := hiq h4
  have HO := hiq h5
  have H1 := hiq h1
  have H2 := hiq h2
  have H3 := hiq h3
  have k1 := (Array.getElem?_eq_some_iff.1 h1).1
  have k2 := (Array.getElem?_eq_some_iff.1 h2).1
  have k3 := (Array.getElem?_eq_some_iff.1 h3).1
  clear hm hE ho hx h4 h5
  obtain ⟨sec, sa, sn, sc, ta, tn, tc, ca, cn, cc⟩ := v
  obtain ⟨ok, og, ot, oo, ox⟩ := o
  change w.heap[bx]? = some (.cells #[.string sec, .slice sa sn sc, .slice ta tn tc, .slice ca cn cc] 26 (0, 0)) at h1
  change Calls _ _ #[_, .agg #[.int .i64 ok, .string og, .int .i64 ot, .int .i64 oo, .string ox], _, _, _] _ _
  change Hid (∀ W, _ -> Calls _ _ #[.agg #[.string sec, .slice sa sn sc, .slice ta tn tc, .slice ca cn cc], .agg #[.int .i64 ok, .string og, .int .i64 ot, .int .i64 oo, .string ox]] _ _) at HA
  have hb0 : Below w.heap.size w (w.alloc (.cells #[.int .i64 ok, .string og, .int .i64 ot, .int .i64 oo, .string ox] 32)) := (Below.refl _ _).alloc (Nat.le_refl _) _
  have HAA := hiq (HA.out _ hb0)
  obtain ⟨o0, o1, o2, o3, o4⟩ := box_cells5 (World.alloc_heap_new w (.cells #[.int .i64 ok, .string og, .int .i64 ot, .int .i64 oo, .string ox] 32))
  obtain ⟨c0, c1, c2, c3, -⟩ := box_cells4 h1
  replace c0 := clq hb0 c0; replace c1 := clq hb0 c1; replace c2 := clq hb0 c2; replace c3 := clq hb0 c3
  clear HA h1 h2 h3
  go_enter Tryz.func80, Tryz.ntmps80
  go_wp2_with fail
  generalize hW1 : w.alloc (.cells #[.int .i64 ok, .string og, .int .i64 ot, .int .i64 oo, .string ox] 32) = W1 at *
  refine HAA.out.mono ?_
  rintro e W2 ⟨v', he, hR2, hb2⟩
  obtain ⟨sec2, sa2, sn2, sc2, ta2, tn2, tc2, ca2, cn2, cc2⟩ := v'
  change e = .returned (.tuple #[.agg #[.string sec2, .slice sa2 sn2 sc2, .slice ta2 tn2 tc2, .slice ca2 cn2 cc2], .int .i64 E]) at he
  subst he
  have hal : Below W2.heap.size W2 (W2.alloc (.cells #[.string sec2, .slice sa2 sn2 sc2, .slice ta2 tn2 tc2, .slice ca2 cn2 cc2] 26)) := (Below.refl _ _).alloc (Nat.le_refl _) _
  have hb3 := hb0.trans ((hb2.trans (hal.mono hb2.size)).mono hb0.size)
  obtain ⟨z0, z1, z2, z3, -⟩ := box_cells4 (World.alloc_heap_new W2 (.cells #[.string sec2, .slice sa2 sn2 sc2, .slice ta2 tn2 tc2, .slice ca2 cn2 cc2] 26))
  have g1 := (hb3.block _ k1).trans H1.out
  have g2 := (hb3.block _ k2).trans H2.out
  have g3 := (hb3.block _ k3).trans H3.out
  have hs3 := hb3.size
  have hs1 := hb0.size
  have HR2 := hiq (hR2.below hal)
  have HB3 := hiq hb3
  have HG1 := hiq g1
  have HG2 := hiq g2
  have HG3 := hiq g3
  clear hb0 HAA hb2 hal hR2 hb3 hW1 c0 c1 c2 c3 o0 o1 o2 o3 o4
  by_cases h0 : E = 0
  · have t0 : ((E : Int) == 0) = true := by simp [h0]
    have HQ := hiq (HST0.out h0)
    obtain ⟨-, -, -, -, yf⟩ := box_cells4 g1
    have y1 := box_cells4 g1
    obtain ⟨y0, y1, y2, y3, -⟩ := box_cells4 g1
    have yf0 := yf 0
    have yf1 := yf 1
    have yf2 := yf 2
    have yf3 := yf 3
    clear HST0 HST1 yf g1 g2 g3 hle
    go_wp2
    generalize W2.alloc (.cells #[.string sec2, .slice sa2 sn2 sc2, .slice ta2 tn2 tc2, .slice ca2 cn2 cc2] 26) = W3 at *
    change bodyPost _ _ _ _ _ (put4 W3 bx (.string sec2) (.slice sa2 sn2 sc2) (.slice ta2 tn2 tc2) (.slice ca2 cn2 cc2))
    have hsz : (put4 W3 bx (.string sec2) (.slice sa2 sn2 sc2) (.slice ta2 tn2 tc2) (.slice ca2 cn2 cc2)).heap.size = W3.heap.size := by simp [put4, World.setCell]
    have hoth : ∀ b, b ≠ bx -> (put4 W3 bx (.string sec2) (.slice sa2 sn2 sc2) (.slice ta2 tn2 tc2) (.slice ca2 cn2 cc2)).heap[b]? = W3.heap[b]? := fun b hb => put4_other hb _ _ _ _
    have hcs : (put4 W3 bx (.string sec2) (.slice sa2 sn2 sc2) (.slice ta2 tn2 tc2) (.slice ca2 cn2 cc2)).cell? ⟨bs, 0, none⟩ = w.cell? ⟨bs, 0, none⟩ := by
      rw [World.cell?_of_block (a := ⟨bs, 0, none⟩) (hoth bs (Ne.symm hne.1)), World.cell?_of_block (a := ⟨bs, 0, none⟩) (HB3.out.block bs k2)]
    have hOw : ∀ b, OwR bx bs bf (put4 W3 bx (.string sec2) (.slice sa2 sn2 sc2) (.slice ta2 tn2 tc2) (.slice ca2 cn2 cc2)) b ↔ OwR bx bs bf w b := fun b => by unfold OwR OwB; rw [hcs]
    refine bodyPost_ret (results_none rfl _ _ _) rfl ⟨⟨_, rfl⟩, ?_, ?_, ?_, ?_⟩
    · rw [HQ.out]
      refine ⟨⟨sec2, sa2, sn2, sc2, ta2, tn2, tc2, ca2, cn2, cc2⟩, a, n, c, put4_at HG1.out _ _ _ _, (hoth _ (Ne.symm hne.1)).trans HG2.out, (hoth _ (Ne.symm hne.2.1)).trans HG3.out, ?_, ?_⟩
      · refine (HR2.out.keep (put4_keep ?_ _ _ _ _)).mono ?_
        · rintro (⟨⟨-, q⟩, -⟩ | q)
          · exact q (.inl rfl)
          · omega
        · rintro b (⟨⟨q, q'⟩, -⟩ | q) _
          · exact ⟨q, fun h => q' ((hOw b).1 h)⟩
          · refine ⟨hG b (by omega), fun h => ?_⟩
            rcases (hOw b).1 h with r | r | r | ⟨y, n', c', hy, r⟩
            · omega
            · omega
            · omega
            · rw [cell_of_one H2.out] at hy
              cases hy
              have := (HO.out.lt y rfl).2
              omega
      · exact (HO.out.below HB3.out).same (fun y hy => hoth _ (fun e => by have := (HO.out.lt y hy).1; omega))
    · refine ⟨by omega, fun b cs t fr hb hA => ?_, fun b hb => .inl ((hOw b).1 hb), fun hn b hb => by rw [hsz]; have := hn b ((hOw b).1 hb); omega⟩
      have hbl := (Array.getElem?_eq_some_iff.1 hA).1
      rw [hoth b (fun e => hb (.inl e)), HB3.out.block b hbl]; exact hA
    · refine ⟨by omega, fun b o hb hA hc => ?_⟩
      have hbl := (Array.getElem?_eq_some_iff.1 hA).1
      rw [hoth b (by omega), HB3.out.block b hbl]; exact hA
    · exact put4_below (HB3.out.mono (by omega)) (by omega) _ _ _ _
  · have t0 : ((E : Int) == 0) = false := by simpa using h0
    have HQ := hiq (HST1.out h0)
    have hW3 : Below w.heap.size w (W2.alloc (.cells #[.string sec2, .slice sa2 sn2 sc2, .slice ta2 tn2 tc2, .slice ca2 cn2 cc2] 26)) := HB3.out
    have hR3 := rdC_kp HR.out (KpO.below (fun b h => (owR_below k2 hW3 b).1 h) hW3)
    have hO3 := HO.out.below hW3
    have kf : Hid (KpO (OwR bx bs bf) w (W2.alloc (.cells #[.string sec2, .slice sa2 sn2 sc2, .slice ta2 tn2 tc2, .slice ca2 cn2 cc2] 26))) := KpO.below (fun b h => (owR_below k2 hW3 b).1 h) hW3
    have s3 := cell_of_one g2
    have e3 := cell_of_one g3
    have f3 : (W2.alloc (.cells #[.string sec2, .slice sa2 sn2 sc2, .slice ta2 tn2 tc2, .slice ca2 cn2 cc2] 26)).frozen? ⟨bf, 0, none⟩ = false := frozen5 g3 0
    have fs3 : (W2.alloc (.cells #[.string sec2, .slice sa2 sn2 sc2, .slice ta2 tn2 tc2, .slice ca2 cn2 cc2] 26)).frozen? ⟨bs, 0, none⟩ = false := frozen5 g2 0
    have h3sz : (W2.alloc (.cells #[.string sec2, .slice sa2 sn2 sc2, .slice ta2 tn2 tc2, .slice ca2 cn2 cc2] 26)).heap.size = W2.heap.size + 1 := by simp
    by_cases n0 : n = 0
    · have hsk : sk = [] := List.eq_nil_of_length_eq_zero (by omega)
      have her : er = 0 := hq.2 hsk
      rw [if_pos her] at HQ
      have g4 : ((W2.alloc (.cells #[.string sec2, .slice sa2 sn2 sc2, .slice ta2 tn2 tc2, .slice ca2 cn2 cc2] 26)).setCell ⟨bf, 0, none⟩ (.int .i64 E)).heap[bs]? = some (.cells #[.slice a n c] 51 (0, 0)) := (heap_setCell_other hne.2.2 _).trans g2
      have s4 := cell_of_one g4
      have f4 : ((W2.alloc (.cells #[.string sec2, .slice sa2 sn2 sc2, .slice ta2 tn2 tc2, .slice ca2 cn2 cc2] 26)).setCell ⟨bf, 0, none⟩ (.int .i64 E)).frozen? ⟨bs, 0, none⟩ = false := frozen5 g4 0
      have h4x : ((W2.alloc (.cells #[.string sec2, .slice sa2 sn2 sc2, .slice ta2 tn2 tc2, .slice ca2 cn2 cc2] 26)).setCell ⟨bf, 0, none⟩ (.int .i64 E)).heap[bx]? = some (.cells #[.string sec, .slice sa sn sc, .slice ta tn tc, .slice ca cn cc] 26 (0, 0)) := (heap_setCell_other hne.2.1 _).trans g1
      have h4f : ((W2.alloc (.cells #[.string sec2, .slice sa2 sn2 sc2, .slice ta2 tn2 tc2, .slice ca2 cn2 cc2] 26)).setCell ⟨bf, 0, none⟩ (.int .i64 E)).heap[bf]? = some (.cells #[.int .i64 E] 35 (0, 0)) := by rw [heap_setCell_self g3]; simp
      have hk4 := kpR_set (bx := bx) (bs := bs) (bf := bf) (W := W2.alloc (.cells #[.string sec2, .slice sa2 sn2 sc2, .slice ta2 tn2 tc2, .slice ca2 cn2 cc2] 26)) hne.2.2 (.int .i64 E)
      have hR4 := hiq (rdC_kp hR3 hk4)
      have HK4 := hiq (kf.out.trans hk4)
      have hO4 := hO3.setOther (g := bf) (j := 0) (fun y hy => by have := (hO3.lt y hy).1; omega) (.int .i64 E)
      have hsz4 : ((W2.alloc (.cells #[.string sec2, .slice sa2 sn2 sc2, .slice ta2 tn2 tc2, .slice ca2 cn2 cc2] 26)).setCell ⟨bf, 0, none⟩ (.int .i64 E)).heap.size = W2.heap.size + 1 := by simp [World.setCell]
      have hal5 : Below ((W2.alloc (.cells #[.string sec2, .slice sa2 sn2 sc2, .slice ta2 tn2 tc2, .slice ca2 cn2 cc2] 26)).setCell ⟨bf, 0, none⟩ (.int .i64 E)).heap.size ((W2.alloc (.cells #[.string sec2, .slice sa2 sn2 sc2, .slice ta2 tn2 tc2, .slice ca2 cn2 cc2] 26)).setCell ⟨bf, 0, none⟩ (.int .i64 E)) (((W2.alloc (.cells #[.string sec2, .slice sa2 sn2 sc2, .slice ta2 tn2 tc2, .slice ca2 cn2 cc2] 26)).setCell ⟨bf, 0, none⟩ (.int .i64 E)).alloc (.cells #[.int .i64 (k : Int)] 3)) := (Below.refl _ _).alloc (Nat.le_refl _) _
      have HO5 := hiq (hO4.below hal5)
      have HO4 := hiq hO4
      have HV : Hid (∀ j u, (([(k : Int)] : List Int).flatMap encI)[j]? = some u -> (((W2.alloc (.cells #[.string sec2, .slice sa2 sn2 sc2, .slice ta2 tn2 tc2, .slice ca2 cn2 cc2] 26)).setCell ⟨bf, 0, none⟩ (.int .i64 E)).alloc (.cells #[.int .i64 (k : Int)] 3)).cell? ((⟨W2.heap.size + 1, 0, none⟩ : Addr).add j) = some u) := fun j u hj => by
        have := lit_cells (w := (W2.alloc (.cells #[.string sec2, .slice sa2 sn2 sc2, .slice ta2 tn2 tc2, .slice ca2 cn2 cc2] 26)).setCell ⟨bf, 0, none⟩ (.int .i64 E)) (e := 3) (cs := #[.int .i64 (k : Int)]) (j := j) (u := u) (by exact hj)
        rw [hsz4] at this; exact this
      have hb4B : Hid (Below B ((W2.alloc (.cells #[.string sec2, .slice sa2 sn2 sc2, .slice ta2 tn2 tc2, .slice ca2 cn2 cc2] 26)).setCell ⟨bf, 0, none⟩ (.int .i64 E)) (((W2.alloc (.cells #[.string sec2, .slice sa2 sn2 sc2, .slice ta2 tn2 tc2, .slice ca2 cn2 cc2] 26)).setCell ⟨bf, 0, none⟩ (.int .i64 E)).alloc (.cells #[.int .i64 (k : Int)] 3))) := hal5.mono (by omega)
      have hbf4 : Hid (Below (min bx (min bs bf)) w ((W2.alloc (.cells #[.string sec2, .slice sa2 sn2 sc2, .slice ta2 tn2 tc2, .slice ca2 cn2 cc2] 26)).setCell ⟨bf, 0, none⟩ (.int .i64 E))) := below_setc (hW3.mono (by omega)) (by omega) 0 _
      have hkf4 : Hid (KeepsFrom B w ((W2.alloc (.cells #[.string sec2, .slice sa2 sn2 sc2, .slice ta2 tn2 tc2, .slice ca2 cn2 cc2] 26)).setCell ⟨bf, 0, none⟩ (.int .i64 E))) := keepsFrom_set (by
        exact ⟨by omega, fun b o hb hA hc => by rw [hW3.block b (Array.getElem?_eq_some_iff.1 hA).1]; exact hA⟩) hBn.2.2 _
      have HAL5 := hiq hal5
      have H4 := hiq (And.intro h4x (And.intro g4 h4f))
      have hB9 : Hid (B <= (((W2.alloc (.cells #[.string sec2, .slice sa2 sn2 sc2, .slice ta2 tn2 tc2, .slice ca2 cn2 cc2] 26)).setCell ⟨bf, 0, none⟩ (.int .i64 E)).alloc (.cells #[.int .i64 (k : Int)] 3)).heap.size) := by show _ <= _; have := HAL5.out.size; omega
      subst n0
      clear hR3 hO3 kf hk4 hO4 hal5 HST0 HST1 hq hsk her hle hln g1 g2 g3 g4 h4x h4f h3sz hW3
      go_wp2_with (at_builtin; refine wpList_appQ (l := sk) (ys := [(k : Int)]) infoI Tryz.underlying51 rfl (by decide) (fun _ => rfl) one_i rfl _ _ rfl rfl rfl HO5.out rfl HV.out (by unfold maxLen; omega) (by omega) hB9.out hb4B.out ?_; intro a5 c5 w5 ho5 hb5 hg5 hv5; have c45 := (World.cell?_of_block (a := ⟨bs, 0, none⟩) (hb5.block bs hBn.2.1)).trans s4; have f45 : w5.frozen? ⟨bs, 0, none⟩ = false := (World.frozen?_of_block (a := ⟨bs, 0, none⟩) (hb5.block bs hBn.2.1)).trans f4)
      obtain ⟨w1, w2, w3, w4⟩ := vars_app (er := E) hne hBn H4.out.1 H4.out.2.1 H4.out.2.2 hR4.out HO4.out HAL5.out ho5 hb5 hg5 hv5
      go_end0
      refine ⟨⟨_, rfl⟩, ?_, HK4.out.trans w2, hkf4.out.trans w3, hbf4.out.trans (w4.mono (by omega))⟩
      rw [HQ.out]; exact w1
    · have t1 : ((n : Int) == 0) = false := by simp; omega
      have hsk : sk ≠ [] := fun e => n0 (by rw [hle, e]; rfl)
      have her : er ≠ 0 := fun e => hsk (hq.1 e)
      rw [if_neg her] at HQ
      have hal5 : Below (W2.alloc (.cells #[.string sec2, .slice sa2 sn2 sc2, .slice ta2 tn2 tc2, .slice ca2 cn2 cc2] 26)).heap.size (W2.alloc (.cells #[.string sec2, .slice sa2 sn2 sc2, .slice ta2 tn2 tc2, .slice ca2 cn2 cc2] 26)) ((W2.alloc (.cells #[.string sec2, .slice sa2 sn2 sc2, .slice ta2 tn2 tc2, .slice ca2 cn2 cc2] 26)).alloc (.cells #[.int .i64 (k : Int)] 3)) := (Below.refl _ _).alloc (Nat.le_refl _) _
      have HO5 := hiq (hO3.below hal5)
      have HO3 := hiq hO3
      have HR3 := hiq hR3
      have HV : Hid (∀ j u, (([(k : Int)] : List Int).flatMap encI)[j]? = some u -> ((W2.alloc (.cells #[.string sec2, .slice sa2 sn2 sc2, .slice ta2 tn2 tc2, .slice ca2 cn2 cc2] 26)).alloc (.cells #[.int .i64 (k : Int)] 3)).cell? ((⟨W2.heap.size + 1, 0, none⟩ : Addr).add j) = some u) := fun j u hj => by
        have := lit_cells (w := W2.alloc (.cells #[.string sec2, .slice sa2 sn2 sc2, .slice ta2 tn2 tc2, .slice ca2 cn2 cc2] 26)) (e := 3) (cs := #[.int .i64 (k : Int)]) (j := j) (u := u) (by exact hj)
        rw [h3sz] at this; exact this
      have hb4B : Hid (Below B (W2.alloc (.cells #[.string sec2, .slice sa2 sn2 sc2, .slice ta2 tn2 tc2, .slice ca2 cn2 cc2] 26)) ((W2.alloc (.cells #[.string sec2, .slice sa2 sn2 sc2, .slice ta2 tn2 tc2, .slice ca2 cn2 cc2] 26)).alloc (.cells #[.int .i64 (k : Int)] 3))) := hal5.mono (by omega)
      have hbf4 : Hid (Below (min bx (min bs bf)) w (W2.alloc (.cells #[.string sec2, .slice sa2 sn2 sc2, .slice ta2 tn2 tc2, .slice ca2 cn2 cc2] 26))) := hW3.mono (by omega)
      have hkf4 : Hid (KeepsFrom B w (W2.alloc (.cells #[.string sec2, .slice sa2 sn2 sc2, .slice ta2 tn2 tc2, .slice ca2 cn2 cc2] 26))) := ⟨by omega, fun b o hb hA hc => by rw [hW3.block b (Array.getElem?_eq_some_iff.1 hA).1]; exact hA⟩
      have HAL5 := hiq hal5
      have H4 := hiq (And.intro g1 (And.intro g2 g3))
      have hB9 : Hid (B <= ((W2.alloc (.cells #[.string sec2, .slice sa2 sn2 sc2, .slice ta2 tn2 tc2, .slice ca2 cn2 cc2] 26)).alloc (.cells #[.int .i64 (k : Int)] 3)).heap.size) := by show _ <= _; have := HAL5.out.size; omega
      clear hR3 hO3 hal5 HST0 HST1 hq hsk her hle hln g1 g2 g3 h3sz hW3
      go_wp2_with (at_builtin; refine wpList_appQ (l := sk) (ys := [(k : Int)]) infoI Tryz.underlying51 rfl (by decide) (fun _ => rfl) one_i rfl _ _ rfl rfl rfl HO5.out rfl HV.out (by unfold maxLen; omega) (by omega) hB9.out hb4B.out ?_; intro a5 c5 w5 ho5 hb5 hg5 hv5; have c45 := (World.cell?_of_block (a := ⟨bs, 0, none⟩) (hb5.block bs hBn.2.1)).trans s3; have f45 : w5.frozen? ⟨bs, 0, none⟩ = false := (World.frozen?_of_block (a := ⟨bs, 0, none⟩) (hb5.block bs hBn.2.1)).trans fs3)
      obtain ⟨w1, w2, w3, w4⟩ := vars_app (er := er) hne hBn H4.out.1 H4.out.2.1 H4.out.2.2 HR3.out HO3.out HAL5.out ho5 hb5 hg5 hv5
      go_end0
      refine ⟨⟨_, rfl⟩, ?_, kf.out.trans w2, hkf4.out.trans w3, hbf4.out.trans (w4.mono (by omega))⟩
      rw [HQ.out]; exact w1
end Go.Proofs.YtfdipkhbemgojaaGreatDoor
