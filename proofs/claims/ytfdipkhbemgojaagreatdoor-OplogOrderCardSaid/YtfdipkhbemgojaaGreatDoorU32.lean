/- Joined: ORe2, ESmp. -/
import Derived.Test.YtfdipkhbemgojaaGreatDoorU31
import Derived.Test.YtfdipkhbemgojaaGreatDoorU23
import Derived.Test.YtfdipkhbemgojaaGreatDoorU13
import Derived.Test.YtfdipkhbemgojaaGreatDoorU19
import Derived.Test.YtfdipkhbemgojaaGreatDoorU22
set_option linter.unusedVariables false
set_option linter.unusedSimpArgs false
set_option maxRecDepth 100000
set_option maxHeartbeats 16000000
namespace Go.Proofs.YtfdipkhbemgojaaGreatDoor
open Go.RowKit Go.Shelf
attribute [local go_sem] Oper.semAt_some

abbrev opC2 (o : Op) : Array Value := #[.int .i64 o.kind, .string o.sig, .int .i64 o.tok, .int .i64 o.other, .string o.text]
theorem box5b (w : World) (C D E F H : Array Value) (tc td te tf th : TypeId) : ∃ W, W = (((((w.alloc (.cells C tc)).alloc (.cells D td)).alloc (.cells E te)).alloc (.cells F tf)).alloc (.cells H th)) /\ Below w.heap.size w W /\ W.heap.size = w.heap.size + 1 + 1 + 1 + 1 + 1 /\
    W.heap[w.heap.size]? = some (.cells C tc (0, 0)) /\ W.heap[w.heap.size + 1]? = some (.cells D td (0, 0)) /\ W.heap[w.heap.size + 1 + 1]? = some (.cells E te (0, 0)) /\ W.heap[w.heap.size + 1 + 1 + 1]? = some (.cells F tf (0, 0)) /\ W.heap[w.heap.size + 1 + 1 + 1 + 1]? = some (.cells H th (0, 0)) := by
  obtain ⟨V, hV, h1, h2, h3, h4, h5, h6⟩ := box4b w C D E F tc td te tf
  have hb : Below V.heap.size V (V.alloc (.cells H th)) := (Below.refl _ _).alloc (Nat.le_refl _) _
  have hn := World.alloc_heap_new V (.cells H th)
  refine ⟨V.alloc (.cells H th), by rw [hV], h1.trans (hb.mono h1.size), by simp [h2], (hb.block _ (by omega)).trans h3, (hb.block _ (by omega)).trans h4, (hb.block _ (by omega)).trans h5, (hb.block _ (by omega)).trans h6, ?_⟩
  rw [h2] at hn; exact hn
theorem kpR_grown {bx bs bf B : Nat} {W W' : World} {row : Option Nat} (hs : bs < W.heap.size) (hc : ∃ cs t fr, W.heap[bs]? = some (Obj.cells cs t fr)) (hg : W.grownBy W' row) (hr : ∀ r, row = some r -> B <= r /\ ∃ o : Obj, W.heap[r]? = some o /\ o.isCells = false) : KpO (OwR bx bs bf) W W' := by
  have hne : ∀ b cs t fr, W.heap[b]? = some (Obj.cells cs t fr) -> W'.heap[b]? = W.heap[b]? := fun b cs t fr h => by
    refine hg.block b (Array.getElem?_eq_some_iff.1 h).1 (fun e => ?_)
    obtain ⟨_, o, ho, hc⟩ := hr b e.symm
    rw [h] at ho; cases ho; cases hc
  obtain ⟨cs0, t0, f0, hc0⟩ := hc
  have hOw := owR_same (bx := bx) (bf := bf) (World.cell?_of_block (a := ⟨bs, 0, none⟩) (hne bs _ _ _ hc0))
  refine ⟨hg.size, fun b cs t fr _ hA => by rw [hne b _ _ _ hA]; exact hA, fun b hb => .inl ((hOw b).1 hb), fun hn b hb => Nat.lt_of_lt_of_le (hn b ((hOw b).1 hb)) hg.size⟩
theorem VarsP.grown {G : Nat -> Prop} {bx bs bf B B0 : Nat} {q : RS} {W W' : World} {row : Option Nat} (h : VarsP G bx bs bf B q W) (hg : W.grownBy W' row) (hr : ∀ r, row = some r -> B0 <= r /\ ∃ o : Obj, W.heap[r]? = some o /\ o.isCells = false) : VarsP G bx bs bf B q W' := by
  obtain ⟨v, a, n, c, h1, h2, h3, h4, h5⟩ := h
  have k2 := (Array.getElem?_eq_some_iff.1 h2).1
  exact ⟨v, a, n, c, cells_own h1 hg hr, cells_own h2 hg hr, cells_own h3 hg hr, rdC_kp h4 (kpR_grown k2 ⟨_, _, _, h2⟩ hg hr), h5.ownKept hg hr⟩
theorem VarsP.out {G : Nat -> Prop} {bx bs bf B : Nat} {q : RS} {W : World} (h : VarsP G bx bs bf B q W) {b : Nat} (hb : b < B) (h1 : b ≠ bx) (h2 : b ≠ bs) (h3 : b ≠ bf) : ¬ OwR bx bs bf W b := by
  obtain ⟨v, a, n, c, k1, k2, k3, k4, k5⟩ := h
  rintro (q | q | q | ⟨y, n', c', hy, q⟩)
  · exact h1 q
  · exact h3 q
  · exact h2 q
  · rw [cell_of_one k2] at hy
    cases hy
    have := (k5.lt y rfl).1
    omega
theorem opsq_ok {S : Nat -> Prop} {w : World} {a : Option Addr} {n c : Nat} {l : List Op} (h : Opsq S w a n c l) : ∀ o ∈ l, o.ok := by
  intro o ho
  obtain ⟨j, hj⟩ := List.getElem?_of_mem ho
  obtain ⟨t, b, off, e, -, -, -, -, hok, -⟩ := h.op (j := j) (by rw [h.len]; exact (List.getElem?_eq_some_iff.1 hj).1)
  rw [hj] at e; cases e; exact hok
theorem runD_facts {x : Col} {ops : List Op} {und : List Bool} {pre : List (DOp ops und)} (hm : Sml x) (ht : ∀ o ∈ ops, o.text.size <= 1000000) : Sml (runD x (pre.map (·.1))).st /\ (runD x (pre.map (·.1))).sk.length <= pre.length /\ ((runD x (pre.map (·.1))).er = 0 ↔ (runD x (pre.map (·.1))).sk = []) := by
  suffices H : ∀ l : List (Nat × Op), (∀ p ∈ l, p ∈ doneN ops und ops.length) -> Sml (runD x l).st /\ (runD x l).sk.length <= l.length /\ ((runD x l).er = 0 ↔ (runD x l).sk = []) by
    have := H (pre.map (·.1)) (fun p hp => by obtain ⟨y, -, rfl⟩ := List.mem_map.1 hp; exact y.2)
    rw [List.length_map] at this; exact this
  suffices H2 : ∀ n, ∀ l : List (Nat × Op), l.length = n -> (∀ p ∈ l, p ∈ doneN ops und ops.length) -> Sml (runD x l).st /\ (runD x l).sk.length <= l.length /\ ((runD x l).er = 0 ↔ (runD x l).sk = []) from fun l hl => H2 _ l rfl hl
  intro n
  induction n with
  | zero =>
    intro l hl _
    obtain rfl := List.eq_nil_of_length_eq_zero hl
    exact ⟨hm, Nat.le_refl _, by simp [runD]⟩
  | succ n ih =>
    intro l hn hl
    rcases List.eq_nil_or_concat l with rfl | ⟨l, p, rfl⟩
    · simp at hn
    rw [List.concat_eq_append] at *
    obtain ⟨i1, i2, i3⟩ := ih l (by simpa using hn) (fun q hq => hl q (by simp [hq]))
    have hp := doneN_mem _ (hl p (by simp))
    rw [runD_snoc]
    unfold stepR
    rw [if_neg (by simp)]
    split
    · refine ⟨sml_op i1 ?_, by dsimp only; simp; omega, i3⟩
      rw [hp.2.1]; exact opK_text ht _
    · rename_i h
      refine ⟨i1, by simp; omega, ?_⟩
      dsimp only
      constructor
      · intro h'; split at h'
        · exact absurd h' h
        · exact absurd h' (by assumption)
      · intro h'; simp at h'
theorem replay_any (S : Nat -> Prop) (v : CV) (x : Col) (oa : Option Addr) (on oc : Nat) (ua : Option Addr) (un uc : Nat) (ops : List Op) (und : List Bool) (w : World) (h : RdC S w v x) (ho : Opsq S w oa on oc ops) (hu : Flgs S w ua un uc und)
    (hl : ops.length = und.length) (hm : Sml x) (ht : ∀ o ∈ ops, o.text.size <= 1000000) (hn : on <= 4096) (hE : Env w) : Calls Tryz.prog 54 #[v.val, .slice oa on oc, .slice ua un uc] w (RunPost S x ops und w) := by
  obtain ⟨V, hV⟩ : ∃ V, V = v := ⟨_, rfl⟩
  have HX := hiq h
  have HO := hiq ho
  have HU := hiq hu
  have HEV := hiq hE
  have hon : on = ops.length := ho.len
  have hook := opsq_ok ho
  have HON := hiq hon
  have HF : Hid (∀ pre : List (DOp ops und), Sml (runD x (pre.map (·.1))).st /\ (runD x (pre.map (·.1))).sk.length <= pre.length /\ ((runD x (pre.map (·.1))).er = 0 ↔ (runD x (pre.map (·.1))).sk = [])) := fun pre => runD_facts hm ht
  have HD : Hid (∀ y : DOp ops und, y.1.1 < ops.length /\ y.1.2.ok /\ y.1.2.text.size <= 1000000) := fun y => by
    obtain ⟨h1, h2, -⟩ := doneN_mem _ y.2
    have hmem : y.1.2 ∈ ops := by rw [h2]; exact List.mem_of_getElem? (opK_lt h1)
    exact ⟨h1, hook _ hmem, ht _ hmem⟩
  rw [<- hV] at HX
  clear h ho hu hE hook ht hon
  obtain ⟨sec, sa, sn, sc, ta, tn, tc, ca, cn, cc⟩ := v
  have hVe : Hid (V = ⟨sec, sa, sn, sc, ta, tn, tc, ca, cn, cc⟩) := hV
  clear hV
  change Calls _ _ #[.agg #[.string sec, .slice sa sn sc, .slice ta tn tc, .slice ca cn cc], _, _] _ _
  obtain ⟨W1, hW1, hb1, hs1, gX, gR, gS, gF, gN⟩ := box5b w #[.string sec, .slice sa sn sc, .slice ta tn tc, .slice ca cn cc] #[.string ⟨#[]⟩, .slice none 0 0, .slice none 0 0, .slice none 0 0] #[.slice none 0 0] #[.int .i64 0] #[.func (.func 80) #[] #[.pointer (some ⟨w.heap.size, 0, none⟩), .pointer (some ⟨w.heap.size + 1 + 1, 0, none⟩), .pointer (some ⟨w.heap.size + 1 + 1 + 1, 0, none⟩)]] 26 26 51 35 103
  have HG1 := hiq (And.intro gX (And.intro gR (And.intro gS (And.intro gF gN))))
  have HB1 := hiq hb1
  clear gX gR gS gF gN hb1
  refine (callsIn_wide (n := 10)).1 ?_
  refine callsIn_of_wp_marks Tryz.func54 rfl trivial ?_ rfl
  simp only [Tryz.ntmps54, List.size_toArray, List.length_cons, List.length_nil, Nat.reduceAdd, Nat.reduceSub, Array.replicate_succ, Array.replicate_zero, List.push_toArray, List.append_toArray, List.nil_append, List.cons_append]
  gi_wp2_with (fail)
  rw [<- hW1] at *
  clear hW1
  refine ⟨trivial, ?_⟩
  refine (done_in _ _ _ _ _ _ _ _).mono ?_
  rintro e WL ⟨rfl, hWL⟩
  have hbL : Below W1.heap.size W1 WL := by rw [hWL]; exact ((Below.refl _ _).alloc (Nat.le_refl _) _).alloc (by simp) _
  have gO : WL.heap[W1.heap.size]? = some (.cells #[.slice oa on oc] 27 (0, 0)) := by
    have e1 := World.alloc_heap_new W1 (.cells #[.slice oa on oc] 27)
    have e3 : Below (W1.heap.size + 1) (W1.alloc (.cells #[.slice oa on oc] 27)) WL := by rw [hWL]; exact (Below.refl _ _).alloc (by simp) _
    rw [e3.block _ (by omega)]; exact e1
  have gU : WL.heap[W1.heap.size + 1]? = some (.cells #[.slice ua un uc] 28 (0, 0)) := by
    have e1 := World.alloc_heap_new (W1.alloc (.cells #[.slice oa on oc] 27)) (.cells #[.slice ua un uc] 28)
    rw [<- hWL] at e1; simpa using e1
  have hsL : WL.heap.size = W1.heap.size + 2 := by rw [hWL]; simp
  obtain ⟨gX, gR, gS, gF, gN⟩ := HG1.out
  have gXL := (hbL.block _ (by omega)).trans gX
  have gRL := (hbL.block _ (by omega)).trans gR
  have gSL := (hbL.block _ (by omega)).trans gS
  have gFL := (hbL.block _ (by omega)).trans gF
  have gNL := (hbL.block _ (by omega)).trans gN
  have hbw := HB1.out.trans (hbL.mono HB1.out.size)
  clear hWL hbL gX gR gS gF gN HG1 HB1
  gi_wp2
  have hcL := cell_of_one gSL
  have hOwL : ∀ b, OwR w.heap.size (w.heap.size + 1 + 1) (w.heap.size + 1 + 1 + 1) WL b -> b = w.heap.size \/ b = (w.heap.size + 1 + 1) \/ b = (w.heap.size + 1 + 1 + 1) := by
    rintro b (rfl | rfl | rfl | ⟨y, n, c, hq, -⟩)
    · exact .inl rfl
    · exact .inr (.inr rfl)
    · exact .inr (.inl rfl)
    · rw [hcL] at hq; cases hq
  have hnO : ∀ b, b < w.heap.size -> ¬ OwR w.heap.size (w.heap.size + 1 + 1) (w.heap.size + 1 + 1 + 1) WL b := fun b h1 h2 => by have := hOwL b h2; omega
  have hVL : VarsP (fun b => (S b /\ b < w.heap.size) \/ w.heap.size + 1 + 1 + 1 + 1 + 1 <= b) w.heap.size (w.heap.size + 1 + 1) (w.heap.size + 1 + 1 + 1) WL.heap.size (runD x (([] : List (DOp ops und)).map (·.1))) WL := by
    refine ⟨V, none, 0, 0, by rw [hVe.out]; exact gXL, gSL, gFL, ?_, OwnQ.nil _ _ _ _ _⟩
    exact ((HX.out.mono (S' := fun b => S b /\ b < w.heap.size) (fun b h1 h2 => ⟨h1, h2⟩)).below hbw).mono (fun b q _ => ⟨.inl q, hnO b q.2⟩)
  rw [hs1] at gO gU
  have hOL : Opsq (fun b => ¬ OwR w.heap.size (w.heap.size + 1 + 1) (w.heap.size + 1 + 1 + 1) WL b) WL oa on oc ops := ((HO.out.mono rOpn_ok (S' := fun b => S b /\ b < w.heap.size) (fun b h1 h2 => ⟨h1, h2⟩)).below rOpn_ok hbw).mono rOpn_ok (fun b q _ => hnO b q.2)
  have hUL : Flgs (fun b => ¬ OwR w.heap.size (w.heap.size + 1 + 1) (w.heap.size + 1 + 1 + 1) WL b) WL ua un uc und := ((HU.out.mono rBool_ok (S' := fun b => S b /\ b < w.heap.size) (fun b h1 h2 => ⟨h1, h2⟩)).below rBool_ok hbw).mono rBool_ok (fun b q _ => hnO b q.2)
  have hlnL : (doneL ops und).length <= 4096 := by rw [doneL_len]; have := doneN_len ops und ops.length; have := HON.out; omega
  refine wpIn_rangeFunc_ownH (α := DOp ops und) (n := 10) (F := Fence.wide) rfl (by omega) rfl trivial (enters_of Tryz.func91 (by kernel_rfl) rfl)
    (done_stops (10 - 1) (by omega) (OwR w.heap.size (w.heap.size + 1 + 1) (w.heap.size + 1 + 1 + 1)) (w.heap.size + 1 + 1 + 1 + 1 + 1) (w.heap.size + 1 + 1 + 1 + 1 + 1 + 1) oa on oc ua un uc ops und WL gO gU hOL hUL hl (fun b hb => by have := hOwL b hb; omega) (fun A B h1 h2 => owR_below (by omega) h2) (fun hb => by have := hOwL _ hb; omega) (fun hb => by have := hOwL _ hb; omega)) KpO.trans
    (fun W l o o' hl hh hc _ => kpR_of_B (kpO_put (by omega) hh hc o')) (Below.refl _ _) (fun _ => rfl)
    (fun pre W => VarsP (fun b => (S b /\ b < w.heap.size) \/ w.heap.size + 1 + 1 + 1 + 1 + 1 <= b) w.heap.size (w.heap.size + 1 + 1) (w.heap.size + 1 + 1 + 1) WL.heap.size (runD x (pre.map (·.1))) W /\ W.heap[(w.heap.size + 1)]? = some (.cells #[.string ⟨#[]⟩, .slice none 0 0, .slice none 0 0, .slice none 0 0] 26 (0, 0)) /\ W.heap[(w.heap.size + 1 + 1 + 1 + 1)]? = some (.cells #[.func (.func 80) #[] #[.pointer (some ⟨w.heap.size, 0, none⟩), .pointer (some ⟨w.heap.size + 1 + 1, 0, none⟩), .pointer (some ⟨w.heap.size + 1 + 1 + 1, 0, none⟩)]] 103 (0, 0)) /\ Below w.heap.size w W /\ WL.heap.size <= W.heap.size)
    (fun _ _ _ => False) ?hI ?hIx ⟨hVL, gRL, gNL, hbw, Nat.le_refl _⟩
    (fun y a' W => ∃ bo, a' = { tmps := #[.agg #[.string sec, .slice sa sn sc, .slice ta tn tc, .slice ca cn cc], .slice oa on oc, .slice ua un uc, .pointer (some ⟨w.heap.size, 0, none⟩), undef, undef, .pointer (some ⟨(w.heap.size + 1), 0, none⟩), .slice none 0 0, .int .i64 0, .pointer (some ⟨(w.heap.size + 1 + 1), 0, none⟩), .pointer (some ⟨(w.heap.size + 1 + 1 + 1), 0, none⟩), .pointer (some ⟨(w.heap.size + 1 + 1 + 1 + 1), 0, none⟩), .int .i64 (y.1.1 : Int), .pointer (some ⟨bo, 0, none⟩), .func (.func 80) #[] #[.pointer (some ⟨w.heap.size, 0, none⟩), .pointer (some ⟨(w.heap.size + 1 + 1), 0, none⟩), .pointer (some ⟨(w.heap.size + 1 + 1 + 1), 0, none⟩)], .slice oa on oc, .slice ua un uc, .func (.func 91) #[] #[.pointer (some ⟨w.heap.size + 1 + 1 + 1 + 1 + 1, 0, none⟩), .pointer (some ⟨w.heap.size + 1 + 1 + 1 + 1 + 1 + 1, 0, none⟩)], .int .i64 (y.1.1 : Int), .agg (opC2 y.1.2), undef, undef, undef, undef, undef, undef, undef], defers := [] } /\ W.heap[bo]? = some (.cells (opC2 y.1.2) 32 (0, 0))) ?hAx ?assign ?body ?done ?stop
  case hI =>
    rintro pre W W' row ⟨g1, g2, g3, g5, g6⟩ hg hr
    exact ⟨g1.grown hg hr, cells_own g2 hg hr, cells_own g3 hg hr, g5.grown hg g5.size (fun r e => by have := (hr r e).1; have := hbw.size; omega), Nat.le_trans g6 hg.size⟩
  case hIx => rintro c' pre W W' row h; exact h.elim
  case hAx =>
    rintro y a' _ W W' row ⟨bo, e, h1⟩ hg hr
    exact ⟨bo, e, cells_own h1 hg hr⟩
  case assign =>
    rintro l0 pre y W K ⟨g1, g2, g3, g5, g6⟩ hK
    have hb1 : Below W.heap.size W (W.alloc (.cells (opC2 y.1.2) 32)) := (Below.refl _ _).alloc (Nat.le_refl _) _
    have hsw := hbw.size
    have hKx := hiq (hK _ (W.alloc (.cells (opC2 y.1.2) 32)) (keepsFrom_below hb1) (KpO.below (fun b h => (owR_below (by omega) hb1 b).1 h) hb1)
      ⟨g1.below hb1, (hb1.block _ (by omega)).trans g2, (hb1.block _ (by omega)).trans g3, g5.trans (hb1.mono (by omega)), Nat.le_trans g6 hb1.size⟩ ⟨W.heap.size, rfl, World.alloc_heap_new W _⟩)
    obtain ⟨⟨yi, ok, og, ot, oo, ox⟩, hy⟩ := y
    dsimp only [dEnc, Op.val, opC2] at hKx ⊢
    gi_wp2
    exact hKx.out
  case body =>
    rintro l0 pre y a0 W - - ⟨g1, g2, g3, g5, g6⟩ ⟨bo, rfl, h1⟩ hlt
    obtain ⟨f1, f2, f3⟩ := HF.out pre
    obtain ⟨d1, d2, d3⟩ := HD.out y
    have hsw := hbw.size
    have hST := step_any (fun b => (S b /\ b < w.heap.size) \/ w.heap.size + 1 + 1 + 1 + 1 + 1 <= b) w.heap.size (w.heap.size + 1 + 1) (w.heap.size + 1 + 1 + 1) WL.heap.size WL.heap.size (runD x (pre.map (·.1))) y.1.1 y.1.2 W g1 (fun b hb => .inr (by omega)) g6 g6 ⟨by omega, by omega, by omega⟩ ⟨by omega, by omega, by omega⟩ f1 (HEV.out.below g5) d2 d3 (by have := HON.out; omega) (by omega) f3
    rw [<- runD_snoc, show (pre.map (·.1)) ++ [y.1] = (pre ++ [y]).map (·.1) by simp] at hST
    have ng2 := g1.out (b := (w.heap.size + 1)) (by omega) (by omega) (by omega) (by omega)
    have ng3 := g1.out (b := (w.heap.size + 1 + 1 + 1 + 1)) (by omega) (by omega) (by omega) (by omega)
    have HSTQ := hiq hST
    have HGG := hiq (And.intro g2 (And.intro g3 (And.intro g5 (And.intro g6 (And.intro ng2 ng3)))))
    have cn := cell_of_one g3
    obtain ⟨o0, o1, o2, o3, o4⟩ := box_cells5 h1
    clear hST g1 g2 g3 g5 g6 ng2 ng3 f1 f2 f3 d1 d2 d3 h1
    obtain ⟨⟨yi, ok, og, ot, oo, ox⟩, hy⟩ := y
    dsimp only [Op.val, opC2] at HSTQ o0 o1 o2 o3 o4 ⊢
    gi_wp2_with fail
    refine ⟨trivial, ?_⟩
    refine (callsIn_wide.2 HSTQ.out).mono ?_
    rintro e W3 ⟨⟨u, rfl⟩, hv, hk, hkf, hbl⟩
    obtain ⟨g2, g3, g5, g6, ng2, ng3⟩ := HGG.out
    have hz := hk.1
    gi_wp2
    exact ⟨hkf, hk, hv, hk.2.1 _ _ _ _ ng2 g2, hk.2.1 _ _ _ _ ng3 g3, g5.trans (hbl.mono (by omega)), by omega⟩
  case done =>
    rintro D ys W hD rfl ⟨g1, g2, g3, g5, g6⟩ hd
    rw [doneL_map, runD_done] at g1
    change VarsP _ _ _ _ _ (runL x ops und) W at g1
    obtain ⟨v', a, n, c, k1, k2, k3, k4, k5⟩ := g1
    obtain ⟨sec1, sa1, sn1, sc1, ta1, tn1, tc1, ca1, cn1, cc1⟩ := v'
    obtain ⟨c0, c1, c2, c3, -⟩ := box_cells4 k1
    have cs := cell_of_one k2
    have cf := cell_of_one k3
    gi_wp2
    obtain ⟨X, Wf, hX, hS1, hS2⟩ := family (fun U : World => U.cell? ⟨w.heap.size, 0, none⟩ = some (.string sec1) /\ U.cell? ⟨w.heap.size, 1, none⟩ = some (.slice sa1 sn1 sc1) /\ U.cell? ⟨w.heap.size, 2, none⟩ = some (.slice ta1 tn1 tc1) /\ U.cell? ⟨w.heap.size, 3, none⟩ = some (.slice ca1 cn1 cc1) /\ U.cell? ⟨(w.heap.size + 1 + 1), 0, none⟩ = some (.slice a n c) /\ U.cell? ⟨(w.heap.size + 1 + 1 + 1), 0, none⟩ = some (.int .i64 (runL x ops und).er)) W.drew ⟨c0, c1, c2, c3, cs, cf⟩
    have HS2 := hiq hS2
    have q0 := fun x => (hS1 x).1
    have q1 := fun x => (hS1 x).2.1
    have q2 := fun x => (hS1 x).2.2.1
    have q3 := fun x => (hS1 x).2.2.2.1
    have q4 := fun x => (hS1 x).2.2.2.2.1
    have q5 := fun x => (hS1 x).2.2.2.2.2
    clear hS1 hS2
    have hsw := hbw.size
    have hdr : Below W.heap.size W W.drew := (Below.refl _ _).drew
    have g2d := (hdr.block _ (by omega)).trans g2
    obtain ⟨y0, y1, y2, y3, yf⟩ := box_cells4 g2d
    have yf0 := yf 0
    have yf1 := yf 1
    have yf2 := yf 2
    have yf3 := yf 3
    have hoth : ∀ b, b ≠ (w.heap.size + 1) -> (put4 W.drew (w.heap.size + 1) (.string sec1) (.slice sa1 sn1 sc1) (.slice ta1 tn1 tc1) (.slice ca1 cn1 cc1)).heap[b]? = W.heap[b]? := fun b hb => put4_other hb _ _ _ _
    have gRf := put4_at g2d (.string sec1) (.slice sa1 sn1 sc1) (.slice ta1 tn1 tc1) (.slice ca1 cn1 cc1)
    have hbf := put4_below (g5.trans (hdr.mono g5.size)) (b := (w.heap.size + 1)) (by omega) (.string sec1) (.slice sa1 sn1 sc1) (.slice ta1 tn1 tc1) (.slice ca1 cn1 cc1)
    have hne : ¬ OwR w.heap.size (w.heap.size + 1 + 1) (w.heap.size + 1 + 1 + 1) W (w.heap.size + 1) := by
      rintro (q | q | q | ⟨y, n', c', hy, q⟩)
      · omega
      · omega
      · omega
      · rw [cell_of_one k2] at hy; cases hy; have := (k5.lt y rfl).1; omega
    have hRf := ((k4.mono (S' := fun b => (S b \/ w.heap.size <= b) /\ b ≠ (w.heap.size + 1)) (fun b q _ => ⟨by rcases q.1 with r | r; exact .inl r.1; exact .inr (by omega), fun e => by rcases q.1 with r | r <;> omega⟩)).below hdr).keep (put4_keep (b := (w.heap.size + 1)) (by rintro ⟨-, q⟩; exact q rfl) (.string sec1) (.slice sa1 sn1 sc1) (.slice ta1 tn1 tc1) (.slice ca1 cn1 cc1))
    have hQf := k5.same (w' := put4 W.drew (w.heap.size + 1) (.string sec1) (.slice sa1 sn1 sc1) (.slice ta1 tn1 tc1) (.slice ca1 cn1 cc1)) (fun y hy => hoth _ (by have := (k5.lt y hy).1; omega))
    have hdf := (hoth D (by omega)).trans hd
    have HFM := hiq (HS2.out (put4 W.drew (w.heap.size + 1) (.string sec1) (.slice sa1 sn1 sc1) (.slice ta1 tn1 tc1) (.slice ca1 cn1 cc1)) (by
      obtain ⟨r0, r1, r2, r3, -⟩ := box_cells4 ((hoth w.heap.size (by omega)).trans k1)
      exact ⟨r0, r1, r2, r3, cell_of_one ((hoth (w.heap.size + 1 + 1) (by omega)).trans k2), cell_of_one ((hoth (w.heap.size + 1 + 1 + 1) (by omega)).trans k3)⟩))
    have hFM0 := hiq (HS2.out W.drew ⟨c0, c1, c2, c3, cs, cf⟩)
    have HALL := hiq (And.intro gRf (And.intro hbf (And.intro hRf (And.intro hQf hdf))))
    have hln := runN_len x ops und ops.length
    have hkl := k5.len
    have hNn : Hid (n <= 4096) := by show n <= 4096; unfold runL at hkl; have := HON.out; omega
    have hsk : Hid (∀ z ∈ (runL x ops und).sk, I64 z) := fun z hz => by
      obtain ⟨j, hj, rfl, -⟩ := (runN_sk (x := x) (ops := ops) (und := und) ops.length).1 z hz
      have := HON.out
      exact ⟨by omega, by omega⟩
    clear yf gRf hbf hRf hQf hdf HS2 k1 k2 k3 k4 k5 c0 c1 c2 c3 cs cf hoth g2 g2d hdr hkl hln hne hd
    refine wpIn_wide.2 ?_
    refine wp_region_treeN (Wf := Wf) 5 (.read 0 (.read 1 (.read 2 (.act 3 (.act 4 .fin))))) (by kernel_rfl) (by kernel_rfl) hFM0.out ?_
    refine wpTree_read _ rfl (fun K hK => ?_); unfold rOp; go_simp; (refine hK _ ?_; clear hK K)
    refine wpTree_read _ rfl (fun K hK => ?_); unfold rOp; go_simp; (refine hK _ ?_; clear hK K)
    refine wpTree_read _ rfl (fun K hK => ?_); unfold rOp; go_simp; (refine hK _ ?_; clear hK K)
    clear q0 q1 q2 q3 q4 q5
    generalize W.drew = WD at *
    refine wpTree_act _ rfl ?_
    go_wp2_with fail
    change (∃ x, put4 WD (w.heap.size + 1) (.string sec1) (.slice sa1 sn1 sc1) (.slice ta1 tn1 tc1) (.slice ca1 cn1 cc1) = Wf x) /\ wpTree _ _ _ _ _ _ _ (put4 WD (w.heap.size + 1) (.string sec1) (.slice sa1 sn1 sc1) (.slice ta1 tn1 tc1) (.slice ca1 cn1 cc1))
    generalize put4 WD (w.heap.size + 1) (.string sec1) (.slice sa1 sn1 sc1) (.slice ta1 tn1 tc1) (.slice ca1 cn1 cc1) = WF at *
    refine ⟨HFM.out, wpTree_act _ rfl ?_⟩
    go_wp2_with fail
    refine ⟨HFM.out, wpTree_fin ?_⟩
    go_wp2_with fail
    rw [noPanic_normal]
    rename_i K hKK
    refine hKK _ _ ?_
    obtain ⟨gRf, hbf, hRf, hQf, hdf⟩ := HALL.out
    gi_wp2
    refine leaves_marks (hi := WL.heap.size) (by simp) (Φ := fun W => W.heap[(w.heap.size + 1)]? = some (.cells #[.string sec1, .slice sa1 sn1 sc1, .slice ta1 tn1 tc1, .slice ca1 cn1 cc1] 26 (0, 0)) /\ Below w.heap.size w W /\ RdC (fun b => (S b \/ w.heap.size <= b) /\ b ≠ (w.heap.size + 1)) W ⟨sec1, sa1, sn1, sc1, ta1, tn1, tc1, ca1, cn1, cc1⟩ (runL x ops und).st /\ OwnQ 3 1 encI W WL.heap.size a n c (runL x ops und).sk) ?_ ?_ _ _ (Marks.one hD hdf) ⟨gRf, hbf, hRf, hQf⟩
    · rintro W D ⟨h1, h2, h3, h4⟩ hD hd
      exact ⟨cells_putObj h1 hd rfl _, below_putObj h2 (by omega) hd _, h3.keep (KeepS.putObj W hd rfl _), h4.ownKept (row := some D) (grownBy_putObj' W D _) (B0 := 0) (fun r e => ⟨Nat.zero_le _, _, by cases e; exact hd, rfl⟩)⟩
    · rintro W ⟨h1, h2, h3, h4⟩
      obtain ⟨r0, r1, r2, r3, -⟩ := box_cells4 h1
      refine ⟨_, by simp [results, Tryz.results54, go_sem, r0, r1, r2, r3]; rfl, ?_⟩
      refine ⟨⟨sec1, sa1, sn1, sc1, ta1, tn1, tc1, ca1, cn1, cc1⟩, a, n, c, rfl, h3.mono (fun b q _ => q.1), ?_, h2⟩
      exact h4.sq (R := rInt) (s := 8) (fun _ => rfl) (by have := hNn.out; omega) (fun y hy => by have := (h4.lt y hy).1; omega) (fun z hz => ⟨rfl, hsk.out z hz⟩)
  case stop =>
    rintro D c' pre W hD hpre h; exact h.elim
end Go.Proofs.YtfdipkhbemgojaaGreatDoor
namespace Go.Proofs.YtfdipkhbemgojaaGreatDoor
open Go.RowKit

theorem Sq.lit {α : Type} {R : Rel α} {k s : Nat} {S : Nat -> Prop} {W : World} {b : Nat} {t : TypeId} (cs : Array Value) (l : List α) (enc : α -> List Value) (hh : W.heap[b]? = some (.cells cs t (0, 0))) (hc : cs.toList = l.flatMap enc)
    (henc : ∀ x, (enc x).length = k) (hb : S b) (hs : l.length * s <= 140737488355328) (hR : ∀ x ∈ l, R S W (enc x) x) : Sq R k s S W (some ⟨b, 0, none⟩) l.length l.length l := by
  refine ⟨rfl, Nat.le_refl _, hs, fun j x hj => ⟨b, 0, enc x, rfl, hb, (Array.getElem?_eq_some_iff.1 hh).1, henc x, fun i v hi => ?_, hR x (List.mem_of_getElem? hj)⟩⟩
  have hil : i < k := by rw [<- henc x]; exact (List.getElem?_eq_some_iff.1 hi).1
  have h1 := flat_get henc l j x i hj hil
  rw [<- hc, hi, Array.getElem?_toList] at h1
  have : W.cell? ⟨b, 0 + j * k + i, none⟩ = cs[0 + j * k + i]? := by simp [World.cell?, hh]
  rw [this, Nat.zero_add]; exact h1
theorem Sq.lit2 {α : Type} {R : Rel α} {k s : Nat} {S : Nat -> Prop} {W : World} {b : Nat} {t : TypeId} {a1 a2 : Option Addr} {n1 c1 n2 c2 : Nat} {l1 l2 : List α} (hh : W.heap[b]? = some (.cells #[.slice a1 n1 c1, .slice a2 n2 c2] t (0, 0))) (hb : S b)
    (h1 : Sq R k s S W a1 n1 c1 l1) (h2 : Sq R k s S W a2 n2 c2 l2) : Sq (rSl R k s) 1 24 S W (some ⟨b, 0, none⟩) 2 2 [l1, l2] := by
  refine ⟨rfl, Nat.le_refl _, by omega, fun j x hj => ?_⟩
  have hlt := (Array.getElem?_eq_some_iff.1 hh).1
  match j with
  | 0 =>
    cases hj
    refine ⟨b, 0, [.slice a1 n1 c1], rfl, hb, hlt, rfl, fun i v hi => ?_, a1, n1, c1, rfl, h1⟩
    match i with
    | 0 => cases hi; simp [World.cell?, hh]
    | i + 1 => simp at hi
  | 1 =>
    cases hj
    refine ⟨b, 0, [.slice a2 n2 c2], rfl, hb, hlt, rfl, fun i v hi => ?_, a2, n2, c2, rfl, h2⟩
    match i with
    | 0 => cases hi; simp [World.cell?, hh]
    | i + 1 => simp at hi
  | j + 2 => simp at hj
theorem box_cells6 {W : World} {b : Nat} {c0 c1 c2 c3 c4 c5 : Value} {t : TypeId} (h : W.heap[b]? = some (.cells #[c0, c1, c2, c3, c4, c5] t (0, 0))) :
    W.cell? ⟨b, 0, none⟩ = some c0 /\ W.cell? ⟨b, 1, none⟩ = some c1 /\ W.cell? ⟨b, 2, none⟩ = some c2 /\ W.cell? ⟨b, 3, none⟩ = some c3 /\ W.cell? ⟨b, 4, none⟩ = some c4 /\ W.cell? ⟨b, 5, none⟩ = some c5 := by
  refine ⟨?_, ?_, ?_, ?_, ?_, ?_⟩ <;> simp [World.cell?, h]
end Go.Proofs.YtfdipkhbemgojaaGreatDoor
