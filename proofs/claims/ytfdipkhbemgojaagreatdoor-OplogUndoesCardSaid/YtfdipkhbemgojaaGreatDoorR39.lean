/- Joined: OSqz. -/
import Derived.Test.YtfdipkhbemgojaaGreatDoorR34
import Derived.Test.YtfdipkhbemgojaaGreatDoorR35
import Derived.Test.YtfdipkhbemgojaaGreatDoorR32
set_option linter.unusedVariables false
set_option linter.unusedSimpArgs false
set_option maxRecDepth 100000
set_option maxHeartbeats 16000000
namespace Go.Proofs.YtfdipkhbemgojaaGreatDoor
open Go.RowKit Go.Shelf
attribute [local go_sem] Oper.semAt_some

/-- The body's own: the log's box, and the blocks that its two slices point to. -/
def OwC (b4 j : Nat) (A : World) (b : Nat) : Prop := ∃ y n c, A.cell? ⟨b4, j, none⟩ = some (.slice (some y) n c) /\ y.block = b
def OwS (b4 : Nat) (A : World) (b : Nat) : Prop := b = b4 \/ OwC b4 4 A b \/ OwC b4 5 A b
theorem owS_same {b4 : Nat} {A B : World} (h : B.heap[b4]? = A.heap[b4]?) : ∀ b, OwS b4 B b ↔ OwS b4 A b := by
  have e : ∀ j, B.cell? ⟨b4, j, none⟩ = A.cell? ⟨b4, j, none⟩ := fun j => World.cell?_of_block h
  intro b; unfold OwS OwC; rw [e, e]
theorem owS_below {b4 : Nat} {A B : World} (h4 : b4 < A.heap.size) (h : Below A.heap.size A B) : ∀ b, OwS b4 B b ↔ OwS b4 A b := owS_same (h.block b4 h4)
theorem owS_of {b4 : Nat} {A : World} {sec : ByteArray} {sa ta ca a1 a2 : Option Addr} {sn sc tn tc cn cc n1 k1 n2 k2 : Nat} (h : A.heap[b4]? = some (.cells #[.string sec, .slice sa sn sc, .slice ta tn tc, .slice ca cn cc, .slice a1 n1 k1, .slice a2 n2 k2] 30 (0, 0))) {b : Nat} :
    OwS b4 A b ↔ b = b4 \/ (∃ y, a1 = some y /\ y.block = b) \/ (∃ y, a2 = some y /\ y.block = b) := by
  obtain ⟨-, -, -, -, c4, c5⟩ := box_cells6 h
  unfold OwS OwC
  rw [c4, c5]
  constructor
  · rintro (q | ⟨y, n, c, q, e⟩ | ⟨y, n, c, q, e⟩)
    · exact .inl q
    · cases q; exact .inr (.inl ⟨y, rfl, e⟩)
    · cases q; exact .inr (.inr ⟨y, rfl, e⟩)
  · rintro (q | ⟨y, rfl, e⟩ | ⟨y, rfl, e⟩)
    · exact .inl q
    · exact .inr (.inl ⟨y, n1, k1, rfl, e⟩)
    · exact .inr (.inr ⟨y, n2, k2, rfl, e⟩)
theorem kpS_put {b4 : Nat} {W : World} {l : Nat} {o : Obj} (hl : l ≠ b4) (h : W.heap[l]? = some o) (hc : o.isCells = false) (o' : Obj) : KpO (OwS b4) W (W.putObj l o') := by
  have hsz : (W.putObj l o').heap.size = W.heap.size := by simp [World.putObj]
  have how := owS_same (A := W) (B := W.putObj l o') (b4 := b4) (World.putObj_heap_other (Ne.symm hl))
  refine ⟨by omega, fun b cs t fr _ hA => ?_, fun b hb => .inl ((how b).1 hb), fun hn b hb => by rw [hsz]; exact hn b ((how b).1 hb)⟩
  have : b ≠ l := fun e => by subst e; rw [h] at hA; cases hA; cases hc
  rw [World.putObj_heap_other this]; exact hA
/-- The log that is being built. -/
structure Bld (b4 B : Nat) (sec : ByteArray) (sa : Option Addr) (sn sc : Nat) (ta : Option Addr) (tn tc : Nat) (ca : Option Addr) (cn cc : Nat) (lo : List Op) (lu : List Bool) (W : World) (a1 : Option Addr) (n1 k1 : Nat) (a2 : Option Addr) (n2 k2 : Nat) : Prop where
  box : W.heap[b4]? = some (.cells #[.string sec, .slice sa sn sc, .slice ta tn tc, .slice ca cn cc, .slice a1 n1 k1, .slice a2 n2 k2] 30 (0, 0))
  ops : OwnQ 32 5 Op.cells W B a1 n1 k1 lo
  und : OwnQ 4 1 encB W B a2 n2 k2 lu
  ne : ∀ y z, a1 = some y -> a2 = some z -> y.block ≠ z.block
theorem own_cells {α : Type} {e size : Nat} {enc : α -> List Value} {W : World} {B n cap : Nat} {a : Option Addr} {l : List α} (h : OwnQ e size enc W B a n cap l) {y : Addr} (hy : a = some y) {o : Obj} (ho : W.heap[y.block]? = some o) (hc : o.isCells = false) : False := by
  subst hy
  rcases h.2.2 with ⟨h0, _⟩ | ⟨g, cap', cur, hv, hB, hgc, _⟩
  · cases h0
  · cases hv
    rw [hgc] at ho; cases ho; cases hc
/-- One operation more. -/
theorem bld_end {b4 B : Nat} {sec : ByteArray} {sa ta ca a1 a2 b1 b2 : Option Addr} {sn sc tn tc cn cc n1 k1 n2 k2 m1 j1 m2 j2 : Nat} {lo lo' : List Op} {lu lu' : List Bool} {W V : World}
    (g : Bld b4 B sec sa sn sc ta tn tc ca cn cc lo lu W a1 n1 k1 a2 n2 k2) (hbB : b4 < B) (hBW : B <= W.heap.size) (hO : OwnQ 32 5 Op.cells V B b1 m1 j1 lo') (hU : OwnQ 4 1 encB V B b2 m2 j2 lu')
    (hbox : V.heap[b4]? = some (.cells #[.string sec, .slice sa sn sc, .slice ta tn tc, .slice ca cn cc, .slice a1 n1 k1, .slice a2 n2 k2] 30 (0, 0))) (hd : Below B W V) (hsz : W.heap.size <= V.heap.size)
    (hK : ∀ b, b < W.heap.size -> (∀ y, a1 = some y -> y.block ≠ b) -> (∀ y, a2 = some y -> y.block ≠ b) -> V.heap[b]? = W.heap[b]?)
    (hn1 : ∀ y, b1 = some y -> (∃ z, a1 = some z /\ z.block = y.block) \/ W.heap.size <= y.block) (hn2 : ∀ y, b2 = some y -> (∃ z, a2 = some z /\ z.block = y.block) \/ W.heap.size <= y.block) (hne : ∀ y z, b1 = some y -> b2 = some z -> y.block ≠ z.block) :
    Bld b4 B sec sa sn sc ta tn tc ca cn cc lo' lu' ((V.setCell ⟨b4, 4, none⟩ (.slice b1 m1 j1)).setCell ⟨b4, 5, none⟩ (.slice b2 m2 j2)) b1 m1 j1 b2 m2 j2 /\ KpO (OwS b4) W ((V.setCell ⟨b4, 4, none⟩ (.slice b1 m1 j1)).setCell ⟨b4, 5, none⟩ (.slice b2 m2 j2)) /\
      KeepsFrom B W ((V.setCell ⟨b4, 4, none⟩ (.slice b1 m1 j1)).setCell ⟨b4, 5, none⟩ (.slice b2 m2 j2)) /\ Below b4 W ((V.setCell ⟨b4, 4, none⟩ (.slice b1 m1 j1)).setCell ⟨b4, 5, none⟩ (.slice b2 m2 j2)) := by
  have hs : ((V.setCell ⟨b4, 4, none⟩ (.slice b1 m1 j1)).setCell ⟨b4, 5, none⟩ (.slice b2 m2 j2)).heap.size = V.heap.size := by simp [World.setCell]
  have hoth : ∀ b, b ≠ b4 -> ((V.setCell ⟨b4, 4, none⟩ (.slice b1 m1 j1)).setCell ⟨b4, 5, none⟩ (.slice b2 m2 j2)).heap[b]? = V.heap[b]? := fun b hb => by rw [heap_setCell_other hb, heap_setCell_other hb]
  have gF : ((V.setCell ⟨b4, 4, none⟩ (.slice b1 m1 j1)).setCell ⟨b4, 5, none⟩ (.slice b2 m2 j2)).heap[b4]? = some (.cells #[.string sec, .slice sa sn sc, .slice ta tn tc, .slice ca cn cc, .slice b1 m1 j1, .slice b2 m2 j2] 30 (0, 0)) := by
    have q4 := heap_set_at (j := 4) hbox (.slice b1 m1 j1)
    have q5 := heap_set_at (j := 5) q4 (.slice b2 m2 j2)
    rw [q5]; rfl
  have hbl : Below b4 W ((V.setCell ⟨b4, 4, none⟩ (.slice b1 m1 j1)).setCell ⟨b4, 5, none⟩ (.slice b2 m2 j2)) := below_setc (below_setc (hd.mono (by omega)) (Nat.le_refl _) 4 _) (Nat.le_refl _) 5 _
  generalize (V.setCell ⟨b4, 4, none⟩ (.slice b1 m1 j1)).setCell ⟨b4, 5, none⟩ (.slice b2 m2 j2) = WF at *
  have hlt1 : ∀ y, a1 = some y -> B <= y.block /\ y.block < W.heap.size := g.ops.lt
  have hlt2 : ∀ y, a2 = some y -> B <= y.block /\ y.block < W.heap.size := g.und.lt
  have hF1 := hO.same (w' := WF) (fun y hy => hoth _ (by have := (hO.lt y hy).1; omega))
  have hF2 := hU.same (w' := WF) (fun y hy => hoth _ (by have := (hU.lt y hy).1; omega))
  refine ⟨⟨gF, hF1, hF2, hne⟩, ⟨by omega, fun b cs t fr hb hA => ?_, fun b hb => ?_, fun _ b hb => ?_⟩, ⟨by omega, fun b o hb hA hc => ?_⟩, hbl⟩
  · have hbl := (Array.getElem?_eq_some_iff.1 hA).1
    have hn := fun q => hb ((owS_of g.box).2 q)
    rw [hoth b (fun e => hn (.inl e)), hK b hbl (fun y hy e => hn (.inr (.inl ⟨y, hy, e⟩))) (fun y hy e => hn (.inr (.inr ⟨y, hy, e⟩)))]
    exact hA
  · rcases (owS_of gF).1 hb with q | ⟨y, hy, e⟩ | ⟨y, hy, e⟩
    · exact .inl ((owS_of g.box).2 (.inl q))
    · rcases hn1 y hy with ⟨z, hz, e2⟩ | q
      · exact .inl ((owS_of g.box).2 (.inr (.inl ⟨z, hz, e2.trans e⟩)))
      · exact .inr (by omega)
    · rcases hn2 y hy with ⟨z, hz, e2⟩ | q
      · exact .inl ((owS_of g.box).2 (.inr (.inr ⟨z, hz, e2.trans e⟩)))
      · exact .inr (by omega)
  · rcases (owS_of gF).1 hb with q | ⟨y, hy, e⟩ | ⟨y, hy, e⟩
    · omega
    · have := (hO.lt y hy).2; omega
    · have := (hU.lt y hy).2; omega
  · have hbl := (Array.getElem?_eq_some_iff.1 hA).1
    rw [hoth b (by omega), hK b hbl (fun y hy e => own_cells g.ops hy (by rw [e]; exact hA) hc) (fun y hy e => own_cells g.und hy (by rw [e]; exact hA) hc)]
    exact hA
theorem squeeze_any (S : Nat -> Prop) (v : LV) (l : Lg) (w : World) (h : RdL S w v l) (hm : SmL l) (hE : Env w) : Calls Tryz.prog 29 #[v.val] w (LogPost S l.squeeze w) := by
  have h2 : RdL (fun b => S b /\ b < w.heap.size) w v l := h.mono (fun b q q' => ⟨q, q'⟩)
  have HC : Hid (∀ W, Below w.heap.size w W -> CallsIn Fence.wide 9 Tryz.prog 20 #[v.val] W fun e w' => e = .returned (.int .i64 l.err) /\ Below W.heap.size W w') := fun W hb => callsIn_wide.2 (lck_any S v l W (h.below hb) hm (hE.below hb))
  have HS0 : Hid (l.err ≠ 0 -> l.squeeze = (Lg.none, 1)) := fun q => by unfold Lg.squeeze; rw [if_pos q]
  have HS1 : Hid (l.err = 0 -> l.squeeze = (⟨l.start, keepN l.ops l.und l.ops.length, List.replicate (keepN l.ops l.und l.ops.length).length false⟩, 0)) := fun q => by unfold Lg.squeeze; rw [if_neg (by simp [q])]
  have HX : Hid (∀ W, Below w.heap.size w W -> RdL (fun b => S b /\ b < w.heap.size) W v l) := fun W hb => h2.below hb
  have HLE : Hid (l.err = 0 -> l.ops.length = l.und.length /\ l.ops.length <= 256) := fun q => (err_zero.1 q).1.2
  have HON : Hid (v.on = l.ops.length) := h.2.1.len
  have hok : Hid (∀ o ∈ l.ops, o.ok) := opsq_ok h.2.1
  obtain ⟨V, hV⟩ : ∃ V, V = v := ⟨_, rfl⟩
  rw [<- hV] at HX
  unfold LogPost
  generalize l.squeeze = R at *
  generalize l.err = E at *
  clear h h2 hm hE
  obtain ⟨⟨sec, sa, sn, sc, ta, tn, tc, ca, cn, cc⟩, oa, on, oc, ua, un, uc⟩ := v
  have hVe : Hid (V = ⟨⟨sec, sa, sn, sc, ta, tn, tc, ca, cn, cc⟩, oa, on, oc, ua, un, uc⟩) := hV
  clear hV
  dsimp only at HON
  change Calls _ _ #[.agg #[.string sec, .slice sa sn sc, .slice ta tn tc, .slice ca cn cc, .slice oa on oc, .slice ua un uc]] _ _
  change Hid (∀ W, _ -> CallsIn _ _ _ _ #[.agg #[.string sec, .slice sa sn sc, .slice ta tn tc, .slice ca cn cc, .slice oa on oc, .slice ua un uc]] _ _) at HC
  obtain ⟨W1, hW1, hb, hs1, gX, gR⟩ := box2r w #[.string sec, .slice sa sn sc, .slice ta tn tc, .slice ca cn cc, .slice oa on oc, .slice ua un uc] #[.string ⟨#[]⟩, .slice none 0 0, .slice none 0 0, .slice none 0 0, .slice none 0 0, .slice none 0 0] 30 30
  have HCC := hiq (HC.out _ hb)
  obtain ⟨c0, c1, c2, c3, c4, c5⟩ := box_cells6 gX
  rw [hW1] at c0 c1 c2 c3 c4 c5
  clear HC gX
  refine (callsIn_wide (n := 10)).1 ?_
  refine callsIn_of_wp_marks Tryz.func29 rfl trivial ?_ rfl
  simp only [Tryz.ntmps29, List.size_toArray, List.length_cons, List.length_nil, Nat.reduceAdd, Nat.reduceSub, Array.replicate_succ, Array.replicate_zero, List.push_toArray, List.append_toArray, List.nil_append, List.cons_append]
  gi_wp2_with (fail)
  rw [<- hW1] at *
  clear hW1
  refine ⟨trivial, ?_⟩
  refine HCC.out.mono ?_
  rintro e W2 ⟨rfl, hb2⟩
  replace c0 := clq hb2 c0; replace c1 := clq hb2 c1; replace c2 := clq hb2 c2; replace c3 := clq hb2 c3; replace c4 := clq hb2 c4; replace c5 := clq hb2 c5
  replace gR := (hb2.block _ (by omega)).trans gR
  replace hb := hb.trans (hb2.mono hb.size)
  have hs2 := hb2.size
  clear HCC hb2
  by_cases e0 : E = 0
  · have t0 : ((E : Int) != 0) = false := by simp [e0]
    have HEQ := hiq (HS1.out e0)
    have hle := HLE.out e0
    have HLL := hiq hle
    clear HS0 HS1 HLE
    obtain ⟨W3, hW3⟩ : ∃ W3, W3 = W2.alloc (.cells #[.string sec, .slice sa sn sc, .slice ta tn tc, .slice ca cn cc, .slice none 0 0, .slice none 0 0] 30) := ⟨_, rfl⟩
    have hal : Below W2.heap.size W2 W3 := by rw [hW3]; exact (Below.refl _ _).alloc (Nat.le_refl _) _
    have gB : W3.heap[W2.heap.size]? = some (.cells #[.string sec, .slice sa sn sc, .slice ta tn tc, .slice ca cn cc, .slice none 0 0, .slice none 0 0] 30 (0, 0)) := by rw [hW3]; exact World.alloc_heap_new W2 (.cells #[.string sec, .slice sa sn sc, .slice ta tn tc, .slice ca cn cc, .slice none 0 0, .slice none 0 0] 30)
    have d4 := clq hal c4
    have d5 := clq hal c5
    replace gR := (hal.block _ (by omega)).trans gR
    replace hb := hb.trans (hal.mono hb.size)
    have hs3 : Hid (W3.heap.size = W2.heap.size + 1) := by show _ = _; rw [hW3]; simp
    rw [hW3] at d4 d5
    clear hal
    gi_wp2_with (fail)
    rw [<- hW3] at *
    clear hW3
    refine ⟨trivial, ?_⟩
    refine (done_in _ _ _ _ _ _ _ _).mono ?_
    rintro e WL ⟨rfl, hWL⟩
    have hbL : Below W3.heap.size W3 WL := by rw [hWL]; exact ((Below.refl _ _).alloc (Nat.le_refl _) _).alloc (by simp) _
    have gO : WL.heap[W3.heap.size]? = some (.cells #[.slice oa on oc] 27 (0, 0)) := by
      have e1 := World.alloc_heap_new W3 (.cells #[.slice oa on oc] 27)
      have e3 : Below (W3.heap.size + 1) (W3.alloc (.cells #[.slice oa on oc] 27)) WL := by rw [hWL]; exact (Below.refl _ _).alloc (by simp) _
      rw [e3.block _ (by omega)]; exact e1
    have gU : WL.heap[W3.heap.size + 1]? = some (.cells #[.slice ua un uc] 28 (0, 0)) := by
      have e1 := World.alloc_heap_new (W3.alloc (.cells #[.slice oa on oc] 27)) (.cells #[.slice ua un uc] 28)
      rw [<- hWL] at e1; simpa using e1
    have hsL : WL.heap.size = W3.heap.size + 2 := by rw [hWL]; simp
    have hs3' := hs3.out
    have gBL := (hbL.block _ (by omega)).trans gB
    have gRL := (hbL.block _ (by omega)).trans gR
    have hbw := hb.trans (hbL.mono hb.size)
    clear hWL hbL gB gR hb c0 c1 c2 c3 c4 c5 d4 d5
    gi_wp2
    have hOwL : ∀ b, OwS W2.heap.size WL b -> b = W2.heap.size := fun b hb => by
      rcases (owS_of gBL).1 hb with q | ⟨y, q, -⟩ | ⟨y, q, -⟩
      · exact q
      · cases q
      · cases q
    have hVL := (HX.out WL hbw)
    rw [hVe.out] at hVL
    have hOL : Opsq (fun b => ¬ OwS W2.heap.size WL b) WL oa on oc l.ops := hVL.2.1.mono rOpn_ok (fun b q _ h => by have := hOwL b h; have := q.2; omega)
    have hUL : Flgs (fun b => ¬ OwS W2.heap.size WL b) WL ua un uc l.und := hVL.2.2.mono rBool_ok (fun b q _ h => by have := hOwL b h; have := q.2; omega)
    have hsw := hbw.size
    rw [hs3'] at gO gU
    refine wpIn_rangeFunc_ownH (α := DOp l.ops l.und) (n := 10) (F := Fence.wide) rfl (by omega) rfl trivial (enters_of Tryz.func91 (by kernel_rfl) rfl)
      (done_stops (10 - 1) (by omega) (OwS W2.heap.size) (W2.heap.size + 1) (W2.heap.size + 1 + 1) oa on oc ua un uc l.ops l.und WL gO gU hOL hUL hle.1 (fun b hb => by have := hOwL b hb; omega) (fun A B h1 h2 => owS_below (by omega) h2) (fun hb => by have := hOwL _ hb; omega) (fun hb => by have := hOwL _ hb; omega)) KpO.trans
      (fun W l o o' hl hh hc _ => kpS_put (by omega) hh hc o') (Below.refl _ _) (fun _ => rfl)
      (fun pre W => (∃ a1 n1 k1 a2 n2 k2, Bld W2.heap.size WL.heap.size sec sa sn sc ta tn tc ca cn cc (pre.map (fun y => y.1.2)) (List.replicate pre.length false) W a1 n1 k1 a2 n2 k2) /\ W.heap[w.heap.size + 1]? = some (.cells #[.string ⟨#[]⟩, .slice none 0 0, .slice none 0 0, .slice none 0 0, .slice none 0 0, .slice none 0 0] 30 (0, 0)) /\ Below w.heap.size w W /\ WL.heap.size <= W.heap.size)
      (fun _ _ _ => False) ?hI ?hIx ⟨⟨none, 0, 0, none, 0, 0, gBL, OwnQ.nil _ _ _ _ _, OwnQ.nil _ _ _ _ _, fun y z h => by cases h⟩, gRL, hbw, Nat.le_refl _⟩
      (fun y a' W => ∃ (bo : Nat) (cs : Array Value), a' = { tmps := #[.agg #[.string sec, .slice sa sn sc, .slice ta tn tc, .slice ca cn cc, .slice oa on oc, .slice ua un uc], .pointer (some ⟨w.heap.size, 0, none⟩), .pointer (some ⟨w.heap.size + 1, 0, none⟩), .int .i64 0, .pointer (some ⟨W2.heap.size, 0, none⟩), undef, .pointer (some ⟨bo, 0, none⟩), .agg #[.string sec, .slice sa sn sc, .slice ta tn tc, .slice ca cn cc, .slice oa on oc, .slice ua un uc], .int .i64 0, .bool false, undef, .pointer (some ⟨w.heap.size, 0, none⟩), .agg #[.string sec, .slice sa sn sc, .slice ta tn tc, .slice ca cn cc], .agg #[.string sec, .slice sa sn sc, .slice ta tn tc, .slice ca cn cc, .slice none 0 0, .slice none 0 0], .pointer (some ⟨w.heap.size, 4, none⟩), .slice oa on oc, .pointer (some ⟨w.heap.size, 5, none⟩), .slice ua un uc, .func (.func 91) #[] #[.pointer (some ⟨W2.heap.size + 1, 0, none⟩), .pointer (some ⟨W2.heap.size + 1 + 1, 0, none⟩)], .int .i64 (y.1.1 : Int), .agg (opC2 y.1.2), undef, undef, undef, undef, undef, undef, undef, undef, undef, undef, undef, undef], defers := [] } /\ W.heap[bo]? = some (.cells (opC2 y.1.2) 32 (0, 0)) /\ W.heap[W2.heap.size]? = some (.cells cs 30 (0, 0)) /\ ¬ OwS W2.heap.size W bo) ?hAx ?assign ?body ?done ?stop
    case hI =>
      rintro pre W W' row ⟨⟨a1, n1, k1, a2, n2, k2, g1⟩, g2, g5, g6⟩ hg hr
      exact ⟨⟨a1, n1, k1, a2, n2, k2, cells_own g1.box hg hr, g1.ops.ownKept hg hr, g1.und.ownKept hg hr, g1.ne⟩, cells_own g2 hg hr, g5.grown hg g5.size (fun r e => by have := (hr r e).1; omega), Nat.le_trans g6 hg.size⟩
    case hIx => rintro c' pre W W' row h; exact h.elim
    case hAx =>
      rintro y a' _ W W' row ⟨bo, cs, e, h1, h2, h3⟩ hg hr
      have h2' := cells_own h2 hg hr
      exact ⟨bo, cs, e, cells_own h1 hg hr, h2', fun q => h3 ((owS_same (h2'.trans h2.symm) _).1 q)⟩
    case assign =>
      rintro l0 pre y W K ⟨⟨a1, n1, k1, a2, n2, k2, g1⟩, g2, g5, g6⟩ hK
      have hb1 : Below W.heap.size W (W.alloc (.cells (opC2 y.1.2) 32)) := (Below.refl _ _).alloc (Nat.le_refl _) _
      have gb := (hb1.block W2.heap.size (by omega)).trans g1.box
      have hKx := hiq (hK _ (W.alloc (.cells (opC2 y.1.2) 32)) (keepsFrom_below hb1) (KpO.below (fun b h => (owS_below (by omega) hb1 b).1 h) hb1)
        ⟨⟨a1, n1, k1, a2, n2, k2, gb, g1.ops.below hb1, g1.und.below hb1, g1.ne⟩, (hb1.block _ (by omega)).trans g2, g5.trans (hb1.mono (by omega)), Nat.le_trans g6 hb1.size⟩ ⟨W.heap.size, _, rfl, World.alloc_heap_new W _, gb, fun q => by
          rcases (owS_of gb).1 q with r | ⟨z, rfl, r⟩ | ⟨z, rfl, r⟩
          · omega
          · have := (g1.ops.lt z rfl).2; omega
          · have := (g1.und.lt z rfl).2; omega⟩)
      obtain ⟨⟨yi, ok, og, ot, oo, ox⟩, hy⟩ := y
      dsimp only [dEnc, Op.val, opC2] at hKx ⊢
      gi_wp2
      exact hKx.out
    case body =>
      rintro l0 pre y a0 W - - ⟨⟨a1, n1, k1, a2, n2, k2, g1⟩, g2, g5, g6⟩ ⟨bo, cs, rfl, h1, h2, h3⟩ hlt
      have hA1 : ∀ z, a1 = some z -> z.block ≠ bo := fun z hz e => h3 ((owS_of g1.box).2 (.inr (.inl ⟨z, hz, e⟩)))
      have hA2 : ∀ z, a2 = some z -> z.block ≠ bo := fun z hz e => h3 ((owS_of g1.box).2 (.inr (.inr ⟨z, hz, e⟩)))
      have hln : (doneL l.ops l.und).length <= 256 := by rw [doneL_len]; have := doneN_len l.ops l.und l.ops.length; have := HLL.out.2; omega
      have hn1 : n1 = pre.length := by have := g1.ops.len; simpa using this
      have hn2 : n2 = pre.length := by have := g1.und.len; simpa using this
      have hsz : n1 <= 256 /\ n2 <= 256 := by omega
      have HGG := hiq (And.intro g1 (And.intro g2 (And.intro g5 g6)))
      obtain ⟨X, Wf, hX, hS1, hS2⟩ := family (fun V : World => V.heap[W2.heap.size]? = some (.cells #[.string sec, .slice sa sn sc, .slice ta tn tc, .slice ca cn cc, .slice a1 n1 k1, .slice a2 n2 k2] 30 (0, 0)) /\ V.heap[bo]? = some (.cells (opC2 y.1.2) 32 (0, 0))) W.drew ⟨g1.box, h1⟩
      have HS2 := hiq hS2
      have q4 := fun x => (box_cells6 (hS1 x).1).2.2.2.2.1
      have q5 := fun x => (box_cells6 (hS1 x).1).2.2.2.2.2
      have qo := fun x => box_cells5 (hS1 x).2
      have qo0 := fun x => (qo x).1
      have qo1 := fun x => (qo x).2.1
      have qo2 := fun x => (qo x).2.2.1
      have qo3 := fun x => (qo x).2.2.2.1
      have qo4 := fun x => (qo x).2.2.2.2
      have hFM0 := hiq (HS2.out W.drew ⟨g1.box, h1⟩)
      have hFB : W.drew.heap[W2.heap.size]? = some (.cells #[.string sec, .slice sa sn sc, .slice ta tn tc, .slice ca cn cc, .slice a1 n1 k1, .slice a2 n2 k2] 30 (0, 0)) := g1.box
      have hFo : W.drew.heap[bo]? = some (.cells (opC2 y.1.2) 32 (0, 0)) := h1
      have hO : OwnQ 32 5 Op.cells W.drew WL.heap.size a1 n1 k1 (pre.map (fun y => y.1.2)) := g1.ops
      have hU : OwnQ 4 1 encB W.drew WL.heap.size a2 n2 k2 (List.replicate pre.length false) := g1.und
      have hNE := g1.ne
      have hd : Below WL.heap.size W W.drew := (Below.refl _ _).drew.mono g6
      have hK : ∀ b, b < W.heap.size -> (∀ y, a1 = some y -> y.block ≠ b) -> (∀ y, a2 = some y -> y.block ≠ b) -> W.drew.heap[b]? = W.heap[b]? := fun _ _ _ _ => rfl
      have hsW : W.heap.size <= W.drew.heap.size := Nat.le_refl _
      have hv1 : ∀ z, a1 = some z -> (∃ u, a1 = some u /\ u.block = z.block) \/ W.heap.size <= z.block := fun z hz => .inl ⟨z, hz, rfl⟩
      have hv2 : ∀ z, a2 = some z -> (∃ u, a2 = some u /\ u.block = z.block) \/ W.heap.size <= z.block := fun z hz => .inl ⟨z, hz, rfl⟩
      have hg6 := g6
      clear hS1 hS2 qo g1 g2 g5 g6 h1 h2 h3 hn1 hn2 hln hlt
      obtain ⟨⟨yi, o⟩, hy⟩ := y
      obtain ⟨O, hO'⟩ : ∃ O, O = o := ⟨_, rfl⟩
      have hOe : Hid (O = o) := hO'
      have hpre : Hid ((pre ++ [(⟨(yi, o), hy⟩ : DOp l.ops l.und)]).map (fun y => y.1.2) = pre.map (fun y => y.1.2) ++ [O]) := by show _ = _; rw [hO']; simp
      have hrep : Hid (List.replicate (pre ++ [(⟨(yi, o), hy⟩ : DOp l.ops l.und)]).length false = List.replicate pre.length false ++ [false]) := by show _ = _; rw [List.length_append, List.length_singleton, List.replicate_succ']
      clear hO'
      obtain ⟨ok, og, ot, oo, ox⟩ := o
      dsimp only [opC2] at qo0 qo1 qo2 qo3 qo4 hFo HS2 ⊢
      gi_wp2
      refine wpIn_region_round (by kernel_rfl) (by kernel_rfl) (fun _ _ h => h) (wpAny_tree (Wf := Wf) 10 (.read 0 (.read 1 (.read 2 (.read 5 (.read 6 (.two 3 (.two 4 (.read 9 (.act 7 (.act 8 .fin))) 7 (.act 4 (.read 9 (.act 8 .fin)))) 7 (.act 3 (.act 4 (.read 9 (.act 8 .fin)))))))))) (by kernel_rfl) (fun _ _ d _ _ h => by cases d <;> exact h) hFM0.out ?_)
      refine wpTree_read _ rfl (fun K hK => ?_); unfold rOp; go_simp; (refine hK _ ?_; clear hK K)
      refine wpTree_read _ rfl (fun K hK => ?_); unfold rOp; go_simp; (refine hK _ ?_; clear hK K)
      refine wpTree_read _ rfl (fun K hK => ?_); unfold rOp; go_simp; (refine hK _ ?_; clear hK K)
      refine wpTree_read _ rfl (fun K hK => ?_); unfold rOp; go_simp; (refine hK _ ?_; clear hK K)
      refine wpTree_read _ rfl (fun K hK => ?_); unfold rOp; go_simp; (refine hK _ ?_; clear hK K)
      clear q4 q5 qo0 qo1 qo2 qo3 qo4 hFM0
      generalize W.drew = V at *
      have HIO := infoO
      have HIB := infoB
      repeat' first
        | refine wpTree_two ?_ ?_
        | (refine wpTree_read (k := 9) _ rfl (fun K hK => ?_); unfold rOp; go_simp; (refine hK _ ?_; clear hK K))
        | (refine wpTree_act (k := 3) _ rfl ?_
           have hst : Below V.heap.size V (V.alloc (.cells #[.int .i64 ok, .string og, .int .i64 ot, .int .i64 oo, .string ox] 32)) := (Below.refl _ _).alloc (Nat.le_refl _) _
           have hLo : ∀ j u, (([O] : List Op).flatMap Op.cells)[j]? = some u -> (V.alloc (.cells #[.int .i64 ok, .string og, .int .i64 ot, .int .i64 oo, .string ox] 32)).cell? ((⟨V.heap.size, 0, none⟩ : Addr).add j) = some u := fun j u hj => lit_cells (by rw [hOe.out] at hj; exact hj)
           try (replace hF := (hst.block _ (Array.getElem?_eq_some_iff.1 hF).1).trans hF)
           replace hO := hO.below hst
           replace hU := hU.below hst
           replace hFB := (hst.block _ (Array.getElem?_eq_some_iff.1 hFB).1).trans hFB
           replace hFo := (hst.block _ (Array.getElem?_eq_some_iff.1 hFo).1).trans hFo
           replace hK := fun b hb y z => (hst.block b (Nat.lt_of_lt_of_le hb hsW)).trans (hK b hb y z)
           replace hd := hd.trans (hst.mono (Nat.le_trans hg6 hsW))
           replace hsW := Nat.le_trans hsW hst.size
           clear hst
           go_wp2_with fail
           generalize V.heap.size = bL at *
           generalize V.alloc (.cells #[.int .i64 ok, .string og, .int .i64 ot, .int .i64 oo, .string ox] 32) = V at *
           refine ⟨HS2.out _ ⟨hFB, hFo⟩, ?_⟩)
        | (refine wpTree_act (k := 7) _ rfl ?_
           have hst : Below V.heap.size V (V.alloc (.cells #[.bool false] 4)) := (Below.refl _ _).alloc (Nat.le_refl _) _
           have hF := World.alloc_heap_new V (.cells #[.bool false] 4)
           try (have hFn : ∀ z, a1 = some z -> z.block ≠ V.heap.size := fun z hz => by have := (hO.lt z hz).2; omega)
           try (replace hLo := fun j u hj => clq hst (hLo j u hj))
           replace hO := hO.below hst
           replace hU := hU.below hst
           replace hFB := (hst.block _ (Array.getElem?_eq_some_iff.1 hFB).1).trans hFB
           replace hFo := (hst.block _ (Array.getElem?_eq_some_iff.1 hFo).1).trans hFo
           replace hK := fun b hb y z => (hst.block b (Nat.lt_of_lt_of_le hb hsW)).trans (hK b hb y z)
           replace hd := hd.trans (hst.mono (Nat.le_trans hg6 hsW))
           replace hsW := Nat.le_trans hsW hst.size
           clear hst
           go_wp2_with fail
           generalize V.heap.size = bF at *
           generalize V.alloc (.cells #[.bool false] 4) = V at *
           refine ⟨HS2.out _ ⟨hFB, hFo⟩, ?_⟩)
        | (refine wpTree_act (k := 4) _ rfl ?_
           go_wp2_with (at_builtin; refine wpList_appQ (w0 := W) (l := pre.map (fun y => y.1.2)) (ys := [O]) HIO Tryz.underlying27 rfl (by decide) op_len op_one rfl _ _ rfl rfl rfl hO rfl hLo (by unfold maxLen; omega) (by omega) (Nat.le_trans hg6 hsW) hd ?_; intro b1 j1 V2 hO2 hb2 hg2 hz2)
           have hsV := hg2.size
           have hGB : ∀ b, b < V.heap.size -> (∀ z, a1 = some z -> z.block ≠ b) -> V2.heap[b]? = V.heap[b]? := fun b hb hz => hg2.block b hb (by cases a1 with | none => intro e; cases e | some z => intro e; exact hz z rfl (Option.some.inj e).symm)
           have hw1 : ∀ z, b1 = some z -> (∃ u, a1 = some u /\ u.block = z.block) \/ V.heap.size <= z.block := fun z hz => by
             subst hz
             rcases hz2 with e | e
             · cases a1 with
               | none => cases e
               | some u => exact .inl ⟨u, rfl, (Option.some.inj e).symm⟩
             · exact .inr (Nat.le_of_eq (Option.some.inj e).symm)
           have hNE2 : ∀ z u, b1 = some z -> a2 = some u -> z.block ≠ u.block := fun z u hz hu => by
             rcases hw1 z hz with ⟨t, ht, e⟩ | e
             · rw [<- e]; exact hNE t u ht hu
             · have := (hU.lt u hu).2; omega
           try (replace hF := (hGB _ (Array.getElem?_eq_some_iff.1 hF).1 hFn).trans hF)
           replace hU := hU.kept hg2 (fun u hu e => by cases a1 with | none => cases e | some z => exact hNE z u rfl hu (Option.some.inj e).symm)
           replace hFB := (hGB _ (Array.getElem?_eq_some_iff.1 hFB).1 (fun z hz => by have := (hO.lt z hz).1; omega)).trans hFB
           replace hFo := (hGB _ (Array.getElem?_eq_some_iff.1 hFo).1 hA1).trans hFo
           replace hK := fun b hb y z => (hGB b (Nat.lt_of_lt_of_le hb hsW) y).trans (hK b hb y z)
           replace hv1 : ∀ z, b1 = some z -> (∃ u, a1 = some u /\ u.block = z.block) \/ W.heap.size <= z.block := fun z hz => (hw1 z hz).imp id (fun e => Nat.le_trans hsW e)
           replace hd := hb2
           replace hsW := Nat.le_trans hsW hsV
           replace hO := hO2
           clear hO2 hb2 hg2 hz2 hLo hsV hGB hw1
           try clear hFn
           generalize V2 = V at *
           refine ⟨HS2.out _ ⟨hFB, hFo⟩, ?_⟩)
        | (refine wpTree_act (k := 8) _ rfl ?_
           have hLf : ∀ j u, (([false] : List Bool).flatMap encB)[j]? = some u -> V.cell? ((⟨bF, 0, none⟩ : Addr).add j) = some u := fun j u hj => by
             match j with
             | 0 => cases hj; simp [Addr.add_lit, World.cell?, hF]
             | j + 1 => simp [encB] at hj
           go_wp2_with (at_builtin; refine wpList_appQ (w0 := W) (l := List.replicate pre.length false) (ys := [false]) HIB Tryz.underlying28 rfl (by decide) (fun _ => rfl) one_b rfl _ _ rfl rfl rfl hU rfl hLf (by unfold maxLen; omega) (by omega) (Nat.le_trans hg6 hsW) hd ?_; intro b2 j2 V2 hU2 hb2 hg2 hz2)
           have hsV := hg2.size
           have hGB : ∀ b, b < V.heap.size -> (∀ z, a2 = some z -> z.block ≠ b) -> V2.heap[b]? = V.heap[b]? := fun b hb hz => hg2.block b hb (by cases a2 with | none => intro e; cases e | some z => intro e; exact hz z rfl (Option.some.inj e).symm)
           have hw2 : ∀ z, b2 = some z -> (∃ u, a2 = some u /\ u.block = z.block) \/ V.heap.size <= z.block := fun z hz => by
             subst hz
             rcases hz2 with e | e
             · cases a2 with
               | none => cases e
               | some u => exact .inl ⟨u, rfl, (Option.some.inj e).symm⟩
             · exact .inr (Nat.le_of_eq (Option.some.inj e).symm)
           have hNE3 : ∀ z u, b1 = some z -> b2 = some u -> z.block ≠ u.block := fun z u hz hu => by
             rcases hw2 u hu with ⟨t, ht, e⟩ | e
             · rw [<- e]; exact hNE2 z t hz ht
             · have := (hO.lt z hz).2; omega
           replace hO := hO.kept hg2 (fun u hu e => by cases a2 with | none => cases e | some z => exact hNE2 u z hu rfl (Option.some.inj e))
           replace hFB := (hGB _ (Array.getElem?_eq_some_iff.1 hFB).1 (fun z hz => by have := (hU.lt z hz).1; omega)).trans hFB
           replace hFo := (hGB _ (Array.getElem?_eq_some_iff.1 hFo).1 hA2).trans hFo
           replace hK := fun b hb y z => (hGB b (Nat.lt_of_lt_of_le hb hsW) z).trans (hK b hb y z)
           replace hv2 : ∀ z, b2 = some z -> (∃ u, a2 = some u /\ u.block = z.block) \/ W.heap.size <= z.block := fun z hz => (hw2 z hz).imp id (fun e => Nat.le_trans hsW e)
           replace hd := hb2
           replace hsW := Nat.le_trans hsW hsV
           replace hU := hU2
           clear hU2 hb2 hg2 hz2 hLf hsV hGB hw2 hF
           generalize V2 = V at *
           refine ⟨HS2.out _ ⟨hFB, hFo⟩, ?_⟩)
      all_goals
        refine wpTree_fin ?_
        obtain ⟨g1, g2, g5, g6⟩ := HGG.out
        have HEND := hiq (bld_end g1 (by omega) g6 hO hU hFB hd hsW hK hv1 hv2 hNE3)
        have f4 := frozen5 hFB 4
        obtain ⟨x0, x1, x2, x3, x4, x5⟩ := box_cells6 hFB
        have gX4 := heap_set_at (j := 4) hFB (.slice b1 (n1 + 1) j1)
        have f45 := frozen5 gX4 5
        have c45 := (box_cells6 gX4).2.2.2.2.2
        clear g1 g2 g5 g6 gX4 hO hU hFB hFo hd hK hv1 hv2 hNE3 hNE2 hNE HS2 hA1 hA2
        go_wp2
        obtain ⟨g1, g2, g5, g6⟩ := HGG.out
        obtain ⟨e1, e2, e3, e4⟩ := HEND.out
        exact ⟨e3, e2, ⟨b1, n1 + 1, j1, b2, n2 + 1, j2, by rw [hpre.out, hrep.out]; exact e1⟩, (e4.block _ (by omega)).trans g2, g5.trans (e4.mono (by omega)), by have := e2.1; omega⟩
    case done =>
      rintro D ys W hD rfl ⟨⟨a1, n1, k1, a2, n2, k2, g1⟩, g2, g5, g6⟩ hd
      rw [show (doneL l.ops l.und).map (fun y => y.1.2) = keepN l.ops l.und l.ops.length by
        have e := congrArg (List.map (fun p : Nat × Op => p.2)) (doneL_map (ops := l.ops) (und := l.und))
        rw [List.map_map] at e
        exact e.trans (doneN_keep _ _ _), show (doneL l.ops l.und).length = (keepN l.ops l.und l.ops.length).length by rw [doneL_len, <- doneN_keep, List.length_map]] at g1
      obtain ⟨gb, gO2, gU2, gne⟩ := g1
      obtain ⟨c0, c1, c2, c3, c4, c5⟩ := box_cells6 gb
      obtain ⟨y0, y1, y2, y3, y4, y5⟩ := box_cells6 g2
      have yf0 := frozen5 g2 0
      have yf1 := frozen5 g2 1
      have yf2 := frozen5 g2 2
      have yf3 := frozen5 g2 3
      have yf4 := frozen5 g2 4
      have yf5 := frozen5 g2 5
      have hln : n1 <= 256 /\ n2 <= 256 := by
        have := gO2.len
        have := gU2.len
        rw [List.length_replicate] at this
        have := keepN_len l.ops l.und l.ops.length
        have := HLL.out.2
        omega
      have HLN := hiq hln
      have hkm : Hid (∀ o ∈ keepN l.ops l.und l.ops.length, o.ok) := fun o ho => hok.out o (keepN_mem _ (Nat.le_refl _) ho)
      generalize keepN l.ops l.und l.ops.length = KN at *
      have gRf := put6_at g2 (.string sec) (.slice sa sn sc) (.slice ta tn tc) (.slice ca cn cc) (.slice a1 n1 k1) (.slice a2 n2 k2)
      have hbf := put6_below g5 (b := w.heap.size + 1) (by omega) (.string sec) (.slice sa sn sc) (.slice ta tn tc) (.slice ca cn cc) (.slice a1 n1 k1) (.slice a2 n2 k2)
      have hO7 := gO2.same (w' := put6 W (w.heap.size + 1) (.string sec) (.slice sa sn sc) (.slice ta tn tc) (.slice ca cn cc) (.slice a1 n1 k1) (.slice a2 n2 k2)) (fun y hy => put6_other (by have := (gO2.lt y hy).1; omega) _ _ _ _ _ _)
      have hU7 := gU2.same (w' := put6 W (w.heap.size + 1) (.string sec) (.slice sa sn sc) (.slice ta tn tc) (.slice ca cn cc) (.slice a1 n1 k1) (.slice a2 n2 k2)) (fun y hy => put6_other (by have := (gU2.lt y hy).1; omega) _ _ _ _ _ _)
      have hdf := (put6_other (W := W) (b := w.heap.size + 1) (b' := D) (by omega) (.string sec) (.slice sa sn sc) (.slice ta tn tc) (.slice ca cn cc) (.slice a1 n1 k1) (.slice a2 n2 k2)).trans hd
      have HALL := hiq (And.intro gRf (And.intro hbf (And.intro hO7 (And.intro hU7 hdf))))
      clear gRf hbf hO7 hU7 hdf gb gO2 gU2 gne g2 g5 g6 hd hln
      gi_wp2
      obtain ⟨gRf, hbf, hO7, hU7, hdf⟩ := HALL.out
      refine leaves_marks (hi := WL.heap.size) (by simp) (Φ := fun W => W.heap[w.heap.size + 1]? = some (.cells #[.string sec, .slice sa sn sc, .slice ta tn tc, .slice ca cn cc, .slice a1 n1 k1, .slice a2 n2 k2] 30 (0, 0)) /\ Below w.heap.size w W /\ OwnQ 32 5 Op.cells W WL.heap.size a1 n1 k1 KN /\ OwnQ 4 1 encB W WL.heap.size a2 n2 k2 (List.replicate KN.length false)) ?_ ?_ _ _ (Marks.one hD hdf) ⟨gRf, hbf, hO7, hU7⟩
      · rintro W D ⟨h1, h2, h3, h4⟩ hD hd
        exact ⟨cells_putObj h1 hd rfl _, below_putObj h2 (by omega) hd _, h3.ownKept (row := some D) (grownBy_putObj' W D _) (B0 := 0) (fun r e => ⟨Nat.zero_le _, _, by cases e; exact hd, rfl⟩), h4.ownKept (row := some D) (grownBy_putObj' W D _) (B0 := 0) (fun r e => ⟨Nat.zero_le _, _, by cases e; exact hd, rfl⟩)⟩
      · rintro W ⟨h1, h2, h3, h4⟩
        obtain ⟨r0, r1, r2, r3, r4, r5⟩ := box_cells6 h1
        refine ⟨_, by simp [results, Tryz.results29, go_sem, r0, r1, r2, r3, r4, r5]; rfl, ?_⟩
        rw [HEQ.out]
        have hV := HX.out W h2
        rw [hVe.out] at hV
        have hl := HLN.out
        exact ⟨⟨⟨sec, sa, sn, sc, ta, tn, tc, ca, cn, cc⟩, a1, n1, k1, a2, n2, k2⟩, rfl, ⟨hV.1.mono (fun b q _ => .inl q.1), h3.opsq (by omega) (fun b q _ => .inr (by omega)) hkm.out, h4.flgs (by omega) (fun b q _ => .inr (by omega))⟩, h2⟩
    case stop =>
      rintro D c' pre W hD hpre h; exact h.elim
  · have t0 : ((E : Int) != 0) = true := by simpa using e0
    have HEQ := hiq (HS0.out e0)
    obtain ⟨y0, y1, y2, y3, y4, y5⟩ := box_cells6 gR
    have yf0 := frozen5 gR 0
    have yf1 := frozen5 gR 1
    have yf2 := frozen5 gR 2
    have yf3 := frozen5 gR 3
    have yf4 := frozen5 gR 4
    have yf5 := frozen5 gR 5
    have HALL := hiq (And.intro (put6_at gR (.string ⟨#[]⟩) (.slice none 0 0) (.slice none 0 0) (.slice none 0 0) (.slice none 0 0) (.slice none 0 0)) (put6_below hb (b := w.heap.size + 1) (by omega) (.string ⟨#[]⟩) (.slice none 0 0) (.slice none 0 0) (.slice none 0 0) (.slice none 0 0) (.slice none 0 0)))
    clear HS0 HS1 HLE HX gR hb c0 c1 c2 c3 c4 c5
    gi_wp2
    refine leaves_marks (hi := w.heap.size + 2) (by simp) (Φ := fun W => W.heap[w.heap.size + 1]? = some (.cells #[.string ⟨#[]⟩, .slice none 0 0, .slice none 0 0, .slice none 0 0, .slice none 0 0, .slice none 0 0] 30 (0, 0)) /\ Below w.heap.size w W) ?_ ?_ [] _ trivial ⟨HALL.out.1, HALL.out.2⟩
    · rintro W D ⟨h1, h2⟩ hD hd
      exact ⟨cells_putObj h1 hd rfl _, below_putObj h2 (by omega) hd _⟩
    · rintro W ⟨h1, h2⟩
      obtain ⟨r0, r1, r2, r3, r4, r5⟩ := box_cells6 h1
      refine ⟨_, by simp [results, Tryz.results29, go_sem, r0, r1, r2, r3, r4, r5]; rfl, ?_⟩
      rw [HEQ.out]
      exact ⟨⟨⟨⟨#[]⟩, none, 0, 0, none, 0, 0, none, 0, 0⟩, none, 0, 0, none, 0, 0⟩, rfl, rdL_none _ _, h2⟩
end Go.Proofs.YtfdipkhbemgojaaGreatDoor
