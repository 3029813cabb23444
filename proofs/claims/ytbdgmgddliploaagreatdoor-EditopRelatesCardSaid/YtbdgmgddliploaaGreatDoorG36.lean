/- Joined: EIn2. -/
import Derived.Test.YtbdgmgddliploaaGreatDoorG35
set_option linter.unusedVariables false
set_option linter.unusedSimpArgs false
set_option maxRecDepth 100000
set_option maxHeartbeats 16000000
namespace Go.Proofs.YtbdgmgddliploaaGreatDoor
open Go.RowKit Go.Shelf
attribute [local go_sem] Oper.semAt_some

theorem allops_okI {S : Nat -> Prop} {w : World} {v : CV} {x : Col} (h : RdC S w v x) (hv : x.err = 0) (p : Op) (hp : p ∈ allOps x) : p.ok /\ p.text = ⟨#[]⟩ := by
  obtain ⟨i, t, hi, ht, hm, -⟩ := mem_allOps.1 hp
  obtain ⟨e1, e2, e3, e4⟩ := mem_four.1 hm
  have hl : (x.tks i).length <= 1024 := tks_le (fun r hr => ((err_iff.1 hv).1.toks r hr).1) i
  have hs : p.sig.size <= 140737488355328 := by
    obtain ⟨y, b, off, h1, -, -, -, -, h2, -⟩ := h.2.2.1.str (j := i) (by rw [h.2.2.1.len]; exact hi)
    rw [e1, h1]; exact h2
  refine ⟨⟨⟨by omega, by omega⟩, hs, ⟨by omega, by omega⟩, ⟨by omega, by omega⟩, by rw [e3]; show 0 <= _; omega⟩, e3⟩

theorem inv_find (S : Nat -> Prop) (v : CV) (x : Col) (o : Op) (w : World) (h : RdC S w v x) (hm : Sml x) (hE : Env w) (ho : o.ok) (hx : o.text.size <= 1000000) (he : opErr x o = 0) (hk : o.kind ≠ 4) : Calls Tryz.prog 29 #[v.val, o.val] w (InvPost x o w) := by
  have HF : Hid (∀ W, Below w.heap.size w W -> CallsIn Fence.wide 9 Tryz.prog 40 #[v.val, o.val] W (FindPost x o W)) := fun W hb => callsIn_wide.2 (efind_any S v x o W (h.below hb) hm (hE.below hb) ho hx)
  obtain ⟨s, c, F⟩ := fits_of he
  have HA : Hid (∀ W, Below w.heap.size w W -> CallsIn Fence.wide 9 Tryz.prog 41 #[v.val, o.val, .agg #[.int .i64 (s : Int), .int .i64 (c : Int), .int .i64 (o.oth c)]] W (ApplyPost (fun b => S b /\ b < w.heap.size) x o s c W)) := fun W hb => callsIn_wide.2 (apply_any _ v x o s c W ((h.mono (fun b h1 h2 => ⟨h1, h2⟩)).below hb) F ho)
  have HI : Hid (((allOps (opAt x o s c)).find? (fun b => decide (opErr (opAt x o s c) b = 0) && decide (opApply (opAt x o s c) b = x)) = none -> inverse x o = (Op.zero, 6)) /\
      ∀ d, (allOps (opAt x o s c)).find? (fun b => decide (opErr (opAt x o s c) b = 0) && decide (opApply (opAt x o s c) b = x)) = some d -> inverse x o = (d, 0)) := by
    refine ⟨fun hf => ?_, fun d hf => ?_⟩ <;> (unfold inverse invFind; rw [if_neg (by simp [he]), if_neg hk, F.apply, hf])
  have hpl : x.place o = some (s, c) := F.place
  have hyv : (opAt x o s c).err = 0 := valid_op F
  have hys : Sml (opAt x o s c) := by have := sml_op (o := o) hm hx; rw [F.apply] at this; exact this
  have HX := hiq (h.mono (S' := fun b => S b /\ b < w.heap.size) (fun b h1 h2 => ⟨h1, h2⟩))
  have HEV := hiq hE
  unfold InvPost
  unfold FindPost at HF
  unfold ApplyPost at HA
  rw [hpl, he] at HF
  generalize inverse x o = RP at *
  generalize opAt x o s c = Y at *
  have HP : Hid (∀ (T : Nat -> Prop) (u : CV) (b : Op) W, Env W -> RdC T W u Y -> b.ok -> b.text.size <= 1000000 -> Calls Tryz.prog 14 #[u.val, b.val] W (EditPost T Y b W)) := fun T u b W hEW hu hbo hbt => edit_any T u Y b W hu hys hEW hbo hbt
  have HOK : Hid (∀ (T : Nat -> Prop) (u : CV) W, RdC T W u Y -> ∀ b ∈ allOps Y, b.ok /\ b.text = ⟨#[]⟩) := fun T u W hu b hb => allops_okI hu hyv b hb
  unfold EditPost at HP
  obtain ⟨P, hP⟩ : ∃ P : Op -> Bool, P = fun b => decide (opErr Y b = 0) && decide (opApply Y b = x) := ⟨_, rfl⟩
  have HI2 : Hid (((allOps Y).find? P = none -> RP = (Op.zero, 6)) /\ ∀ d, (allOps Y).find? P = some d -> RP = (d, 0)) := by rw [hP]; exact HI.out
  have HPE : Hid (∀ b, P b = (decide (opErr Y b = 0) && decide (x = opApply Y b))) := fun b => by rw [hP]; simp only [eq_comm (a := x)]
  clear hP
  generalize Op.oth o = TH at *
  obtain ⟨V, hV⟩ : ∃ V, V = v := ⟨_, rfl⟩
  rw [<- hV] at HX
  clear HI h hE ho hx F hpl he
  obtain ⟨sec, sa, sn, sc, ta, tn, tc, ca, cn, cc⟩ := v
  obtain ⟨ok, og, ot, oo, ox⟩ := o
  have hVe : Hid (V = ⟨sec, sa, sn, sc, ta, tn, tc, ca, cn, cc⟩) := hV
  clear hV
  dsimp only at hk
  change Calls _ _ #[.agg #[.string sec, .slice sa sn sc, .slice ta tn tc, .slice ca cn cc], .agg #[.int .i64 ok, .string og, .int .i64 ot, .int .i64 oo, .string ox]] _ _
  change Hid (∀ W, _ -> CallsIn _ _ _ _ #[.agg #[.string sec, .slice sa sn sc, .slice ta tn tc, .slice ca cn cc], .agg #[.int .i64 ok, .string og, .int .i64 ot, .int .i64 oo, .string ox]] _ _) at HF
  change Hid (∀ W, _ -> CallsIn _ _ _ _ #[.agg #[.string sec, .slice sa sn sc, .slice ta tn tc, .slice ca cn cc], .agg #[.int .i64 ok, .string og, .int .i64 ot, .int .i64 oo, .string ox], _] _ _) at HA
  have t4 : ((ok : Int) == 4) = false := by simpa using hk
  obtain ⟨W1, hW1, hb0, hs1, gX, gO, gR, gE⟩ := box4b w #[.string sec, .slice sa sn sc, .slice ta tn tc, .slice ca cn cc] #[.int .i64 ok, .string og, .int .i64 ot, .int .i64 oo, .string ox] #[.int .i64 0, .string ⟨#[]⟩, .int .i64 0, .int .i64 0, .string ⟨#[]⟩] #[.int .i64 0] 26 28 28 32
  have HFF := hiq (HF.out _ hb0)
  clear HF hk
  obtain ⟨c0, c1, c2, c3, -⟩ := box_cells4 gX
  obtain ⟨o0, o1, o2, o3, o4⟩ := box_cells5 gO
  rw [hW1] at c0 c1 c2 c3 o0 o1 o2 o3 o4
  refine (callsIn_wide (n := 10)).1 ?_
  refine callsIn_of_wp_marks Tryz.func29 rfl trivial ?_ rfl
  simp only [Tryz.ntmps29, List.size_toArray, List.length_cons, List.length_nil, Nat.reduceAdd, Nat.reduceSub, Array.replicate_succ, Array.replicate_zero, List.push_toArray, List.append_toArray, List.nil_append, List.cons_append]
  gi_wp2_with (fail)
  rw [<- hW1] at *
  clear hW1
  refine ⟨trivial, ?_⟩
  refine HFF.out.mono ?_
  rintro e W2 ⟨p, q, r, rfl, hF, hb2⟩
  obtain ⟨s', c', he, rfl, rfl, rfl⟩ := hF trivial
  obtain ⟨rfl, rfl⟩ : s = s' /\ c = c' := by simpa using he
  clear hF he
  generalize hpo : TH c = po at *
  have hal : Below W2.heap.size W2 (W2.alloc (.cells #[.int .i64 (s : Int), .int .i64 (c : Int), .int .i64 po] 66)) := (Below.refl _ _).alloc (Nat.le_refl _) _
  obtain ⟨p0, p1, p2, -⟩ := box_cells3 (World.alloc_heap_new W2 (.cells #[.int .i64 (s : Int), .int .i64 (c : Int), .int .i64 po] 66))
  have hb3 := hb2.trans (hal.mono hb2.size)
  have gX3 := (hb3.block _ (by omega)).trans gX
  have gO3 := (hb3.block _ (by omega)).trans gO
  have gR3 := (hb3.block _ (by omega)).trans gR
  have gE3 := (hb3.block _ (by omega)).trans gE
  have hb4 := hb0.trans (hb3.mono hb0.size)
  obtain ⟨c0, c1, c2, c3, -⟩ := box_cells4 gX3
  obtain ⟨o0, o1, o2, o3, o4⟩ := box_cells5 gO3
  have HAA := hiq (HA.out _ hb4)
  clear gX gO gR gE hb0 hb2 hb3 hal HFF HA hpo
  gi_wp2_with (fail)
  have hs3 : (W2.alloc (.cells #[.int .i64 (s : Int), .int .i64 (c : Int), .int .i64 po] 66)).heap.size = W2.heap.size + 1 := by simp
  generalize W2.alloc (.cells #[.int .i64 (s : Int), .int .i64 (c : Int), .int .i64 po] 66) = W3 at *
  refine ⟨trivial, ?_⟩
  refine HAA.out.mono ?_
  rintro e W4 ⟨u, he, hRY, hb5⟩
  obtain ⟨sec2, sa2, sn2, sc2, ta2, tn2, tc2, ca2, cn2, cc2⟩ := u
  change e = .returned (.agg #[.string sec2, .slice sa2 sn2 sc2, .slice ta2 tn2 tc2, .slice ca2 cn2 cc2]) at he
  subst he
  have hal : Below W4.heap.size W4 (W4.alloc (.cells #[.string sec2, .slice sa2 sn2 sc2, .slice ta2 tn2 tc2, .slice ca2 cn2 cc2] 26)) := (Below.refl _ _).alloc (Nat.le_refl _) _
  have gY := World.alloc_heap_new W4 (.cells #[.string sec2, .slice sa2 sn2 sc2, .slice ta2 tn2 tc2, .slice ca2 cn2 cc2] 26)
  obtain ⟨y0, y1, y2, y3, -⟩ := box_cells4 gY
  have hb6 := hb5.trans (hal.mono hb5.size)
  have gX5 := (hb6.block _ (by have := (Array.getElem?_eq_some_iff.1 gX3).1; omega)).trans gX3
  have gR5 := (hb6.block _ (by have := (Array.getElem?_eq_some_iff.1 gR3).1; omega)).trans gR3
  have gE5 := (hb6.block _ (by have := (Array.getElem?_eq_some_iff.1 gE3).1; omega)).trans gE3
  have hb7 := hb4.trans (hb6.mono hb4.size)
  have hRY5 := hRY.below hal
  have hs4' : (w.heap.size + 1 + 1 + 1) < W3.heap.size := (Array.getElem?_eq_some_iff.1 gE3).1
  have hs4 : (w.heap.size + 1 + 1 + 1) < W4.heap.size := by have := (Array.getElem?_eq_some_iff.1 gE3).1; have := hb5.size; omega
  have hs5 : (W4.alloc (.cells #[.string sec2, .slice sa2 sn2 sc2, .slice ta2 tn2 tc2, .slice ca2 cn2 cc2] 26)).heap.size = W4.heap.size + 1 := by simp
  have HA2 : Hid (∀ m W, CallsIn Fence.wide m Tryz.prog 55 #[.agg #[.string sec2, .slice sa2 sn2 sc2, .slice ta2 tn2 tc2, .slice ca2 cn2 cc2]] W fun e w' => e = .returned (.func (.func 93) #[] #[.pointer (some ⟨W.heap.size, 0, none⟩)]) /\ w' = W.alloc (.cells #[.string sec2, .slice sa2 sn2 sc2, .slice ta2 tn2 tc2, .slice ca2 cn2 cc2] 26)) := fun m W => eall_in m W ⟨sec2, sa2, sn2, sc2, ta2, tn2, tc2, ca2, cn2, cc2⟩
  clear gX3 gO3 gR3 gE3 hb4 hb5 hb6 hal hRY HAA o0 o1 o2 o3 o4 p0 p1 p2 c0 c1 c2 c3
  gi_wp2_with (fail)
  generalize W4.alloc (.cells #[.string sec2, .slice sa2 sn2 sc2, .slice ta2 tn2 tc2, .slice ca2 cn2 cc2] 26) = W5 at *
  refine ⟨trivial, ?_⟩
  refine (HA2.out _ _).mono ?_
  rintro e WL ⟨rfl, hWL⟩
  have hbL : Below W5.heap.size W5 WL := by rw [hWL]; exact (Below.refl _ _).alloc (Nat.le_refl _) _
  have gBL := World.alloc_heap_new W5 (.cells #[.string sec2, .slice sa2 sn2 sc2, .slice ta2 tn2 tc2, .slice ca2 cn2 cc2] 26)
  rw [<- hWL] at gBL
  have hsL : WL.heap.size = W5.heap.size + 1 := by rw [hWL]; simp
  have gXL := (hbL.block _ (by omega)).trans gX5
  have gYL := (hbL.block _ (by omega)).trans gY
  have gRL := (hbL.block _ (by omega)).trans gR5
  have gEL := (hbL.block _ (by omega)).trans gE5
  have hbw := hb7.trans (hbL.mono hb7.size)
  have hRL : RdC (fun b => ¬ (b = (w.heap.size + 1 + 1) \/ b = (w.heap.size + 1 + 1 + 1))) WL ⟨sec2, sa2, sn2, sc2, ta2, tn2, tc2, ca2, cn2, cc2⟩ Y := (hRY5.below hbL).mono (fun b hb _ h3 => by
    have := hbw.size
    rcases hb with ⟨_, q⟩ | q <;> rcases h3 with h3 | h3 <;> omega)
  clear hWL hbL gX5 gR5 gE5 gY hb7 hRY5 HA2 y0 y1 y2 y3
  gi_wp2
  rw [hs5] at gBL
  have hE2 : Env WL := HEV.out.below hbw
  refine wpIn_rangeFunc_ownH (α := AOp Y) (n := 10) (F := Fence.wide) rfl (by omega) rfl trivial (enters_of Tryz.func93 (by kernel_rfl) rfl)
    (eall_stops (10 - 1) (by omega) (fun (_ : World) (b : Nat) => b = (w.heap.size + 1 + 1) \/ b = (w.heap.size + 1 + 1 + 1)) (W4.heap.size + 1) ⟨sec2, sa2, sn2, sc2, ta2, tn2, tc2, ca2, cn2, cc2⟩ Y WL gBL hRL (fun b hb => by rcases hb with rfl | rfl <;> omega) (fun A B h1 h2 b => Iff.rfl) (fun hb => by rcases hb with hb | hb <;> omega)
      (fun B hk => env_keeps HEV.out (fun b hb h3 => by rcases h3 with h3 | h3 <;> omega) WL B hk hE2) hys hyv) KpO.trans
    (fun W l o o' hl hh hc _ => kpO_const (O := fun b => b = (w.heap.size + 1 + 1) \/ b = (w.heap.size + 1 + 1 + 1)) (KeepS.putObj W hh hc o')) (Below.refl _ _) (fun _ => rfl)
    (fun pre W => KeepS (fun b => ¬ (b = (w.heap.size + 1 + 1) \/ b = (w.heap.size + 1 + 1 + 1))) WL W /\ W.heap[(w.heap.size + 1 + 1)]? = some (.cells #[.int .i64 0, .string ⟨#[]⟩, .int .i64 0, .int .i64 0, .string ⟨#[]⟩] 28 (0, 0)) /\ W.heap[(w.heap.size + 1 + 1 + 1)]? = some (.cells #[.int .i64 0] 32 (0, 0)) /\ Below w.heap.size w W /\ (pre.map (·.1)).find? P = none)
    (fun c' pre W => c' = .ret /\ ∃ b : Op, W.heap[(w.heap.size + 1 + 1)]? = some (.cells (opC b) 28 (0, 0)) /\ W.heap[(w.heap.size + 1 + 1 + 1)]? = some (.cells #[.int .i64 0] 32 (0, 0)) /\ Below w.heap.size w W /\ (pre.map (·.1)).find? P = some b) ?hI ?hIx ⟨KeepS.refl _ _, gRL, gEL, hbw, rfl⟩
    (fun y a' W => ∃ bo, a' = { tmps := #[.agg #[.string sec, .slice sa sn sc, .slice ta tn tc, .slice ca cn cc], .agg #[.int .i64 ok, .string og, .int .i64 ot, .int .i64 oo, .string ox], .pointer (some ⟨w.heap.size, 0, none⟩), .pointer (some ⟨w.heap.size + 1, 0, none⟩), .pointer (some ⟨(w.heap.size + 1 + 1), 0, none⟩), .pointer (some ⟨(w.heap.size + 1 + 1 + 1), 0, none⟩), .pointer (some ⟨W2.heap.size, 0, none⟩), .int .i64 0, .pointer (some ⟨W4.heap.size, 0, none⟩), .pointer (some ⟨bo, 0, none⟩), undef, undef, .tuple #[.agg #[.int .i64 (s : Int), .int .i64 (c : Int), .int .i64 po], .int .i64 0], .agg #[.string sec, .slice sa sn sc, .slice ta tn tc, .slice ca cn cc], .agg #[.int .i64 ok, .string og, .int .i64 ot, .int .i64 oo, .string ox], .tuple #[.agg #[.int .i64 (s : Int), .int .i64 (c : Int), .int .i64 po], .int .i64 0], .agg #[.int .i64 (s : Int), .int .i64 (c : Int), .int .i64 po], .int .i64 0, .int .i64 0, .bool false, undef, undef, .pointer (some ⟨w.heap.size + 1, 0, none⟩), .int .i64 ok, .bool false, undef, undef, undef, undef, undef, undef, undef, undef, undef, undef, undef, undef, undef, .agg #[.string sec, .slice sa sn sc, .slice ta tn tc, .slice ca cn cc], .agg #[.int .i64 ok, .string og, .int .i64 ot, .int .i64 oo, .string ox], .agg #[.int .i64 (s : Int), .int .i64 (c : Int), .int .i64 po], .agg #[.string sec2, .slice sa2 sn2 sc2, .slice ta2 tn2 tc2, .slice ca2 cn2 cc2], .agg #[.string sec2, .slice sa2 sn2 sc2, .slice ta2 tn2 tc2, .slice ca2 cn2 cc2], .func (.func 93) #[] #[.pointer (some ⟨W4.heap.size + 1, 0, none⟩)], .agg (opC y.1), undef, undef, undef, undef, undef, undef, undef, undef, undef, undef, undef, undef, undef, undef, undef], defers := [] } /\ W.heap[bo]? = some (.cells (opC y.1) 28 (0, 0)) /\ WL.heap.size <= bo) ?hAx ?assign ?body ?done ?stop
  case hI =>
    rintro pre W W' row ⟨g1, g2, g3, g4, g5⟩ hg hr
    exact ⟨g1.own hg hr, cells_own g2 hg hr, cells_own g3 hg hr, g4.grown hg g4.size (fun r e => by have := (hr r e).1; have := hbw.size; omega), g5⟩
  case hIx =>
    rintro c' pre W W' row ⟨h0, b, g2, g3, g4, g5⟩ hg hr
    exact ⟨h0, b, cells_own g2 hg hr, cells_own g3 hg hr, g4.grown hg g4.size (fun r e => by have := (hr r e).1; have := hbw.size; omega), g5⟩
  case hAx =>
    rintro y a' _ W W' row ⟨bo, e, h1, h2⟩ hg hr
    exact ⟨bo, e, cells_own h1 hg hr, h2⟩
  case assign =>
    rintro l0 pre y W K ⟨g1, g2, g3, g4, g5⟩ hK
    have hb1 : Below W.heap.size W (W.alloc (.cells (opC y.1) 28)) := (Below.refl _ _).alloc (Nat.le_refl _) _
    have hKx := hiq (hK _ (W.alloc (.cells (opC y.1) 28)) (keepsFrom_below hb1) (kpO_const (O := fun b => b = (w.heap.size + 1 + 1) \/ b = (w.heap.size + 1 + 1 + 1)) (.below hb1))
      ⟨g1.trans (.below hb1), (hb1.block _ (Array.getElem?_eq_some_iff.1 g2).1).trans g2, (hb1.block _ (Array.getElem?_eq_some_iff.1 g3).1).trans g3, g4.trans (hb1.mono g4.size), g5⟩ ⟨W.heap.size, rfl, World.alloc_heap_new W _, g1.1⟩)
    obtain ⟨⟨ok', og', ot', oo', ox'⟩, hy⟩ := y
    dsimp only [Op.val, opC] at hKx ⊢
    gi_wp2
    exact hKx.out
  case body =>
    rintro l0 pre y a0 W - - ⟨g1, g2, g3, g4, g5⟩ ⟨bo, rfl, h1, hbo⟩ hlt
    obtain ⟨b, hb⟩ := y
    have gXW := g1.2 _ _ _ _ (by omega) gXL
    have gYW := g1.2 _ _ _ _ (by omega) gYL
    have hRW := hRL.keep g1
    have hEW := env_keeps HEV.out (S := fun b => ¬ (b = (w.heap.size + 1 + 1) \/ b = (w.heap.size + 1 + 1 + 1))) (fun b hb h3 => by rcases h3 with h3 | h3 <;> omega) WL W g1 hE2
    obtain ⟨hbo1, hbo2⟩ := HOK.out _ _ _ hRW b hb
    have HPP := hiq (HP.out _ _ b W hEW hRW hbo1 (by rw [hbo2]; show 0 <= _; omega))
    have HPb := hiq (HPE.out b)
    have HSN : Hid (((pre ++ [(⟨b, hb⟩ : AOp Y)]).map (·.1)).find? P = if P b then some b else none) := by
      show _ = _; rw [List.map_append]; exact find_snoc g5
    have hsw := hbw.size
    generalize opErr Y b = EB at *
    generalize opApply Y b = ZB at *
    obtain ⟨ok', og', ot', oo', ox'⟩ := b
    change W.heap[bo]? = some (.cells #[.int .i64 ok', .string og', .int .i64 ot', .int .i64 oo', .string ox'] 28 (0, 0)) at h1
    change Hid (Calls _ _ #[.agg #[.string sec2, .slice sa2 sn2 sc2, .slice ta2 tn2 tc2, .slice ca2 cn2 cc2], .agg #[.int .i64 ok', .string og', .int .i64 ot', .int .i64 oo', .string ox']] _ _) at HPP
    obtain ⟨c0, c1, c2, c3, -⟩ := box_cells4 gXW
    obtain ⟨y0, y1, y2, y3, -⟩ := box_cells4 gYW
    obtain ⟨b0, b1, b2, b3, b4⟩ := box_cells5 h1
    have HG := hiq (And.intro g1 (And.intro g2 (And.intro g3 (And.intro g4 g5))))
    clear g1 g2 g3 g5 hRW hEW hbo1 hbo2 gXW gYW
    dsimp only [opC]
    gi_wp2_with (fail)
    refine ⟨trivial, ?_⟩
    refine (callsIn_wide.2 HPP.out).mono ?_
    rintro e U1 ⟨u, he, hRZ, hu1⟩
    obtain ⟨sec3, sa3, sn3, sc3, ta3, tn3, tc3, ca3, cn3, cc3⟩ := u
    change e = .returned (.tuple #[.agg #[.string sec3, .slice sa3 sn3 sc3, .slice ta3 tn3 tc3, .slice ca3 cn3 cc3], .int .i64 EB]) at he
    subst he
    have hal : Below U1.heap.size U1 (U1.alloc (.cells #[.string sec3, .slice sa3 sn3 sc3, .slice ta3 tn3 tc3, .slice ca3 cn3 cc3] 26)) := (Below.refl _ _).alloc (Nat.le_refl _) _
    have hu2 := hu1.trans (hal.mono hu1.size)
    obtain ⟨z0, z1, z2, z3, -⟩ := box_cells4 (World.alloc_heap_new U1 (.cells #[.string sec3, .slice sa3 sn3 sc3, .slice ta3 tn3 tc3, .slice ca3 cn3 cc3] 26))
    replace c0 := clq hu2 c0; replace c1 := clq hu2 c1; replace c2 := clq hu2 c2; replace c3 := clq hu2 c3; replace b0 := clq hu2 b0; replace b1 := clq hu2 b1; replace b2 := clq hu2 b2; replace b3 := clq hu2 b3; replace b4 := clq hu2 b4
    have hu3 := g4.trans (hu2.mono g4.size)
    have hSM := HX.out.below hu3
    rw [hVe.out] at hSM
    have HSM := hiq (sameC_any _ _ ⟨sec, sa, sn, sc, ta, tn, tc, ca, cn, cc⟩ ⟨sec3, sa3, sn3, sc3, ta3, tn3, tc3, ca3, cn3, cc3⟩ x ZB _ hSM (hRZ.below hal))
    change Hid (Calls _ _ #[.agg #[.string sec, .slice sa sn sc, .slice ta tn tc, .slice ca cn cc], .agg #[.string sec3, .slice sa3 sn3 sc3, .slice ta3 tn3 tc3, .slice ca3 cn3 cc3]] _ _) at HSM
    have HU2 := hiq hu2
    have HU3 := hiq hu3
    clear hSM hRZ hal hu1 HPP y0 y1 y2 y3 hu2 hu3 g4
    generalize decide (x = ZB) = D at *
    by_cases e0 : EB = 0
    · have t0 : ((EB : Int) == 0) = true := by simp [e0]
      gi_wp2_with (fail)
      generalize U1.alloc (.cells #[.string sec3, .slice sa3 sn3 sc3, .slice ta3 tn3 tc3, .slice ca3 cn3 cc3] 26) = U2 at *
      refine ⟨trivial, ?_⟩
      refine (callsIn_wide.2 HSM.out).mono ?_
      rintro e U3 ⟨rfl, hu4⟩
      have HU4 := hiq (HU2.out.trans (hu4.mono HU2.out.size))
      replace b0 := clq hu4 b0; replace b1 := clq hu4 b1; replace b2 := clq hu4 b2; replace b3 := clq hu4 b3; replace b4 := clq hu4 b4
      obtain ⟨g1, g2, g3, g4, g5⟩ := HG.out
      have hbl := HU4.out
      cases D with
      | true =>
        have hPb : P ⟨ok', og', ot', oo', ox'⟩ = true := by rw [HPb.out, decide_eq_true e0]; rfl
        have gR3 := (hbl.block _ (Array.getElem?_eq_some_iff.1 g2).1).trans g2
        have gE3 := (hbl.block _ (Array.getElem?_eq_some_iff.1 g3).1).trans g3
        obtain ⟨r0, r1, r2, r3, r4⟩ := box_cells5 gR3
        have f0 := frozen5 gR3 0
        have f1 := frozen5 gR3 1
        have f2 := frozen5 gR3 2
        have f3 := frozen5 gR3 3
        have f5 := frozen5 gR3 4
        have q0 := cell_of_one gE3
        have fe := frozen5 gE3 0
        have hX : Hid (((put5 U3 (w.heap.size + 1 + 1) (.int .i64 ok') (.string og') (.int .i64 ot') (.int .i64 oo') (.string ox')).setCell ⟨(w.heap.size + 1 + 1 + 1), 0, none⟩ (.int .i64 0)).heap[(w.heap.size + 1 + 1)]? = some (.cells #[.int .i64 ok', .string og', .int .i64 ot', .int .i64 oo', .string ox'] 28 (0, 0)) /\
            ((put5 U3 (w.heap.size + 1 + 1) (.int .i64 ok') (.string og') (.int .i64 ot') (.int .i64 oo') (.string ox')).setCell ⟨(w.heap.size + 1 + 1 + 1), 0, none⟩ (.int .i64 0)).heap[(w.heap.size + 1 + 1 + 1)]? = some (.cells #[.int .i64 0] 32 (0, 0)) /\
            Below w.heap.size w ((put5 U3 (w.heap.size + 1 + 1) (.int .i64 ok') (.string og') (.int .i64 ot') (.int .i64 oo') (.string ox')).setCell ⟨(w.heap.size + 1 + 1 + 1), 0, none⟩ (.int .i64 0)) /\
            KeepsFrom WL.heap.size W ((put5 U3 (w.heap.size + 1 + 1) (.int .i64 ok') (.string og') (.int .i64 ot') (.int .i64 oo') (.string ox')).setCell ⟨(w.heap.size + 1 + 1 + 1), 0, none⟩ (.int .i64 0))) := by
          refine ⟨?_, ?_, below_setc (put5_below (g4.trans (hbl.mono g4.size)) (by omega) _ _ _ _ _) (by omega) _ _, ?_⟩
          · rw [heap_setCell_other (by omega)]; exact put5_at gR3 _ _ _ _ _
          · rw [heap_setCell_self (by rw [put5_other (by omega)]; exact gE3)]; simp
          · exact keepsFrom_set (keepsFrom_set (keepsFrom_set (keepsFrom_set (keepsFrom_set (keepsFrom_set (keepsFrom_below hbl) (by omega) _) (by omega) _) (by omega) _) (by omega) _) (by omega) _) (by omega) _
        have HSN2 : Hid (((pre ++ [(⟨⟨ok', og', ot', oo', ox'⟩, hb⟩ : AOp Y)]).map (·.1)).find? P = some ⟨ok', og', ot', oo', ox'⟩) := by show _ = _; rw [HSN.out, hPb]; rfl
        clear gR3 gE3 hPb g1 g2 g3 g4 g5 HG hbl e0 HPb HSN
        gi_wp2
        obtain ⟨x1, x2, x3, x4⟩ := hX.out
        exact ⟨x4, rfl, _, x1, x2, x3, HSN2.out⟩
      | false =>
        have hPb : P ⟨ok', og', ot', oo', ox'⟩ = false := by rw [HPb.out]; simp
        have hI : Hid (KeepsFrom WL.heap.size W U3 /\ KpO (fun (_ : World) (b : Nat) => b = (w.heap.size + 1 + 1) \/ b = (w.heap.size + 1 + 1 + 1)) W U3 /\ KeepS (fun b => ¬ (b = (w.heap.size + 1 + 1) \/ b = (w.heap.size + 1 + 1 + 1))) WL U3 /\ U3.heap[(w.heap.size + 1 + 1)]? = some (.cells #[.int .i64 0, .string ⟨#[]⟩, .int .i64 0, .int .i64 0, .string ⟨#[]⟩] 28 (0, 0)) /\ U3.heap[(w.heap.size + 1 + 1 + 1)]? = some (.cells #[.int .i64 0] 32 (0, 0)) /\ Below w.heap.size w U3 /\ ((pre ++ [(⟨⟨ok', og', ot', oo', ox'⟩, hb⟩ : AOp Y)]).map (·.1)).find? P = none) :=
          ⟨keepsFrom_below hbl, kpO_const (O := fun b => b = (w.heap.size + 1 + 1) \/ b = (w.heap.size + 1 + 1 + 1)) (.below hbl), g1.trans (.below hbl), (hbl.block _ (Array.getElem?_eq_some_iff.1 g2).1).trans g2, (hbl.block _ (Array.getElem?_eq_some_iff.1 g3).1).trans g3, g4.trans (hbl.mono g4.size), by rw [HSN.out, hPb]; rfl⟩
        clear hPb g1 g2 g3 g4 g5 HG hbl e0 HPb HSN
        gi_wp2
        exact hI.out
    · have t0 : ((EB : Int) == 0) = false := by simpa using e0
      have hPb : P ⟨ok', og', ot', oo', ox'⟩ = false := by rw [HPb.out, decide_eq_false e0]; rfl
      obtain ⟨g1, g2, g3, g4, g5⟩ := HG.out
      have hbl := HU2.out
      have hI : Hid (KeepsFrom WL.heap.size W (U1.alloc (.cells #[.string sec3, .slice sa3 sn3 sc3, .slice ta3 tn3 tc3, .slice ca3 cn3 cc3] 26)) /\ KpO (fun (_ : World) (b : Nat) => b = (w.heap.size + 1 + 1) \/ b = (w.heap.size + 1 + 1 + 1)) W (U1.alloc (.cells #[.string sec3, .slice sa3 sn3 sc3, .slice ta3 tn3 tc3, .slice ca3 cn3 cc3] 26)) /\ KeepS (fun b => ¬ (b = (w.heap.size + 1 + 1) \/ b = (w.heap.size + 1 + 1 + 1))) WL (U1.alloc (.cells #[.string sec3, .slice sa3 sn3 sc3, .slice ta3 tn3 tc3, .slice ca3 cn3 cc3] 26)) /\ (U1.alloc (.cells #[.string sec3, .slice sa3 sn3 sc3, .slice ta3 tn3 tc3, .slice ca3 cn3 cc3] 26)).heap[(w.heap.size + 1 + 1)]? = some (.cells #[.int .i64 0, .string ⟨#[]⟩, .int .i64 0, .int .i64 0, .string ⟨#[]⟩] 28 (0, 0)) /\ (U1.alloc (.cells #[.string sec3, .slice sa3 sn3 sc3, .slice ta3 tn3 tc3, .slice ca3 cn3 cc3] 26)).heap[(w.heap.size + 1 + 1 + 1)]? = some (.cells #[.int .i64 0] 32 (0, 0)) /\ Below w.heap.size w (U1.alloc (.cells #[.string sec3, .slice sa3 sn3 sc3, .slice ta3 tn3 tc3, .slice ca3 cn3 cc3] 26)) /\ ((pre ++ [(⟨⟨ok', og', ot', oo', ox'⟩, hb⟩ : AOp Y)]).map (·.1)).find? P = none) :=
        ⟨keepsFrom_below hbl, kpO_const (O := fun b => b = (w.heap.size + 1 + 1) \/ b = (w.heap.size + 1 + 1 + 1)) (.below hbl), g1.trans (.below hbl), (hbl.block _ (Array.getElem?_eq_some_iff.1 g2).1).trans g2, (hbl.block _ (Array.getElem?_eq_some_iff.1 g3).1).trans g3, g4.trans (hbl.mono g4.size), by rw [HSN.out, hPb]; rfl⟩
      clear hPb g1 g2 g3 g4 g5 HG hbl e0 HPb HSN HSM
      gi_wp2
      refine ⟨trivial, ?_⟩
      gi_wp2
      exact hI.out
  case done =>
    rintro D ys W hD rfl ⟨g1, g2, g3, g4, g5⟩ hd
    have hsw := hbw.size
    have hmap : (allL Y).map (·.1) = allOps Y := by simp [allL, List.attach_map_subtype_val]
    rw [hmap] at g5
    have HG5 := hiq g5
    obtain ⟨r0, r1, r2, r3, r4⟩ := box_cells5 g2
    have f0 := frozen5 g2 0
    have f1 := frozen5 g2 1
    have f2 := frozen5 g2 2
    have f3 := frozen5 g2 3
    have f5 := frozen5 g2 4
    have q0 := cell_of_one g3
    have fe := frozen5 g3 0
    have hX : Hid (((put5 W (w.heap.size + 1 + 1) (.int .i64 0) (.string ⟨#[]⟩) (.int .i64 0) (.int .i64 0) (.string ⟨#[]⟩)).setCell ⟨(w.heap.size + 1 + 1 + 1), 0, none⟩ (.int .i64 6)).heap[(w.heap.size + 1 + 1)]? = some (.cells #[.int .i64 0, .string ⟨#[]⟩, .int .i64 0, .int .i64 0, .string ⟨#[]⟩] 28 (0, 0)) /\
        ((put5 W (w.heap.size + 1 + 1) (.int .i64 0) (.string ⟨#[]⟩) (.int .i64 0) (.int .i64 0) (.string ⟨#[]⟩)).setCell ⟨(w.heap.size + 1 + 1 + 1), 0, none⟩ (.int .i64 6)).heap[(w.heap.size + 1 + 1 + 1)]? = some (.cells #[.int .i64 6] 32 (0, 0)) /\
        Below w.heap.size w ((put5 W (w.heap.size + 1 + 1) (.int .i64 0) (.string ⟨#[]⟩) (.int .i64 0) (.int .i64 0) (.string ⟨#[]⟩)).setCell ⟨(w.heap.size + 1 + 1 + 1), 0, none⟩ (.int .i64 6)) /\
        ((put5 W (w.heap.size + 1 + 1) (.int .i64 0) (.string ⟨#[]⟩) (.int .i64 0) (.int .i64 0) (.string ⟨#[]⟩)).setCell ⟨(w.heap.size + 1 + 1 + 1), 0, none⟩ (.int .i64 6)).heap[D]? = some (.deferred (some []))) := by
      refine ⟨?_, ?_, below_setc (put5_below g4 (by omega) _ _ _ _ _) (by omega) _ _, ?_⟩
      · rw [heap_setCell_other (by omega)]; exact put5_at g2 _ _ _ _ _
      · rw [heap_setCell_self (by rw [put5_other (by omega)]; exact g3)]; simp
      · rw [heap_setCell_other (by omega), put5_other (by omega)]; exact hd
    clear g1 g2 g3 g4 g5 hd hmap
    gi_wp2
    refine leaves_marks (hi := WL.heap.size) (by simp) (Φ := fun W => W.heap[(w.heap.size + 1 + 1)]? = some (.cells #[.int .i64 0, .string ⟨#[]⟩, .int .i64 0, .int .i64 0, .string ⟨#[]⟩] 28 (0, 0)) /\ W.heap[(w.heap.size + 1 + 1 + 1)]? = some (.cells #[.int .i64 6] 32 (0, 0)) /\ Below w.heap.size w W) ?_ ?_ _ _ (Marks.one hD hX.out.2.2.2) ⟨hX.out.1, hX.out.2.1, hX.out.2.2.1⟩
    · rintro W D ⟨h1, h2, h3⟩ hD hd
      exact ⟨cells_putObj h1 hd rfl _, cells_putObj h2 hd rfl _, below_putObj h3 (by omega) hd _⟩
    · rintro W ⟨h1, h2, h3⟩
      obtain ⟨s0, s1, s2, s3, s4⟩ := box_cells5 h1
      have e2 := cell_of_one h2
      refine ⟨_, by simp [results, Tryz.results29, go_sem, s0, s1, s2, s3, s4, e2]; rfl, ?_, h3⟩
      rw [HI2.out.1 HG5.out]; rfl
  case stop =>
    rintro D c' pre W hD hpre ⟨rfl, b, g2, g3, g4, g5⟩ hd
    have hsw := hbw.size
    have hp2 : pre.map (·.1) <+: allOps Y := by
      have : pre.map (·.1) <+: (allL Y).map (·.1) := List.IsPrefix.map _ hpre
      rw [show (allL Y).map (·.1) = allOps Y by simp [allL, List.attach_map_subtype_val]] at this
      exact this
    have HG5 := hiq (find_pre hp2 g5)
    gi_wp2
    refine leaves_marks (hi := WL.heap.size) (by simp) (Φ := fun W => W.heap[(w.heap.size + 1 + 1)]? = some (.cells (opC b) 28 (0, 0)) /\ W.heap[(w.heap.size + 1 + 1 + 1)]? = some (.cells #[.int .i64 0] 32 (0, 0)) /\ Below w.heap.size w W) ?_ ?_ _ _ (Marks.one hD hd) ⟨g2, g3, g4⟩
    · rintro W D ⟨h1, h2, h3⟩ hD hd
      exact ⟨cells_putObj h1 hd rfl _, cells_putObj h2 hd rfl _, below_putObj h3 (by omega) hd _⟩
    · rintro W ⟨h1, h2, h3⟩
      obtain ⟨s0, s1, s2, s3, s4⟩ := box_cells5 h1
      have e2 := cell_of_one h2
      refine ⟨_, by simp [results, Tryz.results29, go_sem, s0, s1, s2, s3, s4, e2]; rfl, ?_, h3⟩
      rw [HI2.out.2 _ HG5.out]; rfl
theorem inverse_any (S : Nat -> Prop) (v : CV) (x : Col) (o : Op) (w : World) (h : RdC S w v x) (hm : Sml x) (hE : Env w) (ho : o.ok) (hx : o.text.size <= 1000000) : Calls Tryz.prog 29 #[v.val, o.val] w (InvPost x o w) := by
  by_cases he : opErr x o = 0
  · by_cases hk : o.kind = 4
    · exact inv_reg S v x o w h hm hE ho hx he hk
    · exact inv_find S v x o w h hm hE ho hx he hk
  · exact inv_err S v x o w h hm hE ho hx he
end Go.Proofs.YtbdgmgddliploaaGreatDoor
