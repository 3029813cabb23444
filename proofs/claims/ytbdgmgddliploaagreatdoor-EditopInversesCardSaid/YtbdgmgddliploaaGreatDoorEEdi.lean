/- editop.Check, editop.Apply. -/
import Derived.Test.YtbdgmgddliploaaGreatDoorEAplR
set_option linter.unusedVariables false
set_option linter.unusedSimpArgs false
namespace Go.Proofs.YtbdgmgddliploaaGreatDoor
open Go.RowKit

theorem apply_any (S : Nat → Prop) (v : CV) (x : Col) (o : Op) (s c : Nat) (w : World) (h : RdC S w v x) (F : Fits x o s c) (ho : o.ok) :
    Calls Tryz.prog 41 #[v.val, o.val, .agg #[.int .i64 (s : Int), .int .i64 (c : Int), .int .i64 (o.oth c)]] w (ApplyPost S x o s c w) := by
  have h4 : o.kind = 1 ∨ o.kind = 2 ∨ o.kind = 3 ∨ o.kind = 4 := by have := F.kind; omega
  rcases h4 with k | k | k | k
  · exact apply_1 S v x o s c w h F k
  · exact apply_2 S v x o s c w h F k
  · exact apply_3 S v x o s c w h F k
  · exact apply_4 S v x o s c w h F k ho
set_option maxRecDepth 100000 in
set_option maxHeartbeats 2000000 in
theorem echeck_any (S : Nat → Prop) (v : CV) (x : Col) (o : Op) (w : World) (h : RdC S w v x) (hm : Sml x) (hE : Env w) (ho : o.ok) (hx : o.text.size ≤ 1000000) :
    Calls Tryz.prog 18 #[v.val, o.val] w fun e w' => e = .returned (.int .i64 (opErr x o)) ∧ Below w.heap.size w w' := by
  have HF : Hid (∀ W, Below w.heap.size w W → Calls Tryz.prog 40 #[v.val, o.val] W (FindPost x o W)) := fun W hb => efind_any S v x o W (h.below hb) hm (hE.below hb) ho hx
  unfold FindPost at HF
  generalize opErr x o = E at *
  generalize x.place o = PL at *
  generalize Op.oth o = TH at *
  clear h hm hE ho hx
  obtain ⟨sec, sa, sn, sc, ta, tn, tc, ca, cn, cc⟩ := v
  obtain ⟨ok, og, ot, oo, ox⟩ := o
  change Calls _ _ #[.agg #[.string sec, .slice sa sn sc, .slice ta tn tc, .slice ca cn cc], .agg #[.int .i64 ok, .string og, .int .i64 ot, .int .i64 oo, .string ox]] _ _
  change Hid (∀ W, _ → Calls _ _ #[.agg #[.string sec, .slice sa sn sc, .slice ta tn tc, .slice ca cn cc], .agg #[.int .i64 ok, .string og, .int .i64 ot, .int .i64 oo, .string ox]] _ _) at HF
  have hb0 : Below w.heap.size w ((w.alloc (.cells #[.string sec, .slice sa sn sc, .slice ta tn tc, .slice ca cn cc] 26)).alloc (.cells #[.int .i64 ok, .string og, .int .i64 ot, .int .i64 oo, .string ox] 28)) := ((Below.refl _ _).alloc (Nat.le_refl _) _).alloc (by simp) _
  have HFF := Lib.hid (HF.out _ hb0)
  go_enter Tryz.func18, Tryz.ntmps18
  go_wp2_with fail
  generalize (w.alloc (.cells #[.string sec, .slice sa sn sc, .slice ta tn tc, .slice ca cn cc] 26)).alloc (.cells #[.int .i64 ok, .string og, .int .i64 ot, .int .i64 oo, .string ox] 28) = W1 at *
  refine HFF.out.mono ?_
  rintro e W2 ⟨p, q, r, rfl, -, hb2⟩
  have hb3 := hb0.trans (hb2.mono hb0.size)
  have hb4 : Below w.heap.size w (W2.alloc (.cells #[.int .i64 p, .int .i64 q, .int .i64 r] 66)) := hb3.alloc hb3.size _
  go_wp2
  go_ret
  exact ⟨rfl, hb4⟩
theorem RdC.none (S : Nat → Prop) (w : World) : RdC S w ⟨⟨#[]⟩, Option.none, 0, 0, Option.none, 0, 0, Option.none, 0, 0⟩ Col.none :=
  ⟨rfl, by show 0 ≤ _; omega, Sq.nil _ _ _ _ _, Sq.nil _ _ _ _ _, Sq.nil _ _ _ _ _⟩
theorem opApply_none {x : Col} {o : Op} (h : opErr x o ≠ 0) : opApply x o = Col.none := by unfold opApply; rw [if_neg h]
def EditPost (S : Nat → Prop) (x : Col) (o : Op) (w : World) (e : Ending) (w' : World) : Prop :=
  ∃ v' : CV, e = .returned (.tuple #[v'.val, .int .i64 (opErr x o)]) ∧ RdC (fun b => S b ∨ w.heap.size ≤ b) w' v' (opApply x o) ∧ Below w.heap.size w w'
set_option maxRecDepth 100000 in
set_option maxHeartbeats 2000000 in
theorem edit_any (S : Nat → Prop) (v : CV) (x : Col) (o : Op) (w : World) (h : RdC S w v x) (hm : Sml x) (hE : Env w) (ho : o.ok) (hx : o.text.size ≤ 1000000) :
    Calls Tryz.prog 14 #[v.val, o.val] w (EditPost S x o w) := by
  have HF : Hid (∀ W, Below w.heap.size w W → Calls Tryz.prog 40 #[v.val, o.val] W (FindPost x o W)) := fun W hb => efind_any S v x o W (h.below hb) hm (hE.below hb) ho hx
  have HA : Hid (∀ W, Below w.heap.size w W → opErr x o = 0 → ∀ s c, x.place o = some (s, c) → Calls Tryz.prog 41 #[v.val, o.val, .agg #[.int .i64 (s : Int), .int .i64 (c : Int), .int .i64 (o.oth c)]] W fun e w' => ∃ v' : CV, e = .returned v'.val ∧ RdC (fun b => (S b ∧ b < w.heap.size) ∨ W.heap.size ≤ b) w' v' (opApply x o) ∧ Below W.heap.size W w') := fun W hb h0 s c hp => by
    obtain ⟨s', c', F⟩ := fits_of h0
    have e := F.place
    rw [hp] at e
    simp only [Option.some.injEq, Prod.mk.injEq] at e
    obtain ⟨rfl, rfl⟩ := e
    rw [F.apply]
    exact apply_any _ v x o s c W ((h.mono (fun b h1 h2 => ⟨h1, h2⟩)).below hb) F ho
  have HN : Hid (opErr x o ≠ 0 → opApply x o = Col.none) := opApply_none
  unfold FindPost at HF
  unfold EditPost
  generalize opApply x o = Y at *
  generalize opErr x o = E at *
  generalize x.place o = PL at *
  generalize Op.oth o = TH at *
  clear h hm hE ho hx
  obtain ⟨sec, sa, sn, sc, ta, tn, tc, ca, cn, cc⟩ := v
  obtain ⟨ok, og, ot, oo, ox⟩ := o
  change Calls _ _ #[.agg #[.string sec, .slice sa sn sc, .slice ta tn tc, .slice ca cn cc], .agg #[.int .i64 ok, .string og, .int .i64 ot, .int .i64 oo, .string ox]] _ _
  change Hid (∀ W, _ → Calls _ _ #[.agg #[.string sec, .slice sa sn sc, .slice ta tn tc, .slice ca cn cc], .agg #[.int .i64 ok, .string og, .int .i64 ot, .int .i64 oo, .string ox]] _ _) at HF
  change Hid (∀ W, _ → _ → ∀ (s c : Nat), _ → Calls _ _ #[.agg #[.string sec, .slice sa sn sc, .slice ta tn tc, .slice ca cn cc], .agg #[.int .i64 ok, .string og, .int .i64 ot, .int .i64 oo, .string ox], _] _ _) at HA
  obtain ⟨hb0, hsz, hC, hO, hP⟩ := box3 w #[.string sec, .slice sa sn sc, .slice ta tn tc, .slice ca cn cc] #[.int .i64 ok, .string og, .int .i64 ot, .int .i64 oo, .string ox] #[.string ⟨#[]⟩, .slice none 0 0, .slice none 0 0, .slice none 0 0] 26 28 26
  have hbx : (((w.alloc (.cells #[.string sec, .slice sa sn sc, .slice ta tn tc, .slice ca cn cc] 26)).alloc (.cells #[.int .i64 ok, .string og, .int .i64 ot, .int .i64 oo, .string ox] 28)).alloc (.cells #[.string ⟨#[]⟩, .slice none 0 0, .slice none 0 0, .slice none 0 0] 26)).heap[w.heap.size + 1 + 1]? = some (.cells #[.string ⟨#[]⟩, .slice none 0 0, .slice none 0 0, .slice none 0 0] 26 (0, 0)) := by
    have := World.alloc_heap_new ((w.alloc (.cells #[.string sec, .slice sa sn sc, .slice ta tn tc, .slice ca cn cc] 26)).alloc (.cells #[.int .i64 ok, .string og, .int .i64 ot, .int .i64 oo, .string ox] 28)) (.cells #[.string ⟨#[]⟩, .slice none 0 0, .slice none 0 0, .slice none 0 0] 26)
    simpa using this
  have c0 := hC 0 _ rfl
  have c1 := hC 1 _ rfl
  have c2 := hC 2 _ rfl
  have c3 := hC 3 _ rfl
  have o0 := hO 0 _ rfl
  have o1 := hO 1 _ rfl
  have o2 := hO 2 _ rfl
  have o3 := hO 3 _ rfl
  have o4 := hO 4 _ rfl
  have hsb : w.heap.size + 1 + 1 < (((w.alloc (.cells #[.string sec, .slice sa sn sc, .slice ta tn tc, .slice ca cn cc] 26)).alloc (.cells #[.int .i64 ok, .string og, .int .i64 ot, .int .i64 oo, .string ox] 28)).alloc (.cells #[.string ⟨#[]⟩, .slice none 0 0, .slice none 0 0, .slice none 0 0] 26)).heap.size := by simp
  have HFF := Lib.hid (HF.out _ hb0)
  clear hC hO hP
  go_enter Tryz.func14, Tryz.ntmps14
  go_wp2_with fail
  generalize ((w.alloc (.cells #[.string sec, .slice sa sn sc, .slice ta tn tc, .slice ca cn cc] 26)).alloc (.cells #[.int .i64 ok, .string og, .int .i64 ot, .int .i64 oo, .string ox] 28)).alloc (.cells #[.string ⟨#[]⟩, .slice none 0 0, .slice none 0 0, .slice none 0 0] 26) = W1 at *
  refine HFF.out.mono ?_
  rintro e W2 ⟨p, q, r, rfl, hF, hb2⟩
  have hb3 := hb0.trans (hb2.mono hb0.size)
  have hb4 : Below W2.heap.size W2 (W2.alloc (.cells #[.int .i64 p, .int .i64 q, .int .i64 r] 66)) := (Below.refl _ _).alloc (Nat.le_refl _) _
  have hb5 := hb2.trans (hb4.mono hb2.size)
  have gp := World.alloc_heap_new W2 (.cells #[.int .i64 p, .int .i64 q, .int .i64 r] 66)
  replace c0 := cell_later hb5 c0
  replace c1 := cell_later hb5 c1
  replace c2 := cell_later hb5 c2
  replace c3 := cell_later hb5 c3
  replace o0 := cell_later hb5 o0
  replace o1 := cell_later hb5 o1
  replace o2 := cell_later hb5 o2
  replace o3 := cell_later hb5 o3
  replace o4 := cell_later hb5 o4
  have gz := (hb5.block _ hsb).trans hbx
  have hb6 := hb0.trans (hb5.mono hb0.size)
  have hF2 := Lib.hid hF
  have HB6 := Lib.hid hb6
  have HGZ := Lib.hid gz
  clear hF HFF hb5 hb4 hb3 hb2 hb0 hbx hsz hb6
  obtain ⟨p0, p1, p2, -⟩ := box_cells3 gp
  obtain ⟨z0, z1, z2, z3, zf⟩ := box_cells4 gz
  have zf0 := zf 0
  have zf1 := zf 1
  have zf2 := zf 2
  have zf3 := zf 3
  clear zf gz gp
  by_cases h0 : E = 0
  · subst h0
    obtain ⟨s, c, hpl, rfl, rfl, rfl⟩ := hF2.out rfl
    have hWW : W2.heap.size < (W2.alloc (.cells #[.int .i64 (s : Int), .int .i64 (c : Int), .int .i64 (TH c)] 66)).heap.size := by simp
    have HAA := Lib.hid (HA.out _ HB6.out rfl s c hpl)
    clear z0 z1 z2 z3 zf0 zf1 zf2 zf3 hpl
    go_wp2_with fail
    generalize W2.alloc (.cells #[.int .i64 (s : Int), .int .i64 (c : Int), .int .i64 (TH c)] 66) = W3 at *
    refine HAA.out.mono ?_
    rintro e W4 ⟨v', he, hR, hb7⟩
    obtain ⟨sec', sa', sn', sc', ta', tn', tc', ca', cn', cc'⟩ := v'
    change e = .returned (.agg #[.string sec', .slice sa' sn' sc', .slice ta' tn' tc', .slice ca' cn' cc']) at he
    subst he
    have hlt : w.heap.size + 1 + 1 < W3.heap.size := (Array.getElem?_eq_some_iff.1 HGZ.out).1
    have gz4 := (hb7.block _ hlt).trans HGZ.out
    obtain ⟨z0, z1, z2, z3, zf⟩ := box_cells4 gz4
    have zf0 := zf 0
    have zf1 := zf 1
    have zf2 := zf 2
    have zf3 := zf 3
    have HR := Lib.hid hR
    have HB7 := Lib.hid hb7
    have HG4 := Lib.hid gz4
    clear zf gz4 hR hb7 HAA c0 c1 c2 c3 o0 o1 o2 o3 o4 p0 p1 p2
    go_wp2
    obtain ⟨r0, r1, r2, r3, -⟩ := box_cells4 (put4_at HG4.out (.string sec') (.slice sa' sn' sc') (.slice ta' tn' tc') (.slice ca' cn' cc'))
    have hbf : Below w.heap.size w (put4 W4 (w.heap.size + 1 + 1) (.string sec') (.slice sa' sn' sc') (.slice ta' tn' tc') (.slice ca' cn' cc')) := put4_below (HB6.out.trans (HB7.out.mono HB6.out.size)) (by omega) _ _ _ _
    have hRf := HR.out.keep (w' := put4 W4 (w.heap.size + 1 + 1) (.string sec') (.slice sa' sn' sc') (.slice ta' tn' tc') (.slice ca' cn' cc')) (put4_keep (by rintro (⟨-, q⟩ | q) <;> omega) _ _ _ _)
    change bodyPost _ _ _ _ _ (put4 W4 (w.heap.size + 1 + 1) (.string sec') (.slice sa' sn' sc') (.slice ta' tn' tc') (.slice ca' cn' cc'))
    generalize put4 W4 (w.heap.size + 1 + 1) (.string sec') (.slice sa' sn' sc') (.slice ta' tn' tc') (.slice ca' cn' cc') = WF at *
    exact bodyPost_ret (v := .tuple #[.agg #[.string sec', .slice sa' sn' sc', .slice ta' tn' tc', .slice ca' cn' cc'], .int .i64 0]) (by simp [results, Tryz.results14, go_sem, r0, r1, r2, r3]) rfl
      ⟨⟨sec', sa', sn', sc', ta', tn', tc', ca', cn', cc'⟩, rfl, hRf.mono (fun b hb _ => hb.elim (fun q => .inl q.1) (fun q => .inr (by omega))), hbf⟩
  · have t0 : ((E : Int) != 0) = true := by simpa using h0
    have HNN := Lib.hid (HN.out h0)
    clear HN HA hF2 h0
    go_wp2
    obtain ⟨r0, r1, r2, r3, -⟩ := box_cells4 (put4_at HGZ.out (.string ⟨#[]⟩) (.slice none 0 0) (.slice none 0 0) (.slice none 0 0))
    have hbf : Below w.heap.size w (put4 (W2.alloc (.cells #[.int .i64 p, .int .i64 q, .int .i64 r] 66)) (w.heap.size + 1 + 1) (.string ⟨#[]⟩) (.slice none 0 0) (.slice none 0 0) (.slice none 0 0)) := put4_below HB6.out (by omega) _ _ _ _
    change bodyPost _ _ _ _ _ (put4 (W2.alloc (.cells #[.int .i64 p, .int .i64 q, .int .i64 r] 66)) (w.heap.size + 1 + 1) (.string ⟨#[]⟩) (.slice none 0 0) (.slice none 0 0) (.slice none 0 0))
    generalize put4 (W2.alloc (.cells #[.int .i64 p, .int .i64 q, .int .i64 r] 66)) (w.heap.size + 1 + 1) (.string ⟨#[]⟩) (.slice none 0 0) (.slice none 0 0) (.slice none 0 0) = WF at *
    exact bodyPost_ret (v := .tuple #[.agg #[.string ⟨#[]⟩, .slice none 0 0, .slice none 0 0, .slice none 0 0], .int .i64 E]) (by simp [results, Tryz.results14, go_sem, r0, r1, r2, r3]) rfl ⟨⟨⟨#[]⟩, none, 0, 0, none, 0, 0, none, 0, 0⟩, rfl, by rw [HNN.out]; exact RdC.none _ _, hbf⟩
end Go.Proofs.YtbdgmgddliploaaGreatDoor
