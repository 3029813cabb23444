/- Joined: EEdi, ESml. -/
import Derived.Test.YtbdgmgddliploaaGreatDoorG20
import Derived.Test.YtbdgmgddliploaaGreatDoorG13
set_option linter.unusedVariables false
set_option linter.unusedSimpArgs false
set_option maxRecDepth 100000
set_option maxHeartbeats 16000000
namespace Go.Proofs.YtbdgmgddliploaaGreatDoor
open Go.RowKit

theorem apply_any (S : Nat -> Prop) (v : CV) (x : Col) (o : Op) (s c : Nat) (w : World) (h : RdC S w v x) (F : Fits x o s c) (ho : o.ok) :
    Calls Tryz.prog 41 #[v.val, o.val, .agg #[.int .i64 (s : Int), .int .i64 (c : Int), .int .i64 (o.oth c)]] w (ApplyPost S x o s c w) := by
  have h4 : o.kind = 1 \/ o.kind = 2 \/ o.kind = 3 \/ o.kind = 4 := by have := F.kind; omega
  rcases h4 with k | k | k | k
  · exact apply_1 S v x o s c w h F k
  · exact apply_2 S v x o s c w h F k
  · exact apply_3 S v x o s c w h F k
  · exact apply_4 S v x o s c w h F k ho
theorem echeck_any (S : Nat -> Prop) (v : CV) (x : Col) (o : Op) (w : World) (h : RdC S w v x) (hm : Sml x) (hE : Env w) (ho : o.ok) (hx : o.text.size <= 1000000) :
    Calls Tryz.prog 18 #[v.val, o.val] w fun e w' => e = .returned (.int .i64 (opErr x o)) /\ Below w.heap.size w w' := by
  have HF : Hid (∀ W, Below w.heap.size w W -> Calls Tryz.prog 40 #[v.val, o.val] W (FindPost x o W)) := fun W hb => efind_any S v x o W (h.below hb) hm (hE.below hb) ho hx
  unfold FindPost at HF
  generalize opErr x o = E at *
  generalize x.place o = PL at *
  generalize Op.oth o = TH at *
  clear h hm hE ho hx
  obtain ⟨sec, sa, sn, sc, ta, tn, tc, ca, cn, cc⟩ := v
  obtain ⟨ok, og, ot, oo, ox⟩ := o
  change Calls _ _ #[.agg #[.string sec, .slice sa sn sc, .slice ta tn tc, .slice ca cn cc], .agg #[.int .i64 ok, .string og, .int .i64 ot, .int .i64 oo, .string ox]] _ _
  change Hid (∀ W, _ -> Calls _ _ #[.agg #[.string sec, .slice sa sn sc, .slice ta tn tc, .slice ca cn cc], .agg #[.int .i64 ok, .string og, .int .i64 ot, .int .i64 oo, .string ox]] _ _) at HF
  have hb0 : Below w.heap.size w ((w.alloc (.cells #[.string sec, .slice sa sn sc, .slice ta tn tc, .slice ca cn cc] 26)).alloc (.cells #[.int .i64 ok, .string og, .int .i64 ot, .int .i64 oo, .string ox] 28)) := ((Below.refl _ _).alloc (Nat.le_refl _) _).alloc (by simp) _
  have HFF := hiq (HF.out _ hb0)
  go_enter Tryz.func18, Tryz.ntmps18
  go_wp2_with fail
  generalize (w.alloc (.cells #[.string sec, .slice sa sn sc, .slice ta tn tc, .slice ca cn cc] 26)).alloc (.cells #[.int .i64 ok, .string og, .int .i64 ot, .int .i64 oo, .string ox] 28) = W1 at *
  refine HFF.out.mono ?_
  rintro e W2 ⟨p, q, r, rfl, -, hb2⟩
  have hb3 := hb0.trans (hb2.mono hb0.size)
  have hb4 : Below w.heap.size w (W2.alloc (.cells #[.int .i64 p, .int .i64 q, .int .i64 r] 66)) := hb3.alloc hb3.size _
  go_wp2
  go_ret
  exact ⟨rfl, hb4⟩
theorem RdC.none (S : Nat -> Prop) (w : World) : RdC S w ⟨⟨#[]⟩, Option.none, 0, 0, Option.none, 0, 0, Option.none, 0, 0⟩ Col.none :=
  ⟨rfl, by show 0 <= _; omega, Sq.nil _ _ _ _ _, Sq.nil _ _ _ _ _, Sq.nil _ _ _ _ _⟩
theorem opApply_none {x : Col} {o : Op} (h : opErr x o ≠ 0) : opApply x o = Col.none := by unfold opApply; rw [if_neg h]
def EditPost (S : Nat -> Prop) (x : Col) (o : Op) (w : World) (e : Ending) (w' : World) : Prop :=
  ∃ v' : CV, e = .returned (.tuple #[v'.val, .int .i64 (opErr x o)]) /\ RdC (fun b => S b \/ w.heap.size <= b) w' v' (opApply x o) /\ Below w.heap.size w w'
theorem edit_any (S : Nat -> Prop) (v : CV) (x : Col) (o : Op) (w : World) (h : RdC S w v x) (hm : Sml x) (hE : Env w) (ho : o.ok) (hx : o.text.size <= 1000000) :
    Calls Tryz.prog 14 #[v.val, o.val] w (EditPost S x o w) := by
  have HF : Hid (∀ W, Below w.heap.size w W -> Calls Tryz.prog 40 #[v.val, o.val] W (FindPost x o W)) := fun W hb => efind_any S v x o W (h.below hb) hm (hE.below hb) ho hx
  have HA : Hid (∀ W, Below w.heap.size w W -> opErr x o = 0 -> ∀ s c, x.place o = some (s, c) -> Calls Tryz.prog 41 #[v.val, o.val, .agg #[.int .i64 (s : Int), .int .i64 (c : Int), .int .i64 (o.oth c)]] W fun e w' => ∃ v' : CV, e = .returned v'.val /\ RdC (fun b => (S b /\ b < w.heap.size) \/ W.heap.size <= b) w' v' (opApply x o) /\ Below W.heap.size W w') := fun W hb h0 s c hp => by
    obtain ⟨s', c', F⟩ := fits_of h0
    have e := F.place
    rw [hp] at e
    simp only [Option.some.injEq, Prod.mk.injEq] at e
    obtain ⟨rfl, rfl⟩ := e
    rw [F.apply]
    exact apply_any _ v x o s c W ((h.mono (fun b h1 h2 => ⟨h1, h2⟩)).below hb) F ho
  have HN : Hid (opErr x o ≠ 0 -> opApply x o = Col.none) := opApply_none
  unfold FindPost at HF
  unfold EditPost
  generalize opApply x o = Y at *
  generalize opErr x o = E at *
  generalize x.place o = PL at *
  generalize Op.oth o = TH at *
  clear h hm hE ho hx
  obtain ⟨sec, sa, sn, sc, ta, tn, tc, ca, cn, cc⟩ := v
  obtain ⟨ok, og, ot, oo, ox⟩ := o
  change Calls _ _ #[.agg #[.string sec, .slice sa sn sc, .slice ta tn tc, .slice ca cn cc], .agg #[.int .i64 ok, .string og, .int .i64 ot, .int .i64 oo, .string ox]] _ _
  change Hid (∀ W, _ -> Calls _ _ #[.agg #[.string sec, .slice sa sn sc, .slice ta tn tc, .slice ca cn cc], .agg #[.int .i64 ok, .string og, .int .i64 ot, .int .i64 oo, .string ox]] _ _) at HF
  change Hid (∀ W, _ -> _ -> ∀ (s c : Nat), _ -> Calls _ _ #[.agg #[.string sec, .slice sa sn sc, .slice ta tn tc, .slice ca cn cc], .agg #[.int .i64 ok, .string og, .int .i64 ot, .int .i64 oo, .string ox], _] _ _) at HA
  obtain ⟨hb0, hsz, hC, hO, hP⟩ := box3 w #[.string sec, .slice sa sn sc, .slice ta tn tc, .slice ca cn cc] #[.int .i64 ok, .string og, .int .i64 ot, .int .i64 oo, .string ox] #[.string ⟨#[]⟩, .slice none 0 0, .slice none 0 0, .slice none 0 0] 26 28 26
  have hbx : (((w.alloc (.cells #[.string sec, .slice sa sn sc, .slice ta tn tc, .slice ca cn cc] 26)).alloc (.cells #[.int .i64 ok, .string og, .int .i64 ot, .int .i64 oo, .string ox] 28)).alloc (.cells #[.string ⟨#[]⟩, .slice none 0 0, .slice none 0 0, .slice none 0 0] 26)).heap[w.heap.size + 1 + 1]? = some (.cells #[.string ⟨#[]⟩, .slice none 0 0, .slice none 0 0, .slice none 0 0] 26 (0, 0)) := by
    have := World.alloc_heap_new ((w.alloc (.cells #[.string sec, .slice sa sn sc, .slice ta tn tc, .slice ca cn cc] 26)).alloc (.cells #[.int .i64 ok, .string og, .int .i64 ot, .int .i64 oo, .string ox] 28)) (.cells #[.string ⟨#[]⟩, .slice none 0 0, .slice none 0 0, .slice none 0 0] 26)
    simpa using this
  have c0 := hC 0 _ rfl
  have c1 := hC 1 _ rfl
  have c2 := hC 2 _ rfl
  have c3 := hC 3 _ rfl
  have o0 := hO 0 _ rfl
  have o1 := hO 1 _ rfl
  have o2 := hO 2 _ rfl
  have o3 := hO 3 _ rfl
  have o4 := hO 4 _ rfl
  have hsb : w.heap.size + 1 + 1 < (((w.alloc (.cells #[.string sec, .slice sa sn sc, .slice ta tn tc, .slice ca cn cc] 26)).alloc (.cells #[.int .i64 ok, .string og, .int .i64 ot, .int .i64 oo, .string ox] 28)).alloc (.cells #[.string ⟨#[]⟩, .slice none 0 0, .slice none 0 0, .slice none 0 0] 26)).heap.size := by simp
  have HFF := hiq (HF.out _ hb0)
  clear hC hO hP
  go_enter Tryz.func14, Tryz.ntmps14
  go_wp2_with fail
  generalize ((w.alloc (.cells #[.string sec, .slice sa sn sc, .slice ta tn tc, .slice ca cn cc] 26)).alloc (.cells #[.int .i64 ok, .string og, .int .i64 ot, .int .i64 oo, .string ox] 28)).alloc (.cells #[.string ⟨#[]⟩, .slice none 0 0, .slice none 0 0, .slice none 0 0] 26) = W1 at *
  refine HFF.out.mono ?_
  rintro e W2 ⟨p, q, r, rfl, hF, hb2⟩
  have hb3 := hb0.trans (hb2.mono hb0.size)
  have hb4 : Below W2.heap.size W2 (W2.alloc (.cells #[.int .i64 p, .int .i64 q, .int .i64 r] 66)) := (Below.refl _ _).alloc (Nat.le_refl _) _
  have hb5 := hb2.trans (hb4.mono hb2.size)
  have gp := World.alloc_heap_new W2 (.cells #[.int .i64 p, .int .i64 q, .int .i64 r] 66)
  replace c0 := clq hb5 c0; replace c1 := clq hb5 c1; replace c2 := clq hb5 c2; replace c3 := clq hb5 c3; replace o0 := clq hb5 o0; replace o1 := clq hb5 o1; replace o2 := clq hb5 o2; replace o3 := clq hb5 o3; replace o4 := clq hb5 o4
  have gz := (hb5.block _ hsb).trans hbx
  have hb6 := hb0.trans (hb5.mono hb0.size)
  have hF2 := hiq hF
  have HB6 := hiq hb6
  have HGZ := hiq gz
  clear hF HFF hb5 hb4 hb3 hb2 hb0 hbx hsz hb6
  obtain ⟨p0, p1, p2, -⟩ := box_cells3 gp
  obtain ⟨z0, z1, z2, z3, zf⟩ := box_cells4 gz
  have zf0 := zf 0
  have zf1 := zf 1
  have zf2 := zf 2
  have zf3 := zf 3
  clear zf gz gp
  by_cases h0 : E = 0
  · subst h0
    obtain ⟨s, c, hpl, rfl, rfl, rfl⟩ := hF2.out rfl
    have hWW : W2.heap.size < (W2.alloc (.cells #[.int .i64 (s : Int), .int .i64 (c : Int), .int .i64 (TH c)] 66)).heap.size := by simp
    have HAA := hiq (HA.out _ HB6.out rfl s c hpl)
    clear z0 z1 z2 z3 zf0 zf1 zf2 zf3 hpl
    go_wp2_with fail
    generalize W2.alloc (.cells #[.int .i64 (s : Int), .int .i64 (c : Int), .int .i64 (TH c)] 66) = W3 at *
    refine HAA.out.mono ?_
    rintro e W4 ⟨v', he, hR, hb7⟩
    obtain ⟨sec', sa', sn', sc', ta', tn', tc', ca', cn', cc'⟩ := v'
    change e = .returned (.agg #[.string sec', .slice sa' sn' sc', .slice ta' tn' tc', .slice ca' cn' cc']) at he
    subst he
    have hlt : w.heap.size + 1 + 1 < W3.heap.size := (Array.getElem?_eq_some_iff.1 HGZ.out).1
    have gz4 := (hb7.block _ hlt).trans HGZ.out
    obtain ⟨z0, z1, z2, z3, zf⟩ := box_cells4 gz4
    have zf0 := zf 0
    have zf1 := zf 1
    have zf2 := zf 2
    have zf3 := zf 3
    have HR := hiq hR
    have HB7 := hiq hb7
    have HG4 := hiq gz4
    clear zf gz4 hR hb7 HAA c0 c1 c2 c3 o0 o1 o2 o3 o4 p0 p1 p2
    go_wp2
    obtain ⟨r0, r1, r2, r3, -⟩ := box_cells4 (put4_at HG4.out (.string sec') (.slice sa' sn' sc') (.slice ta' tn' tc') (.slice ca' cn' cc'))
    have hbf : Below w.heap.size w (put4 W4 (w.heap.size + 1 + 1) (.string sec') (.slice sa' sn' sc') (.slice ta' tn' tc') (.slice ca' cn' cc')) := put4_below (HB6.out.trans (HB7.out.mono HB6.out.size)) (by omega) _ _ _ _
    have hRf := HR.out.keep (w' := put4 W4 (w.heap.size + 1 + 1) (.string sec') (.slice sa' sn' sc') (.slice ta' tn' tc') (.slice ca' cn' cc')) (put4_keep (by rintro (⟨-, q⟩ | q) <;> omega) _ _ _ _)
    change bodyPost _ _ _ _ _ (put4 W4 (w.heap.size + 1 + 1) (.string sec') (.slice sa' sn' sc') (.slice ta' tn' tc') (.slice ca' cn' cc'))
    generalize put4 W4 (w.heap.size + 1 + 1) (.string sec') (.slice sa' sn' sc') (.slice ta' tn' tc') (.slice ca' cn' cc') = WF at *
    exact bodyPost_ret (v := .tuple #[.agg #[.string sec', .slice sa' sn' sc', .slice ta' tn' tc', .slice ca' cn' cc'], .int .i64 0]) (by simp [results, Tryz.results14, go_sem, r0, r1, r2, r3]) rfl
      ⟨⟨sec', sa', sn', sc', ta', tn', tc', ca', cn', cc'⟩, rfl, hRf.mono (fun b hb _ => hb.elim (fun q => .inl q.1) (fun q => .inr (by omega))), hbf⟩
  · have t0 : ((E : Int) != 0) = true := by simpa using h0
    have HNN := hiq (HN.out h0)
    clear HN HA hF2 h0
    go_wp2
    obtain ⟨r0, r1, r2, r3, -⟩ := box_cells4 (put4_at HGZ.out (.string ⟨#[]⟩) (.slice none 0 0) (.slice none 0 0) (.slice none 0 0))
    have hbf : Below w.heap.size w (put4 (W2.alloc (.cells #[.int .i64 p, .int .i64 q, .int .i64 r] 66)) (w.heap.size + 1 + 1) (.string ⟨#[]⟩) (.slice none 0 0) (.slice none 0 0) (.slice none 0 0)) := put4_below HB6.out (by omega) _ _ _ _
    change bodyPost _ _ _ _ _ (put4 (W2.alloc (.cells #[.int .i64 p, .int .i64 q, .int .i64 r] 66)) (w.heap.size + 1 + 1) (.string ⟨#[]⟩) (.slice none 0 0) (.slice none 0 0) (.slice none 0 0))
    generalize put4 (W2.alloc (.cells #[.int .i64 p, .int .i64 q, .int .i64 r] 66)) (w.heap.size + 1 + 1) (.string ⟨#[]⟩) (.slice none 0 0) (.slice none 0 0) (.slice none 0 0) = WF at *
    exact bodyPost_ret (v := .tuple #[.agg #[.string ⟨#[]⟩, .slice none 0 0, .slice none 0 0, .slice none 0 0], .int .i64 E]) (by simp [results, Tryz.results14, go_sem, r0, r1, r2, r3]) rfl ⟨⟨⟨#[]⟩, none, 0, 0, none, 0, 0, none, 0, 0⟩, rfl, by rw [HNN.out]; exact RdC.none _ _, hbf⟩
end Go.Proofs.YtbdgmgddliploaaGreatDoor
namespace Go.Proofs.YtbdgmgddliploaaGreatDoor
open Go.RowKit

theorem tks_le {x : Col} {m : Nat} (h : ∀ r ∈ x.toks, r.length <= m) (i : Nat) : (x.tks i).length <= m := by
  unfold Col.tks
  by_cases hi : i < x.toks.length
  · rw [List.getElem?_eq_getElem hi]; exact h _ (List.getElem_mem hi)
  · rw [List.getElem?_eq_none (by omega)]; simp
theorem ops_small {x : Col} (hv : x.err = 0) (hl : ∀ i, (x.tks i).length <= 6) : (allOps x).length <= 4096 := by
  have h1 := ops_len x
  have h2 := sumTo_le (f := fun i => 4 * (x.tks i).length) (m := 24) (n := x.sigla.length) (fun s _ => by have := hl s; omega)
  have h3 := (err_iff.1 hv).1.most
  omega
theorem great_ops {x : Col} (hg : great x = false) (hv : x.err = 0) : (allOps x).length <= 4096 := ops_small hv (fun i => tks_le (great_len hg) i)
theorem great_opsY {x : Col} {o : Op} (hg : great x = false) (hz : opErr x o = 0) : (allOps (opApply x o)).length <= 4096 := by
  obtain ⟨s, c, F⟩ := fits_of hz
  rw [F.apply]
  exact ops_small (valid_op F) (fun i => by rw [tks_op]; exact tks_le (great_len hg) i)
theorem sml_op {x : Col} {o : Op} (hm : Sml x) (hx : o.text.size <= 1000000) : Sml (opApply x o) := by
  by_cases h0 : opErr x o = 0
  · obtain ⟨s, c, F⟩ := fits_of h0
    rw [F.apply]
    refine ⟨hm.1, fun r hr t ht => ?_⟩
    have hs : s < x.toks.length := by rw [F.heads.len]; exact F.ks
    have hr' : r ∈ opToks x o s := hr
    unfold opToks at hr'
    split at hr'
    · rcases List.mem_or_eq_of_mem_set hr' with h | rfl
      · exact hm.2 r h t ht
      · rcases List.mem_or_eq_of_mem_set ht with h | rfl
        · exact hm.2 _ (tks_mem hs) t h
        · exact ⟨(hm.2 _ (tks_mem hs) _ (tk_mem F.t0 F.t1)).1, hx⟩
    · exact hm.2 r hr' t ht
  · rw [opApply_none h0]; exact ⟨by simp [Col.none], by simp [Col.none]⟩
theorem apply_valid {x : Col} {o : Op} (hz : opErr x o = 0) : (opApply x o).err = 0 /\ (opApply x o).sec = x.sec /\ (opApply x o).sigla = x.sigla /\ ∀ i, ((opApply x o).tks i).map Tok.text = (x.tks i).map Tok.text := by
  obtain ⟨s, c, F⟩ := fits_of hz
  rw [F.apply]
  exact ⟨valid_op F, rfl, rfl, texts_op x o s c⟩
end Go.Proofs.YtbdgmgddliploaaGreatDoor
