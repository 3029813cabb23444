/- Joined: EEdi, ESam3. -/
import Derived.Test.YtbdgmgddliploaaGreatDoorJ20
import Derived.Test.YtbdgmgddliploaaGreatDoorJ09
import Derived.Laws.StructEq
import Derived.Test.YtbdgmgddliploaaGreatDoorJ12
import Derived.Test.YtbdgmgddliploaaGreatDoorJ13
set_option linter.unusedVariables false
set_option linter.unusedSimpArgs false
set_option maxRecDepth 100000
set_option maxHeartbeats 16000000
namespace Go.Proofs.YtbdgmgddliploaaGreatDoor
open Go.RowKit

theorem apply_any (S : Nat -> Prop) (v : CV) (x : Col) (o : Op) (s c : Nat) (w : World) (h : RdC S w v x) (F : Fits x o s c) (ho : o.ok) :
    Calls Tryz.prog 41 #[v.val, o.val, .agg #[.int .i64 (s : Int), .int .i64 (c : Int), .int .i64 (o.oth c)]] w (ApplyPost S x o s c w) := by
  have h4 : o.kind = 1 \/ o.kind = 2 \/ o.kind = 3 \/ o.kind = 4 := by have := F.kind; omega
  rcases h4 with k | k | k | k
  · exact apply_1 S v x o s c w h F k
  · exact apply_2 S v x o s c w h F k
  · exact apply_3 S v x o s c w h F k
  · exact apply_4 S v x o s c w h F k ho
theorem echeck_any (S : Nat -> Prop) (v : CV) (x : Col) (o : Op) (w : World) (h : RdC S w v x) (hm : Sml x) (hE : Env w) (ho : o.ok) (hx : o.text.size <= 1000000) :
    Calls Tryz.prog 18 #[v.val, o.val] w fun e w' => e = .returned (.int .i64 (opErr x o)) /\ Below w.heap.size w w' := by
  have HF : Hid (∀ W, Below w.heap.size w W -> Calls Tryz.prog 40 #[v.val, o.val] W (FindPost x o W)) := fun W hb => efind_any S v x o W (h.below hb) hm (hE.below hb) ho hx
  unfold FindPost at HF
  generalize opErr x o = E at *
  generalize x.place o = PL at *
  generalize Op.oth o = TH at *
  clear h hm hE ho hx
  obtain ⟨sec, sa, sn, sc, ta, tn, tc, ca, cn, cc⟩ := v
  obtain ⟨ok, og, ot, oo, ox⟩ := o
  change Calls _ _ #[.agg #[.string sec, .slice sa sn sc, .slice ta tn tc, .slice ca cn cc], .agg #[.int .i64 ok, .string og, .int .i64 ot, .int .i64 oo, .string ox]] _ _
  change Hid (∀ W, _ -> Calls _ _ #[.agg #[.string sec, .slice sa sn sc, .slice ta tn tc, .slice ca cn cc], .agg #[.int .i64 ok, .string og, .int .i64 ot, .int .i64 oo, .string ox]] _ _) at HF
  have hb0 : Below w.heap.size w ((w.alloc (.cells #[.string sec, .slice sa sn sc, .slice ta tn tc, .slice ca cn cc] 26)).alloc (.cells #[.int .i64 ok, .string og, .int .i64 ot, .int .i64 oo, .string ox] 28)) := ((Below.refl _ _).alloc (Nat.le_refl _) _).alloc (by simp) _
  have HFF := hiq (HF.out _ hb0)
  go_enter Tryz.func18, Tryz.ntmps18
  go_wp2_with fail
  generalize (w.alloc (.cells #[.string sec, .slice sa sn sc, .slice ta tn tc, .slice ca cn cc] 26)).alloc (.cells #[.int .i64 ok, .string og, .int .i64 ot, .int .i64 oo, .string ox] 28) = W1 at *
  refine HFF.out.mono ?_
  rintro e W2 ⟨p, q, r, rfl, -, hb2⟩
  have hb3 := hb0.trans (hb2.mono hb0.size)
  have hb4 : Below w.heap.size w (W2.alloc (.cells #[.int .i64 p, .int .i64 q, .int .i64 r] 66)) := hb3.alloc hb3.size _
  go_wp2
  go_ret
  exact ⟨rfl, hb4⟩
theorem RdC.none (S : Nat -> Prop) (w : World) : RdC S w ⟨⟨#[]⟩, Option.none, 0, 0, Option.none, 0, 0, Option.none, 0, 0⟩ Col.none :=
  ⟨rfl, by show 0 <= _; omega, Sq.nil _ _ _ _ _, Sq.nil _ _ _ _ _, Sq.nil _ _ _ _ _⟩
theorem opApply_none {x : Col} {o : Op} (h : opErr x o ≠ 0) : opApply x o = Col.none := by unfold opApply; rw [if_neg h]
def EditPost (S : Nat -> Prop) (x : Col) (o : Op) (w : World) (e : Ending) (w' : World) : Prop :=
  ∃ v' : CV, e = .returned (.tuple #[v'.val, .int .i64 (opErr x o)]) /\ RdC (fun b => S b \/ w.heap.size <= b) w' v' (opApply x o) /\ Below w.heap.size w w'
theorem edit_any (S : Nat -> Prop) (v : CV) (x : Col) (o : Op) (w : World) (h : RdC S w v x) (hm : Sml x) (hE : Env w) (ho : o.ok) (hx : o.text.size <= 1000000) :
    Calls Tryz.prog 14 #[v.val, o.val] w (EditPost S x o w) := by
  have HF : Hid (∀ W, Below w.heap.size w W -> Calls Tryz.prog 40 #[v.val, o.val] W (FindPost x o W)) := fun W hb => efind_any S v x o W (h.below hb) hm (hE.below hb) ho hx
  have HA : Hid (∀ W, Below w.heap.size w W -> opErr x o = 0 -> ∀ s c, x.place o = some (s, c) -> Calls Tryz.prog 41 #[v.val, o.val, .agg #[.int .i64 (s : Int), .int .i64 (c : Int), .int .i64 (o.oth c)]] W fun e w' => ∃ v' : CV, e = .returned v'.val /\ RdC (fun b => (S b /\ b < w.heap.size) \/ W.heap.size <= b) w' v' (opApply x o) /\ Below W.heap.size W w') := fun W hb h0 s c hp => by
    obtain ⟨s', c', F⟩ := fits_of h0
    have e := F.place
    rw [hp] at e
    simp only [Option.some.injEq, Prod.mk.injEq] at e
    obtain ⟨rfl, rfl⟩ := e
    rw [F.apply]
    exact apply_any _ v x o s c W ((h.mono (fun b h1 h2 => ⟨h1, h2⟩)).below hb) F ho
  have HN : Hid (opErr x o ≠ 0 -> opApply x o = Col.none) := opApply_none
  unfold FindPost at HF
  unfold EditPost
  generalize opApply x o = Y at *
  generalize opErr x o = E at *
  generalize x.place o = PL at *
  generalize Op.oth o = TH at *
  clear h hm hE ho hx
  obtain ⟨sec, sa, sn, sc, ta, tn, tc, ca, cn, cc⟩ := v
  obtain ⟨ok, og, ot, oo, ox⟩ := o
  change Calls _ _ #[.agg #[.string sec, .slice sa sn sc, .slice ta tn tc, .slice ca cn cc], .agg #[.int .i64 ok, .string og, .int .i64 ot, .int .i64 oo, .string ox]] _ _
  change Hid (∀ W, _ -> Calls _ _ #[.agg #[.string sec, .slice sa sn sc, .slice ta tn tc, .slice ca cn cc], .agg #[.int .i64 ok, .string og, .int .i64 ot, .int .i64 oo, .string ox]] _ _) at HF
  change Hid (∀ W, _ -> _ -> ∀ (s c : Nat), _ -> Calls _ _ #[.agg #[.string sec, .slice sa sn sc, .slice ta tn tc, .slice ca cn cc], .agg #[.int .i64 ok, .string og, .int .i64 ot, .int .i64 oo, .string ox], _] _ _) at HA
  obtain ⟨hb0, hsz, hC, hO, hP⟩ := box3 w #[.string sec, .slice sa sn sc, .slice ta tn tc, .slice ca cn cc] #[.int .i64 ok, .string og, .int .i64 ot, .int .i64 oo, .string ox] #[.string ⟨#[]⟩, .slice none 0 0, .slice none 0 0, .slice none 0 0] 26 28 26
  have hbx : (((w.alloc (.cells #[.string sec, .slice sa sn sc, .slice ta tn tc, .slice ca cn cc] 26)).alloc (.cells #[.int .i64 ok, .string og, .int .i64 ot, .int .i64 oo, .string ox] 28)).alloc (.cells #[.string ⟨#[]⟩, .slice none 0 0, .slice none 0 0, .slice none 0 0] 26)).heap[w.heap.size + 1 + 1]? = some (.cells #[.string ⟨#[]⟩, .slice none 0 0, .slice none 0 0, .slice none 0 0] 26 (0, 0)) := by
    have := World.alloc_heap_new ((w.alloc (.cells #[.string sec, .slice sa sn sc, .slice ta tn tc, .slice ca cn cc] 26)).alloc (.cells #[.int .i64 ok, .string og, .int .i64 ot, .int .i64 oo, .string ox] 28)) (.cells #[.string ⟨#[]⟩, .slice none 0 0, .slice none 0 0, .slice none 0 0] 26)
    simpa using this
  have c0 := hC 0 _ rfl
  have c1 := hC 1 _ rfl
  have c2 := hC 2 _ rfl
  have c3 := hC 3 _ rfl
  have o0 := hO 0 _ rfl
  have o1 := hO 1 _ rfl
  have o2 := hO 2 _ rfl
  have o3 := hO 3 _ rfl
  have o4 := hO 4 _ rfl
  have hsb : w.heap.size + 1 + 1 < (((w.alloc (.cells #[.string sec, .slice sa sn sc, .slice ta tn tc, .slice ca cn cc] 26)).alloc (.cells #[.int .i64 ok, .string og, .int .i64 ot, .int .i64 oo, .string ox] 28)).alloc (.cells #[.string ⟨#[]⟩, .slice none 0 0, .slice none 0 0, .slice none 0 0] 26)).heap.size := by simp
  have HFF := hiq (HF.out _ hb0)
  clear hC hO hP
  go_enter Tryz.func14, Tryz.ntmps14
  go_wp2_with fail
  generalize ((w.alloc (.cells #[.string sec, .slice sa sn sc, .slice ta tn tc, .slice ca cn cc] 26)).alloc (.cells #[.int .i64 ok, .string og, .int .i64 ot, .int .i64 oo, .string ox] 28)).alloc (.cells #[.string ⟨#[]⟩, .slice none 0 0, .slice none 0 0, .slice none 0 0] 26) = W1 at *
  refine HFF.out.mono ?_
  rintro e W2 ⟨p, q, r, rfl, hF, hb2⟩
  have hb3 := hb0.trans (hb2.mono hb0.size)
  have hb4 : Below W2.heap.size W2 (W2.alloc (.cells #[.int .i64 p, .int .i64 q, .int .i64 r] 66)) := (Below.refl _ _).alloc (Nat.le_refl _) _
  have hb5 := hb2.trans (hb4.mono hb2.size)
  have gp := World.alloc_heap_new W2 (.cells #[.int .i64 p, .int .i64 q, .int .i64 r] 66)
  replace c0 := clq hb5 c0; replace c1 := clq hb5 c1; replace c2 := clq hb5 c2; replace c3 := clq hb5 c3; replace o0 := clq hb5 o0; replace o1 := clq hb5 o1; replace o2 := clq hb5 o2; replace o3 := clq hb5 o3; replace o4 := clq hb5 o4
  have gz := (hb5.block _ hsb).trans hbx
  have hb6 := hb0.trans (hb5.mono hb0.size)
  have hF2 := hiq hF
  have HB6 := hiq hb6
  have HGZ := hiq gz
  clear hF HFF hb5 hb4 hb3 hb2 hb0 hbx hsz hb6
  obtain ⟨p0, p1, p2, -⟩ := box_cells3 gp
  obtain ⟨z0, z1, z2, z3, zf⟩ := box_cells4 gz
  have zf0 := zf 0
  have zf1 := zf 1
  have zf2 := zf 2
  have zf3 := zf 3
  clear zf gz gp
  by_cases h0 : E = 0
  · subst h0
    obtain ⟨s, c, hpl, rfl, rfl, rfl⟩ := hF2.out rfl
    have hWW : W2.heap.size < (W2.alloc (.cells #[.int .i64 (s : Int), .int .i64 (c : Int), .int .i64 (TH c)] 66)).heap.size := by simp
    have HAA := hiq (HA.out _ HB6.out rfl s c hpl)
    clear z0 z1 z2 z3 zf0 zf1 zf2 zf3 hpl
    go_wp2_with fail
    generalize W2.alloc (.cells #[.int .i64 (s : Int), .int .i64 (c : Int), .int .i64 (TH c)] 66) = W3 at *
    refine HAA.out.mono ?_
    rintro e W4 ⟨v', he, hR, hb7⟩
    obtain ⟨sec', sa', sn', sc', ta', tn', tc', ca', cn', cc'⟩ := v'
    change e = .returned (.agg #[.string sec', .slice sa' sn' sc', .slice ta' tn' tc', .slice ca' cn' cc']) at he
    subst he
    have hlt : w.heap.size + 1 + 1 < W3.heap.size := (Array.getElem?_eq_some_iff.1 HGZ.out).1
    have gz4 := (hb7.block _ hlt).trans HGZ.out
    obtain ⟨z0, z1, z2, z3, zf⟩ := box_cells4 gz4
    have zf0 := zf 0
    have zf1 := zf 1
    have zf2 := zf 2
    have zf3 := zf 3
    have HR := hiq hR
    have HB7 := hiq hb7
    have HG4 := hiq gz4
    clear zf gz4 hR hb7 HAA c0 c1 c2 c3 o0 o1 o2 o3 o4 p0 p1 p2
    go_wp2
    obtain ⟨r0, r1, r2, r3, -⟩ := box_cells4 (put4_at HG4.out (.string sec') (.slice sa' sn' sc') (.slice ta' tn' tc') (.slice ca' cn' cc'))
    have hbf : Below w.heap.size w (put4 W4 (w.heap.size + 1 + 1) (.string sec') (.slice sa' sn' sc') (.slice ta' tn' tc') (.slice ca' cn' cc')) := put4_below (HB6.out.trans (HB7.out.mono HB6.out.size)) (by omega) _ _ _ _
    have hRf := HR.out.keep (w' := put4 W4 (w.heap.size + 1 + 1) (.string sec') (.slice sa' sn' sc') (.slice ta' tn' tc') (.slice ca' cn' cc')) (put4_keep (by rintro (⟨-, q⟩ | q) <;> omega) _ _ _ _)
    change bodyPost _ _ _ _ _ (put4 W4 (w.heap.size + 1 + 1) (.string sec') (.slice sa' sn' sc') (.slice ta' tn' tc') (.slice ca' cn' cc'))
    generalize put4 W4 (w.heap.size + 1 + 1) (.string sec') (.slice sa' sn' sc') (.slice ta' tn' tc') (.slice ca' cn' cc') = WF at *
    exact bodyPost_ret (v := .tuple #[.agg #[.string sec', .slice sa' sn' sc', .slice ta' tn' tc', .slice ca' cn' cc'], .int .i64 0]) (by simp [results, Tryz.results14, go_sem, r0, r1, r2, r3]) rfl
      ⟨⟨sec', sa', sn', sc', ta', tn', tc', ca', cn', cc'⟩, rfl, hRf.mono (fun b hb _ => hb.elim (fun q => .inl q.1) (fun q => .inr (by omega))), hbf⟩
  · have t0 : ((E : Int) != 0) = true := by simpa using h0
    have HNN := hiq (HN.out h0)
    clear HN HA hF2 h0
    go_wp2
    obtain ⟨r0, r1, r2, r3, -⟩ := box_cells4 (put4_at HGZ.out (.string ⟨#[]⟩) (.slice none 0 0) (.slice none 0 0) (.slice none 0 0))
    have hbf : Below w.heap.size w (put4 (W2.alloc (.cells #[.int .i64 p, .int .i64 q, .int .i64 r] 66)) (w.heap.size + 1 + 1) (.string ⟨#[]⟩) (.slice none 0 0) (.slice none 0 0) (.slice none 0 0)) := put4_below HB6.out (by omega) _ _ _ _
    change bodyPost _ _ _ _ _ (put4 (W2.alloc (.cells #[.int .i64 p, .int .i64 q, .int .i64 r] 66)) (w.heap.size + 1 + 1) (.string ⟨#[]⟩) (.slice none 0 0) (.slice none 0 0) (.slice none 0 0))
    generalize put4 (W2.alloc (.cells #[.int .i64 p, .int .i64 q, .int .i64 r] 66)) (w.heap.size + 1 + 1) (.string ⟨#[]⟩) (.slice none 0 0) (.slice none 0 0) (.slice none 0 0) = WF at *
    exact bodyPost_ret (v := .tuple #[.agg #[.string ⟨#[]⟩, .slice none 0 0, .slice none 0 0, .slice none 0 0], .int .i64 E]) (by simp [results, Tryz.results14, go_sem, r0, r1, r2, r3]) rfl ⟨⟨⟨#[]⟩, none, 0, 0, none, 0, 0, none, 0, 0⟩, rfl, by rw [HNN.out]; exact RdC.none _ _, hbf⟩
end Go.Proofs.YtbdgmgddliploaaGreatDoor
namespace Go.Proofs.YtbdgmgddliploaaGreatDoor
open Go.RowKit

theorem toList_iff (a b : ByteArray) : a.toList = b.toList ↔ a = b := by
  constructor
  · intro h
    by_cases e : a = b
    · exact e
    · have := str_no e; rw [h] at this; simp at this
  · rintro rfl; rfl
theorem op_neq (W : World) (o p : Op) : (binOp .neq 28 o.val p.val).run Tryz.prog W = .ok (.bool (decide (o ≠ p))) W := by
  obtain ⟨a0, a1, a2, a3, a4⟩ := o
  obtain ⟨b0, b1, b2, b3, b4⟩ := p
  unfold Op.val
  simp [go_sem, toList_iff]
  by_cases h0 : a0 = b0 <;> by_cases h1 : a1 = b1 <;> by_cases h2 : a2 = b2 <;> by_cases h3 : a3 = b3 <;> by_cases h4 : a4 = b4 <;> simp [*]
theorem tok_neq (W : World) (o p : Tok) : (binOp .neq 76 o.val p.val).run Tryz.prog W = .ok (.bool (decide (o ≠ p))) W := by
  obtain ⟨a0, a1, a2, a3, a4, a5⟩ := o
  obtain ⟨b0, b1, b2, b3, b4, b5⟩ := p
  unfold Tok.val
  simp [go_sem, toList_iff]
  by_cases h0 : a0 = b0 <;> by_cases h1 : a1 = b1 <;> by_cases h2 : a2 = b2 <;> by_cases h3 : a3 = b3 <;> by_cases h4 : a4 = b4 <;> by_cases h5 : a5 = b5 <;> simp [*]
end Go.Proofs.YtbdgmgddliploaaGreatDoor

/- Are two lists equal? (printed by gen_esam.py) -/
namespace Go.Proofs.YtbdgmgddliploaaGreatDoor
open Go.RowKit

theorem drop_eq_iff {α : Type} {l m : List α} {k : Nat} {u v : α} (hu : l[k]? = some u) (hv : m[k]? = some v) : l.drop k = m.drop k ↔ u = v /\ l.drop (k + 1) = m.drop (k + 1) := by
  obtain ⟨h1, e1⟩ := List.getElem?_eq_some_iff.1 hu
  obtain ⟨h2, e2⟩ := List.getElem?_eq_some_iff.1 hv
  rw [List.drop_eq_getElem_cons h1, List.drop_eq_getElem_cons h2, e1, e2, List.cons.injEq]
theorem dropEnds {α : Type} {l m : List α} {k : Nat} (h1 : l.length <= k) (h2 : m.length <= k) : l.drop k = m.drop k := by
  rw [List.drop_of_length_le h1, List.drop_of_length_le h2]
theorem sameStrings_ref (S T : Nat -> Prop) (a b : Option Addr) (n c m d : Nat) (l z : List ByteArray) (w : World) (h : Strs S w a n c l) (hz : Strs T w b m d z) : Calls Tryz.prog 52 #[.slice a n c, .slice b m d] w fun e w' => e = .returned (.bool (decide (l = z))) /\ Drew w w' := by
  have HN := hiq h.len
  have HM := hiq hz.len
  have hbn := h.bound
  have hbm := hz.bound
  have hE : Hid (decide (l = z) = decide (l.drop 0 = z.drop 0)) := rfl
  have hne : Hid (n ≠ m -> decide (l = z) = false) := fun q => decide_eq_false fun e => q (by rw [HN.out, HM.out, e])
  generalize hR : decide (l = z) = R at *
  clear hR
  by_cases hnm : n = m
  · subst hnm
    go_enter Tryz.func52, Tryz.ntmps52
    go_wp2
    go_loopw [5] (fun i wr => ∃ (k : Nat), i = .int .i64 k /\ k <= n /\ Hid (R = decide (l.drop k = z.drop k)) /\ Drew w wr) (fun i _ => n - (intOf i).toNat)
    case atStart => exact ⟨0, rfl, Nat.zero_le _, hE.out, Drew.refl _⟩
    case round =>
      obtain ⟨k, rfl, hk, hx, hd⟩ := hrel
      by_cases hkl : k < n
      · obtain ⟨u, b1, o1, hu, -, ea, -, -, hI1, d1⟩ := (h.below rStr_ok (hd.below _)).str hkl
        obtain ⟨v, b2, o2, hv, -, eb, -, -, hI2, d2⟩ := (hz.below rStr_ok (hd.below _)).str hkl
        subst ea
        subst eb
        have hst := drop_eq_iff hu hv
        by_cases he : u = v
        · have HN2 : Hid (R = decide (l.drop (k + 1) = z.drop (k + 1))) := by show _ = _; rw [hx.out, decide_eq_decide]; exact hst.trans ⟨fun q => q.2, fun q => ⟨he, q⟩⟩
          have t1 : (u.toList == v.toList) = true := str_yes he
          clear hx hu hv hst
          go_wp2
          go_quiet (fail)
          go_wp2
          go_roundw
          case rel => exact ⟨k + 1, by go_num, by omega, HN2.out, hd.drewN _⟩
          case measure => simp [intOf]; omega
        · have HR : Hid (R = false) := by show _ = _; rw [hx.out]; exact decide_eq_false fun q => he (hst.1 q).1
          have t1 : (u.toList == v.toList) = false := str_no he
          clear hx hu hv hst
          go_wp2
          go_quiet (fail)
          go_wp2
          go_ret
          exact ⟨ret_bool HR.out.symm, hd.drewN _⟩
      · have HR : Hid (R = true) := by show _ = _; rw [hx.out]; exact decide_eq_true (dropEnds (by rw [<- HN.out]; omega) (by rw [<- HM.out]; omega))
        clear hx
        go_wp2
        go_ret
        exact ⟨ret_bool HR.out.symm, hd⟩
  · have HR := hiq (hne.out hnm)
    have hnm' : ((n : Int) != (m : Int)) = true := by simp; omega
    go_enter Tryz.func52, Tryz.ntmps52
    go_wp2
    go_ret
    exact ⟨ret_bool HR.out.symm, Drew.refl _⟩
theorem eqOps_any (S T : Nat -> Prop) (a b : Option Addr) (n c m d : Nat) (l z : List Op) (w : World) (h : Opsq S w a n c l) (hz : Opsq T w b m d z) : Calls Tryz.prog 39 #[.slice a n c, .slice b m d] w fun e w' => e = .returned (.bool (decide (l = z))) /\ Drew w w' := by
  have HN := hiq h.len
  have HM := hiq hz.len
  have hbn := h.bound
  have hbm := hz.bound
  have hE : Hid (decide (l = z) = decide (l.drop 0 = z.drop 0)) := rfl
  have hne : Hid (n ≠ m -> decide (l = z) = false) := fun q => decide_eq_false fun e => q (by rw [HN.out, HM.out, e])
  generalize hR : decide (l = z) = R at *
  clear hR
  by_cases hnm : n = m
  · subst hnm
    go_enter Tryz.func39, Tryz.ntmps39
    go_wp2
    go_loopw [13] (fun i wr => ∃ (k : Nat), i = .int .i64 k /\ k <= n /\ Hid (R = decide (l.drop k = z.drop k)) /\ Drew w wr) (fun i _ => n - (intOf i).toNat)
    case atStart => exact ⟨0, rfl, Nat.zero_le _, hE.out, Drew.refl _⟩
    case round =>
      obtain ⟨k, rfl, hk, hx, hd⟩ := hrel
      by_cases hkl : k < n
      · obtain ⟨u, b1, o1, hu, -, ea, -, -, hI1, d0⟩ := (h.below rOpn_ok (hd.below _)).op hkl
        obtain ⟨v, b2, o2, hv, -, eb, -, -, hI2, e0⟩ := (hz.below rOpn_ok (hd.below _)).op hkl
        subst ea
        subst eb
        have hst := drop_eq_iff hu hv
        by_cases he : u = v
        · have HN2 : Hid (R = decide (l.drop (k + 1) = z.drop (k + 1))) := by show _ = _; rw [hx.out, decide_eq_decide]; exact hst.trans ⟨fun q => q.2, fun q => ⟨he, q⟩⟩
          obtain ⟨u1, u2, u3, u4, u5⟩ := u
          obtain ⟨v1, v2, v3, v4, v5⟩ := v
          obtain ⟨d1, d2, d3, d4, d5⟩ := d0
          obtain ⟨e1, e2, e3, e4, e5⟩ := e0
          dsimp only at d1 d2 d3 d4 d5 e1 e2 e3 e4 e5
          have hq : ∀ W, (binOp .neq 28 (.agg #[.int .i64 u1, .string u2, .int .i64 u3, .int .i64 u4, .string u5]) (.agg #[.int .i64 v1, .string v2, .int .i64 v3, .int .i64 v4, .string v5])).run Tryz.prog W = .ok (.bool false) W := fun W => (op_neq W ⟨u1, u2, u3, u4, u5⟩ ⟨v1, v2, v3, v4, v5⟩).trans (by rw [decide_eq_false (by simpa using he)])
          clear hx hu hv hst
          go_wp2
          go_quiet (fail)
          go_wp2
          go_roundw
          case rel => exact ⟨k + 1, by go_num, by omega, HN2.out, hd.drewN _⟩
          case measure => simp [intOf]; omega
        · have HR : Hid (R = false) := by show _ = _; rw [hx.out]; exact decide_eq_false fun q => he (hst.1 q).1
          obtain ⟨u1, u2, u3, u4, u5⟩ := u
          obtain ⟨v1, v2, v3, v4, v5⟩ := v
          obtain ⟨d1, d2, d3, d4, d5⟩ := d0
          obtain ⟨e1, e2, e3, e4, e5⟩ := e0
          dsimp only at d1 d2 d3 d4 d5 e1 e2 e3 e4 e5
          have hq : ∀ W, (binOp .neq 28 (.agg #[.int .i64 u1, .string u2, .int .i64 u3, .int .i64 u4, .string u5]) (.agg #[.int .i64 v1, .string v2, .int .i64 v3, .int .i64 v4, .string v5])).run Tryz.prog W = .ok (.bool true) W := fun W => (op_neq W ⟨u1, u2, u3, u4, u5⟩ ⟨v1, v2, v3, v4, v5⟩).trans (by rw [decide_eq_true he])
          clear hx hu hv hst
          go_wp2
          go_quiet (fail)
          go_wp2
          go_ret
          exact ⟨ret_bool HR.out.symm, hd.drewN _⟩
      · have HR : Hid (R = true) := by show _ = _; rw [hx.out]; exact decide_eq_true (dropEnds (by rw [<- HN.out]; omega) (by rw [<- HM.out]; omega))
        clear hx
        go_wp2
        go_ret
        exact ⟨ret_bool HR.out.symm, hd⟩
  · have HR := hiq (hne.out hnm)
    have hnm' : ((n : Int) != (m : Int)) = true := by simp; omega
    go_enter Tryz.func39, Tryz.ntmps39
    go_wp2
    go_ret
    exact ⟨ret_bool HR.out.symm, Drew.refl _⟩
end Go.Proofs.YtbdgmgddliploaaGreatDoor

/- Are two lists of lists equal? (printed by gen_esam.py) -/
namespace Go.Proofs.YtbdgmgddliploaaGreatDoor
open Go.RowKit

theorem sameColumns_ref (S T : Nat -> Prop) (a b : Option Addr) (n c m d : Nat) (l z : List (List Int)) (w : World) (h : Numss S w a n c l) (hz : Numss T w b m d z) : Calls Tryz.prog 24 #[.slice a n c, .slice b m d] w fun e w' => e = .returned (.bool (decide (l = z))) /\ Drew w w' := by
  have HN := hiq h.len
  have HM := hiq hz.len
  have hbn := h.bound
  have hbm := hz.bound
  have hE : Hid (decide (l = z) = decide (l.drop 0 = z.drop 0)) := rfl
  have hne : Hid (n ≠ m -> decide (l = z) = false) := fun q => decide_eq_false fun e => q (by rw [HN.out, HM.out, e])
  generalize hR : decide (l = z) = R at *
  clear hR
  by_cases hnm : n = m
  · subst hnm
    go_enter Tryz.func24, Tryz.ntmps24
    go_wp2
    go_loopw [5] (fun i wr => ∃ (k : Nat), i = .int .i64 k /\ k <= n /\ Hid (R = decide (l.drop k = z.drop k)) /\ Drew w wr) (fun i _ => n - (intOf i).toNat)
    case atStart => exact ⟨0, rfl, Nat.zero_le _, hE.out, Drew.refl _⟩
    case round =>
      obtain ⟨k, rfl, hk, hx, hd⟩ := hrel
      by_cases hkl : k < n
      · obtain ⟨r, b1, o1, a1, n1, c1, hu, -, ea, -, -, hr, x1⟩ := (h.below (rSl_ok rInt_ok) (hd.below _)).row hkl
        obtain ⟨q, b2, o2, a2, n2, c2, hv, -, eb, -, -, hq, x2⟩ := (hz.below (rSl_ok rInt_ok) (hd.below _)).row hkl
        subst ea
        subst eb
        have hst := drop_eq_iff hu hv
        have HRL := hiq hr.len
        have HQL := hiq hq.len
        have hbr := hr.bound
        have hbq := hq.bound
        by_cases hnn : n1 = n2
        · subst hnn
          have HIN : Hid (R = (decide (r.drop 0 = q.drop 0) && decide (l.drop (k + 1) = z.drop (k + 1)))) := by
            show _ = _; rw [hx.out, Bool.eq_iff_iff, Bool.and_eq_true, decide_eq_true_eq, decide_eq_true_eq, decide_eq_true_eq]; exact hst
          have HS := hiq hst
          clear hx hu hv hst
          go_wp2
          go_quiet (fail)
          go_wp2
          rename_i nq
          have hd2 := hd.drewN nq
          obtain ⟨wo, hwo⟩ : ∃ wo, wo = wr.drewN nq := ⟨_, rfl⟩
          have hrO := hr.below rInt_ok ((Drew.refl wr).drewN nq |>.below _)
          have hqO := hq.below rInt_ok ((Drew.refl wr).drewN nq |>.below _)
          rw [<- hwo] at hd2 hrO hqO ⊢
          have y1 : wo.cell? ⟨b1, o1 + k, none⟩ = some (.slice a1 n1 c1) := by rw [hwo]; exact x1
          have y2 : wo.cell? ⟨b2, o2 + k, none⟩ = some (.slice a2 n1 c2) := by rw [hwo]; exact x2
          clear hwo x1 x2 hr hq
          go_loopw [6] (fun i wr2 => ∃ (j : Nat), i = .int .i64 j /\ j <= n1 /\ Hid (R = (decide (r.drop j = q.drop j) && decide (l.drop (k + 1) = z.drop (k + 1)))) /\ Drew wo wr2) (fun i _ => n1 - (intOf i).toNat)
          case atStart => exact ⟨0, rfl, Nat.zero_le _, HIN.out, Drew.refl _⟩
          case round =>
            obtain ⟨j, rfl, hj, hx2, hdw⟩ := hrel
            have z1 := clq (hdw.below wo.heap.size) y1
            have z2 := clq (hdw.below wo.heap.size) y2
            by_cases hjl : j < n1
            · obtain ⟨u, b1, o1, hu, -, ea, -, -, hI1, d1⟩ := (hrO.below rInt_ok (hdw.below _)).int hjl
              obtain ⟨v, b2, o2, hv, -, eb, -, -, hI2, d2⟩ := (hqO.below rInt_ok (hdw.below _)).int hjl
              subst ea
              subst eb
              have hst2 := drop_eq_iff hu hv
              by_cases he : u = v
              · have HN2 : Hid (R = (decide (r.drop (j + 1) = q.drop (j + 1)) && decide (l.drop (k + 1) = z.drop (k + 1)))) := by
                  have e : decide (r.drop j = q.drop j) = decide (r.drop (j + 1) = q.drop (j + 1)) := by rw [decide_eq_decide]; exact hst2.trans ⟨fun q => q.2, fun q => ⟨he, q⟩⟩
                  show _ = _; rw [hx2.out, e]
                have t1 : ((u : Int) != v) = false := by simp [he]
                clear hx2 hu hv hst2
                go_wp2
                go_quiet (fail)
                go_wp2
                go_roundw
                case rel => exact ⟨j + 1, by go_num, by omega, HN2.out, hdw.drewN _⟩
                case measure => simp [intOf]; omega
              · have HR : Hid (R = false) := by show _ = _; rw [hx2.out, decide_eq_false (fun q => he (hst2.1 q).1)]; rfl
                have t1 : ((u : Int) != v) = true := by simp [he]
                clear hx2 hu hv hst2
                go_wp2
                go_quiet (fail)
                go_wp2
                go_ret
                exact ⟨ret_bool HR.out.symm, (hd2.trans hdw).drewN _⟩
            · have HN2 : Hid (R = decide (l.drop (k + 1) = z.drop (k + 1))) := by
                show _ = _; rw [hx2.out, decide_eq_true (dropEnds (by rw [<- HRL.out]; omega) (by rw [<- HQL.out]; omega))]; rfl
              clear hx2
              go_wp2
              go_roundw
              case rel => exact ⟨k + 1, by go_num, by omega, HN2.out, hd2.trans hdw⟩
              case measure => simp [intOf]; omega
        · have HR : Hid (R = false) := by show _ = _; rw [hx.out]; exact decide_eq_false fun e => hnn (by rw [HRL.out, HQL.out, (hst.1 e).1])
          have hnm' : ((n1 : Int) != (n2 : Int)) = true := by simp; omega
          clear hx hu hv hst
          go_wp2
          go_quiet (fail)
          go_wp2
          go_ret
          exact ⟨ret_bool HR.out.symm, hd.drewN _⟩
      · have HR : Hid (R = true) := by show _ = _; rw [hx.out]; exact decide_eq_true (dropEnds (by rw [<- HN.out]; omega) (by rw [<- HM.out]; omega))
        clear hx
        go_wp2
        go_ret
        exact ⟨ret_bool HR.out.symm, hd⟩
  · have HR := hiq (hne.out hnm)
    have hnm' : ((n : Int) != (m : Int)) = true := by simp; omega
    go_enter Tryz.func24, Tryz.ntmps24
    go_wp2
    go_ret
    exact ⟨ret_bool HR.out.symm, Drew.refl _⟩
theorem sameTokens_ref (S T : Nat -> Prop) (a b : Option Addr) (n c m d : Nat) (l z : List (List Tok)) (w : World) (h : Tokss S w a n c l) (hz : Tokss T w b m d z) : Calls Tryz.prog 53 #[.slice a n c, .slice b m d] w fun e w' => e = .returned (.bool (decide (l = z))) /\ Drew w w' := by
  have HN := hiq h.len
  have HM := hiq hz.len
  have hbn := h.bound
  have hbm := hz.bound
  have hE : Hid (decide (l = z) = decide (l.drop 0 = z.drop 0)) := rfl
  have hne : Hid (n ≠ m -> decide (l = z) = false) := fun q => decide_eq_false fun e => q (by rw [HN.out, HM.out, e])
  generalize hR : decide (l = z) = R at *
  clear hR
  by_cases hnm : n = m
  · subst hnm
    go_enter Tryz.func53, Tryz.ntmps53
    go_wp2
    go_loopw [5] (fun i wr => ∃ (k : Nat), i = .int .i64 k /\ k <= n /\ Hid (R = decide (l.drop k = z.drop k)) /\ Drew w wr) (fun i _ => n - (intOf i).toNat)
    case atStart => exact ⟨0, rfl, Nat.zero_le _, hE.out, Drew.refl _⟩
    case round =>
      obtain ⟨k, rfl, hk, hx, hd⟩ := hrel
      by_cases hkl : k < n
      · obtain ⟨r, b1, o1, a1, n1, c1, hu, -, ea, -, -, hr, x1⟩ := (h.below (rSl_ok rTok_ok) (hd.below _)).row hkl
        obtain ⟨q, b2, o2, a2, n2, c2, hv, -, eb, -, -, hq, x2⟩ := (hz.below (rSl_ok rTok_ok) (hd.below _)).row hkl
        subst ea
        subst eb
        have hst := drop_eq_iff hu hv
        have HRL := hiq hr.len
        have HQL := hiq hq.len
        have hbr := hr.bound
        have hbq := hq.bound
        by_cases hnn : n1 = n2
        · subst hnn
          have HIN : Hid (R = (decide (r.drop 0 = q.drop 0) && decide (l.drop (k + 1) = z.drop (k + 1)))) := by
            show _ = _; rw [hx.out, Bool.eq_iff_iff, Bool.and_eq_true, decide_eq_true_eq, decide_eq_true_eq, decide_eq_true_eq]; exact hst
          have HS := hiq hst
          clear hx hu hv hst
          go_wp2
          go_quiet (fail)
          go_wp2
          rename_i nq
          have hd2 := hd.drewN nq
          obtain ⟨wo, hwo⟩ : ∃ wo, wo = wr.drewN nq := ⟨_, rfl⟩
          have hrO := hr.below rTok_ok ((Drew.refl wr).drewN nq |>.below _)
          have hqO := hq.below rTok_ok ((Drew.refl wr).drewN nq |>.below _)
          rw [<- hwo] at hd2 hrO hqO ⊢
          have y1 : wo.cell? ⟨b1, o1 + k, none⟩ = some (.slice a1 n1 c1) := by rw [hwo]; exact x1
          have y2 : wo.cell? ⟨b2, o2 + k, none⟩ = some (.slice a2 n1 c2) := by rw [hwo]; exact x2
          clear hwo x1 x2 hr hq
          go_loopw [6] (fun i wr2 => ∃ (j : Nat), i = .int .i64 j /\ j <= n1 /\ Hid (R = (decide (r.drop j = q.drop j) && decide (l.drop (k + 1) = z.drop (k + 1)))) /\ Drew wo wr2) (fun i _ => n1 - (intOf i).toNat)
          case atStart => exact ⟨0, rfl, Nat.zero_le _, HIN.out, Drew.refl _⟩
          case round =>
            obtain ⟨j, rfl, hj, hx2, hdw⟩ := hrel
            have z1 := clq (hdw.below wo.heap.size) y1
            have z2 := clq (hdw.below wo.heap.size) y2
            by_cases hjl : j < n1
            · obtain ⟨u, b1, o1, hu, -, ea, -, -, hI1, d0⟩ := (hrO.below rTok_ok (hdw.below _)).tok hjl
              obtain ⟨v, b2, o2, hv, -, eb, -, -, hI2, e0⟩ := (hqO.below rTok_ok (hdw.below _)).tok hjl
              subst ea
              subst eb
              have hst2 := drop_eq_iff hu hv
              by_cases he : u = v
              · have HN2 : Hid (R = (decide (r.drop (j + 1) = q.drop (j + 1)) && decide (l.drop (k + 1) = z.drop (k + 1)))) := by
                  have e : decide (r.drop j = q.drop j) = decide (r.drop (j + 1) = q.drop (j + 1)) := by rw [decide_eq_decide]; exact hst2.trans ⟨fun q => q.2, fun q => ⟨he, q⟩⟩
                  show _ = _; rw [hx2.out, e]
                obtain ⟨u1, u2, u3, u4, u5, u6⟩ := u
                obtain ⟨v1, v2, v3, v4, v5, v6⟩ := v
                obtain ⟨d1, d2, d3, d4, d5, d6⟩ := d0
                obtain ⟨e1, e2, e3, e4, e5, e6⟩ := e0
                dsimp only at d1 d2 d3 d4 d5 d6 e1 e2 e3 e4 e5 e6
                have hq : ∀ W, (binOp .neq 76 (.agg #[.string u1, .string u2, .string u3, .int .i64 u4, .int .i64 u5, .string u6]) (.agg #[.string v1, .string v2, .string v3, .int .i64 v4, .int .i64 v5, .string v6])).run Tryz.prog W = .ok (.bool false) W := fun W => (tok_neq W ⟨u1, u2, u3, u4, u5, u6⟩ ⟨v1, v2, v3, v4, v5, v6⟩).trans (by rw [decide_eq_false (by simpa using he)])
                clear hx2 hu hv hst2
                go_wp2
                go_quiet (fail)
                go_wp2
                go_roundw
                case rel => exact ⟨j + 1, by go_num, by omega, HN2.out, hdw.drewN _⟩
                case measure => simp [intOf]; omega
              · have HR : Hid (R = false) := by show _ = _; rw [hx2.out, decide_eq_false (fun q => he (hst2.1 q).1)]; rfl
                obtain ⟨u1, u2, u3, u4, u5, u6⟩ := u
                obtain ⟨v1, v2, v3, v4, v5, v6⟩ := v
                obtain ⟨d1, d2, d3, d4, d5, d6⟩ := d0
                obtain ⟨e1, e2, e3, e4, e5, e6⟩ := e0
                dsimp only at d1 d2 d3 d4 d5 d6 e1 e2 e3 e4 e5 e6
                have hq : ∀ W, (binOp .neq 76 (.agg #[.string u1, .string u2, .string u3, .int .i64 u4, .int .i64 u5, .string u6]) (.agg #[.string v1, .string v2, .string v3, .int .i64 v4, .int .i64 v5, .string v6])).run Tryz.prog W = .ok (.bool true) W := fun W => (tok_neq W ⟨u1, u2, u3, u4, u5, u6⟩ ⟨v1, v2, v3, v4, v5, v6⟩).trans (by rw [decide_eq_true he])
                clear hx2 hu hv hst2
                go_wp2
                go_quiet (fail)
                go_wp2
                go_ret
                exact ⟨ret_bool HR.out.symm, (hd2.trans hdw).drewN _⟩
            · have HN2 : Hid (R = decide (l.drop (k + 1) = z.drop (k + 1))) := by
                show _ = _; rw [hx2.out, decide_eq_true (dropEnds (by rw [<- HRL.out]; omega) (by rw [<- HQL.out]; omega))]; rfl
              clear hx2
              go_wp2
              go_roundw
              case rel => exact ⟨k + 1, by go_num, by omega, HN2.out, hd2.trans hdw⟩
              case measure => simp [intOf]; omega
        · have HR : Hid (R = false) := by show _ = _; rw [hx.out]; exact decide_eq_false fun e => hnn (by rw [HRL.out, HQL.out, (hst.1 e).1])
          have hnm' : ((n1 : Int) != (n2 : Int)) = true := by simp; omega
          clear hx hu hv hst
          go_wp2
          go_quiet (fail)
          go_wp2
          go_ret
          exact ⟨ret_bool HR.out.symm, hd.drewN _⟩
      · have HR : Hid (R = true) := by show _ = _; rw [hx.out]; exact decide_eq_true (dropEnds (by rw [<- HN.out]; omega) (by rw [<- HM.out]; omega))
        clear hx
        go_wp2
        go_ret
        exact ⟨ret_bool HR.out.symm, hd⟩
  · have HR := hiq (hne.out hnm)
    have hnm' : ((n : Int) != (m : Int)) = true := by simp; omega
    go_enter Tryz.func53, Tryz.ntmps53
    go_wp2
    go_ret
    exact ⟨ret_bool HR.out.symm, Drew.refl _⟩
end Go.Proofs.YtbdgmgddliploaaGreatDoor

/- Same of collations (printed by gen_esam3.py). -/
namespace Go.Proofs.YtbdgmgddliploaaGreatDoor
open Go.RowKit

theorem col_eq (x y : Col) : decide (x = y) = (decide (x.sec = y.sec) && decide (x.sigla = y.sigla) && decide (x.toks = y.toks) && decide (x.cols = y.cols)) := by
  obtain ⟨a, b, c, d⟩ := x
  obtain ⟨a', b', c', d'⟩ := y
  rw [Bool.eq_iff_iff]
  simp [and_assoc]
theorem box2 (w : World) (C D : Array Value) (tc td : TypeId) : Below w.heap.size w ((w.alloc (.cells C tc)).alloc (.cells D td)) /\ (∀ (i : Nat) (u : Value), C[i]? = some u -> ((w.alloc (.cells C tc)).alloc (.cells D td)).cell? ⟨w.heap.size, i, none⟩ = some u) /\ ∀ (i : Nat) (u : Value), D[i]? = some u -> ((w.alloc (.cells C tc)).alloc (.cells D td)).cell? ⟨w.heap.size + 1, i, none⟩ = some u := by
  refine ⟨((Below.refl _ _).alloc (Nat.le_refl _) _).alloc (by simp) _, fun i u h => ?_, fun i u h => ?_⟩
  · have b2 : Below (w.alloc (.cells C tc)).heap.size (w.alloc (.cells C tc)) ((w.alloc (.cells C tc)).alloc (.cells D td)) := (Below.refl _ _).alloc (Nat.le_refl _) _
    exact clq b2 ((World.cell?_alloc_at _ _ _ _ rfl).trans h)
  · exact (World.cell?_alloc_at _ _ _ _ (by simp)).trans h
theorem sameC_ref (S T : Nat -> Prop) (v u : CV) (x y : Col) (w : World) (h : RdC S w v x) (hz : RdC T w u y) : Calls Tryz.prog 20 #[v.val, u.val] w fun e w' => e = .returned (.bool (decide (x = y))) /\ Below w.heap.size w w' := by
  have HC := hiq (col_eq x y)
  obtain ⟨x1, xa, xn, xc, ya, yn, yc, za, zn, zc⟩ := v
  obtain ⟨u1, ua, un, uc, va, vn, vc, wa, wn, wc⟩ := u
  obtain ⟨hs, -, h2, h3, h4⟩ := h
  obtain ⟨hs', -, k2, k3, k4⟩ := hz
  dsimp only at hs hs' h2 h3 h4 k2 k3 k4
  rw [<- hs, <- hs'] at HC
  change Calls _ _ #[.agg #[.string x1, .slice xa xn xc, .slice ya yn yc, .slice za zn zc], .agg #[.string u1, .slice ua un uc, .slice va vn vc, .slice wa wn wc]] _ _
  obtain ⟨hb0, hC, hD⟩ := box2 w #[.string x1, .slice xa xn xc, .slice ya yn yc, .slice za zn zc] #[.string u1, .slice ua un uc, .slice va vn vc, .slice wa wn wc] 26 26
  have c0 := hC 0 _ rfl
  have c1 := hC 1 _ rfl
  have c2 := hC 2 _ rfl
  have c3 := hC 3 _ rfl
  have d0 := hD 0 _ rfl
  have d1 := hD 1 _ rfl
  have d2 := hD 2 _ rfl
  have d3 := hD 3 _ rfl
  have F2 : Hid (∀ W, Below w.heap.size w W -> Calls Tryz.prog 52 #[.slice xa xn xc, .slice ua un uc] W fun e w' => e = .returned (.bool (decide (x.sigla = y.sigla))) /\ Drew W w') := fun W hb => sameStrings_ref S T xa ua xn xc un uc _ _ W (h2.below rStr_ok hb) (k2.below rStr_ok hb)
  have F3 : Hid (∀ W, Below w.heap.size w W -> Calls Tryz.prog 53 #[.slice ya yn yc, .slice va vn vc] W fun e w' => e = .returned (.bool (decide (x.toks = y.toks))) /\ Drew W w') := fun W hb => sameTokens_ref S T ya va yn yc vn vc _ _ W (h3.below (rSl_ok rTok_ok) hb) (k3.below (rSl_ok rTok_ok) hb)
  have F4 : Hid (∀ W, Below w.heap.size w W -> Calls Tryz.prog 24 #[.slice za zn zc, .slice wa wn wc] W fun e w' => e = .returned (.bool (decide (x.cols = y.cols))) /\ Drew W w') := fun W hb => sameColumns_ref S T za wa zn zc wn wc _ _ W (h4.below (rSl_ok rInt_ok) hb) (k4.below (rSl_ok rInt_ok) hb)
  generalize decide (x.sigla = y.sigla) = B2 at *
  generalize decide (x.toks = y.toks) = B3 at *
  generalize decide (x.cols = y.cols) = B4 at *
  generalize decide (x = y) = R at *
  clear hC hD h2 h3 h4 k2 k3 k4 hs hs'
  have F2' := hiq (F2.out _ hb0)
  by_cases he : x1 = u1
  · have t1 : (x1.toList == u1.toList) = true := str_yes he
    rw [decide_eq_true he] at HC
    clear he
    go_enter Tryz.func20, Tryz.ntmps20
    go_wp2_with fail
    generalize (w.alloc (.cells #[.string x1, .slice xa xn xc, .slice ya yn yc, .slice za zn zc] 26)).alloc (.cells #[.string u1, .slice ua un uc, .slice va vn vc, .slice wa wn wc] 26) = W1 at *
    refine F2'.out.mono ?_
    rintro e W2 ⟨rfl, hd2⟩
    have hb2 := hb0.trans (hd2.below w.heap.size)
    have F3' := hiq (F3.out W2 hb2)
    replace c2 := clq (hd2.below W1.heap.size) c2
    replace c3 := clq (hd2.below W1.heap.size) c3
    replace d2 := clq (hd2.below W1.heap.size) d2
    replace d3 := clq (hd2.below W1.heap.size) d3
    cases B2 with
    | true =>
      go_wp2_with fail
      refine F3'.out.mono ?_
      rintro e W3 ⟨rfl, hd3⟩
      have hb3 := hb2.trans (hd3.below w.heap.size)
      have F4' := hiq (F4.out W3 hb3)
      replace c3 := clq (hd3.below W2.heap.size) c3
      replace d3 := clq (hd3.below W2.heap.size) d3
      cases B3 with
      | true =>
        go_wp2_with fail
        refine F4'.out.mono ?_
        rintro e W4 ⟨rfl, hd4⟩
        have hb4 := hb3.trans (hd4.below w.heap.size)
        go_wp2
        go_ret
        exact ⟨ret_bool (by rw [HC.out]; simp), hb4⟩
      | false =>
        go_wp2
        go_ret
        exact ⟨ret_bool (by rw [HC.out]; simp), hb3⟩
    | false =>
      go_wp2
      go_ret
      exact ⟨ret_bool (by rw [HC.out]; simp), hb2⟩
  · have t1 : (x1.toList == u1.toList) = false := str_no he
    rw [decide_eq_false he] at HC
    clear he
    go_enter Tryz.func20, Tryz.ntmps20
    go_wp2
    go_ret
    exact ⟨ret_bool (by rw [HC.out]; simp), hb0⟩
end Go.Proofs.YtbdgmgddliploaaGreatDoor
