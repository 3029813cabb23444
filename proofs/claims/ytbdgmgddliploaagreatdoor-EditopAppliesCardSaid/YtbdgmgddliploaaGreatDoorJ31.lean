/- Joined: EDsc. -/
import Derived.Test.YtbdgmgddliploaaGreatDoorJ17
import Derived.Test.YtbdgmgddliploaaGreatDoorJ13
import Derived.Test.YtbdgmgddliploaaGreatDoorJ24
import Derived.Test.YtbdgmgddliploaaGreatDoorJ21
set_option linter.unusedVariables false
set_option linter.unusedSimpArgs false
set_option maxRecDepth 100000
set_option maxHeartbeats 16000000
namespace Go.Proofs.YtbdgmgddliploaaGreatDoor
open Go.RowKit

theorem descr_1 (S : Nat -> Prop) (v : CV) (x : Col) (o : Op) (s c : Nat) (w : World) (h : RdC S w v x) (hm : Sml x) (hE : Env w) (ho : o.ok) (hx : o.text.size <= 1000000) (hg : o.sig.size <= 1000000) (F : Fits x o s c) (hk : o.kind = 1) :
    Calls Tryz.prog 16 #[v.val, o.val] w fun e w' => e = .returned (.tuple #[.string (descr x o), .int .i64 0]) /\ Below w.heap.size w w' := by
  have HF : Hid (∀ W, Below w.heap.size w W -> ∃ po : Int, Calls Tryz.prog 40 #[v.val, o.val] W fun e w' => e = .returned (.tuple #[.agg #[.int .i64 (s : Int), .int .i64 (c : Int), .int .i64 po], .int .i64 0]) /\ Below W.heap.size W w') := fun W hb => by
    have := efind_any S v x o W (h.below hb) hm (hE.below hb) ho hx
    unfold FindPost at this
    rw [F.zero, F.place] at this
    refine ⟨o.oth c, this.mono ?_⟩
    rintro e w' ⟨p, q, r, rfl, hp, hb2⟩
    obtain ⟨s', c', hq, rfl, rfl, rfl⟩ := hp rfl
    cases hq
    exact ⟨rfl, hb2⟩
  have hs := F.ks
  have ht0 := F.t0
  have ht1 := F.t1
  have hDD := hiq (descr_fits F)
  have hDL := hiq (words_len F hm hx hg ho)
  generalize descr x o = R at *
  have hItT : Hid (∀ W, Below w.heap.size w W -> Calls Tryz.prog 47 #[.int .i64 o.tok] W fun e w' => e = .returned (.string ⟨(Lib.itoa o.tok).toArray⟩) /\ Below W.heap.size W w') := fun W hb => itoa_any o.tok ho.2.2.1 W (hE.below hb)
  have hItO : Hid (∀ W, Below w.heap.size w W -> Calls Tryz.prog 47 #[.int .i64 o.other] W fun e w' => e = .returned (.string ⟨(Lib.itoa o.other).toArray⟩) /\ Below W.heap.size W w') := fun W hb => itoa_any o.other ho.2.2.2.1 W (hE.below hb)
  obtain ⟨sec, sa, sn, sc, ta, tn, tc, ca, cn, cc⟩ := v
  obtain ⟨ok, og, ot, oo, ox⟩ := o
  have hln : x.toks.length = x.sigla.length := F.heads.len
  obtain ⟨-, -, h2, h3, h4⟩ := h
  dsimp only at h2 h3 h4 ht0 ht1 hx hk hDD hItT hItO
  subst hk
  change Calls _ _ #[.agg #[.string sec, .slice sa sn sc, .slice ta tn tc, .slice ca cn cc], .agg #[.int .i64 1, .string og, .int .i64 ot, .int .i64 oo, .string ox]] _ _
  change Hid (∀ W, _ -> ∃ po : Int, Calls _ _ #[.agg #[.string sec, .slice sa sn sc, .slice ta tn tc, .slice ca cn cc], .agg #[.int .i64 1, .string og, .int .i64 ot, .int .i64 oo, .string ox]] _ _) at HF
  obtain ⟨hb0, hC, hO⟩ := box2 w #[.string sec, .slice sa sn sc, .slice ta tn tc, .slice ca cn cc] #[.int .i64 1, .string og, .int .i64 ot, .int .i64 oo, .string ox] 26 28
  have c0 := hC 0 _ rfl
  have c1 := hC 1 _ rfl
  have c2 := hC 2 _ rfl
  have c3 := hC 3 _ rfl
  have o0 := hO 0 _ rfl
  have o1 := hO 1 _ rfl
  have o2 := hO 2 _ rfl
  have o3 := hO 3 _ rfl
  have o4 := hO 4 _ rfl
  obtain ⟨tk, rfl⟩ : ∃ tk : Nat, ot = (tk : Int) := ⟨ot.toNat, by omega⟩
  obtain ⟨r, bo, off, a1, n1, c1', hu, hmem, rfl, -, hbl, hr, d1⟩ := h3.row (j := s) (by rw [h3.len, hln]; exact hs)
  have htr : x.tks s = r := by unfold Col.tks; rw [hu]; rfl
  rw [htr] at ht1
  obtain ⟨t, b2, off2, hu2, hmem2, rfl, -, hbl2, -, ⟨e0, e1, e2, e3, e4, e5⟩⟩ := hr.tok (j := tk) (by rw [hr.len]; omega)
  have htk : x.tk s (tk : Int) = t := by unfold Col.tk; rw [htr, Int.toNat_natCast, hu2]; rfl
  rw [htk] at hDD hDL
  have hsn : s < tn := by rw [h3.len, hln]; exact hs
  have htn : tk < n1 := by rw [hr.len]; omega
  have htb := h3.bound
  have hrb := hr.bound
  obtain ⟨tx, nm, pg, ln, fl, na⟩ := t
  dsimp only at e0 hDD hDL
  have hbd : bo < ((w.alloc (.cells #[.string sec, .slice sa sn sc, .slice (some ⟨bo, off, none⟩) tn tc, .slice ca cn cc] 26)).alloc (.cells #[.int .i64 1, .string og, .int .i64 (tk : Int), .int .i64 oo, .string ox] 28)).heap.size := by have := hb0.size; omega
  have hb2' : b2 < ((w.alloc (.cells #[.string sec, .slice sa sn sc, .slice (some ⟨bo, off, none⟩) tn tc, .slice ca cn cc] 26)).alloc (.cells #[.int .i64 1, .string og, .int .i64 (tk : Int), .int .i64 oo, .string ox] 28)).heap.size := by have := hb0.size; omega
  replace d1 := clq hb0 d1; replace e0 := clq hb0 e0
  obtain ⟨po, HFF⟩ := HF.out _ hb0
  replace HFF := hiq HFF
  have hJ : Hid (∀ W bk k, (∀ (j : Nat) y, (words4 1 og (tk : Int) tx oo ox)[j]? = some y -> W.cell? ⟨bk, 0 + j, none⟩ = some (.string y)) -> bk < W.heap.size -> (words4 1 og (tk : Int) tx oo ox).length <= k ->
      Calls Tryz.prog 48 #[.slice (some ⟨bk, 0, none⟩) (words4 1 og (tk : Int) tx oo ox).length k, .string ⟨#[32]⟩] W fun e w' => e = .returned (.string R) /\ Below W.heap.size W w') := fun W bk k h1 h2 h3 => by
    rw [hDD.out]
    exact Tryz.strings_Join bk 0 k _ ⟨#[32]⟩ W h1 h2 (by have := words4_le 1 og (tk : Int) tx oo ox; omega) h3 hDL.out
  clear hC hO h2 h3 h4 hu hmem hu2 hmem2 htr htk hr ht1 hs e1 e2 e3 e4 e5 F hln HF hDD hDL hm hE ho hg hx
  generalize hot : (tk : Int) = ot at *
  have hoH := hiq hot
  clear hot
  go_enter Tryz.func16, Tryz.ntmps16
  go_wp2_with fail
  generalize (w.alloc (.cells #[.string sec, .slice sa sn sc, .slice (some ⟨bo, off, none⟩) tn tc, .slice ca cn cc] 26)).alloc (.cells #[.int .i64 1, .string og, .int .i64 ot, .int .i64 oo, .string ox] 28) = W1 at *
  refine HFF.out.mono ?_
  rintro e W2 ⟨rfl, hb2⟩
  have hba : Below W2.heap.size W2 (W2.alloc (.cells #[.int .i64 (s : Int), .int .i64 (c : Int), .int .i64 po] 66)) := (Below.refl _ _).alloc (Nat.le_refl _) _
  have hb3 := hb2.trans (hba.mono hb2.size)
  replace c0 := clq hb3 c0; replace c1 := clq hb3 c1; replace c2 := clq hb3 c2; replace c3 := clq hb3 c3; replace o0 := clq hb3 o0; replace o1 := clq hb3 o1; replace o2 := clq hb3 o2; replace o3 := clq hb3 o3; replace o4 := clq hb3 o4; replace d1 := clq hb3 d1; replace e0 := clq hb3 e0
  have hp4 := World.alloc_heap_new W2 (.cells #[.int .i64 (s : Int), .int .i64 (c : Int), .int .i64 po] 66)
  obtain ⟨p0, p1, p2, -⟩ := box_cells3 hp4
  have HB6 := hiq (hb0.trans (hb3.mono hb0.size))
  clear hb0 hb3 hba hb2 hp4 HFF hbd hb2' hbl hbl2
  have hb0 : True := trivial
  clear hb0
  go_wp2_with fail
  generalize W2.alloc (.cells #[.int .i64 (s : Int), .int .i64 (c : Int), .int .i64 po] 66) = W4 at *
  obtain ⟨X, Wf, hX, hS1, hS2⟩ := family (fun W => Below W4.heap.size W4 W) W4 (Below.refl _ _)
  have HS2 := hiq hS2
  have q2 := fun x => clq (hS1 x) c2
  have q4 := fun x => clq (hS1 x) o0
  have q5 := fun x => clq (hS1 x) o1
  have q6 := fun x => clq (hS1 x) o2
  have q7 := fun x => clq (hS1 x) o3
  have q8 := fun x => clq (hS1 x) o4
  have q9 := fun x => clq (hS1 x) p0
  have qa := fun x => clq (hS1 x) d1
  have qb := fun x => clq (hS1 x) e0
  clear hS1 hS2
  have hd0 : Below W4.heap.size W4 W4.drew := (Below.refl _ _).drew
  refine wp_region_plan (Wf := Wf) 21 [(true, 1), (true, 2), (true, 5), (true, 6), (true, 7), (true, 8), (true, 10), (true, 11), (true, 12), (true, 13), (true, 14), (true, 15), (true, 16), (true, 17), (true, 18), (true, 19), (true, 20), (false, 0), (true, 3), (true, 4), (false, 9)] (by kernel_rfl) (by kernel_rfl) (fun _ _ d _ _ h => by cases d <;> exact h) (HS2.out _ hd0) ?_
  simp only [pickPlan, List.filterMap_cons, List.filterMap_nil, List.getElem?_cons_zero, List.getElem?_cons_succ, Option.map_some]
  have hot := hoH.out
  subst hot
  repeat (refine wpPlan_read (fun K hK => ?_); unfold rOp; go_simp; (refine hK _ ?_; clear hK K))
  clear q2 q4 q5 q6 q7 q8 q9 qa qb
  refine wpPlan_act ?_
  have HK := hiq (kinds_any W4.drew)
  go_wp2_with fail
  refine HK.out.mono ?_
  rintro e W5 ⟨rfl, hb5⟩
  have hd1 := hd0.trans (hb5.mono hd0.size)
  go_wp2_with fail
  refine ⟨HS2.out _ hd1, ?_⟩
  have hix := fun x => kind_1 (Wf x)
  have hif := fun x => kindW_1 (Wf x)
  repeat (refine wpPlan_read (fun K hK => ?_); unfold rOp; go_simp; (refine hK _ ?_; clear hK K))
  clear hix hif
  refine wpPlan_act ?_
  have HI := hiq (hItT.out W5 (HB6.out.trans (hd1.mono HB6.out.size)))
  go_wp2_with fail
  refine HI.out.mono ?_
  rintro e W6 ⟨rfl, hb6⟩
  have hd2 := hd1.trans (hb6.mono hd1.size)
  go_wp2_with fail
  refine ⟨HS2.out _ hd2, wpPlan_nil ?_⟩
  have hda : Below W6.heap.size W6 (W6.alloc (.cells #[.string ⟨#[106, 111, 105, 110]⟩, .string og, .string ⟨(Lib.itoa (tk : Int)).toArray⟩, .string tx] 9)) := (Below.refl _ _).alloc (Nat.le_refl _) _
  have hd3 := hd2.trans (hda.mono hd2.size)
  replace o0 := clq hd3 o0; replace o3 := clq hd3 o3; replace o4 := clq hd3 o4
  have gl := World.alloc_heap_new W6 (.cells #[.string ⟨#[106, 111, 105, 110]⟩, .string og, .string ⟨(Lib.itoa (tk : Int)).toArray⟩, .string tx] 9)
  have HB7 := hiq (HB6.out.trans (hd3.mono HB6.out.size))
  have hs6 : W6.heap.size < (W6.alloc (.cells #[.string ⟨#[106, 111, 105, 110]⟩, .string og, .string ⟨(Lib.itoa (tk : Int)).toArray⟩, .string tx] 9)).heap.size := by simp
  have hw6 : w.heap.size <= W6.heap.size := (HB6.out.trans (hd2.mono HB6.out.size)).size
  clear hd0 hd1 hd2 hd3 hda hb5 hb6 HI HK HS2 p0 p1 p2 d1 e0 c0 c1 c2 c3 o1 o2 hItT
  have HJJ : Hid (Calls Tryz.prog 48 #[.slice (some ⟨W6.heap.size, 0, none⟩) 4 4, .string ⟨#[32]⟩] (W6.alloc (.cells #[.string ⟨#[106, 111, 105, 110]⟩, .string og, .string ⟨(Lib.itoa (tk : Int)).toArray⟩, .string tx] 9)) fun e w' => e = .returned (.string R) /\ Below (W6.alloc (.cells #[.string ⟨#[106, 111, 105, 110]⟩, .string og, .string ⟨(Lib.itoa (tk : Int)).toArray⟩, .string tx] 9)).heap.size (W6.alloc (.cells #[.string ⟨#[106, 111, 105, 110]⟩, .string og, .string ⟨(Lib.itoa (tk : Int)).toArray⟩, .string tx] 9)) w') := by
    have := hJ.out _ W6.heap.size 4 (words4_cells (by simp [words4, tailW, kindWord]) gl) hs6 (by simp [words4, tailW])
    exact this
  clear hJ
  go_wp2_with fail
  generalize W6.alloc (.cells #[.string ⟨#[106, 111, 105, 110]⟩, .string og, .string ⟨(Lib.itoa (tk : Int)).toArray⟩, .string tx] 9) = W7 at *
  refine HJJ.out.mono ?_
  rintro e W8 ⟨rfl, hb8⟩
  have hbf := HB7.out.trans (hb8.mono HB7.out.size)
  go_wp2
  exact bodyPost_ret (v := .tuple #[.string R, .int .i64 0]) (by simp [results, Tryz.results16, go_sem]) rfl ⟨rfl, hbf⟩

theorem descr_2 (S : Nat -> Prop) (v : CV) (x : Col) (o : Op) (s c : Nat) (w : World) (h : RdC S w v x) (hm : Sml x) (hE : Env w) (ho : o.ok) (hx : o.text.size <= 1000000) (hg : o.sig.size <= 1000000) (F : Fits x o s c) (hk : o.kind = 2) :
    Calls Tryz.prog 16 #[v.val, o.val] w fun e w' => e = .returned (.tuple #[.string (descr x o), .int .i64 0]) /\ Below w.heap.size w w' := by
  have HF : Hid (∀ W, Below w.heap.size w W -> ∃ po : Int, Calls Tryz.prog 40 #[v.val, o.val] W fun e w' => e = .returned (.tuple #[.agg #[.int .i64 (s : Int), .int .i64 (c : Int), .int .i64 po], .int .i64 0]) /\ Below W.heap.size W w') := fun W hb => by
    have := efind_any S v x o W (h.below hb) hm (hE.below hb) ho hx
    unfold FindPost at this
    rw [F.zero, F.place] at this
    refine ⟨o.oth c, this.mono ?_⟩
    rintro e w' ⟨p, q, r, rfl, hp, hb2⟩
    obtain ⟨s', c', hq, rfl, rfl, rfl⟩ := hp rfl
    cases hq
    exact ⟨rfl, hb2⟩
  have hs := F.ks
  have ht0 := F.t0
  have ht1 := F.t1
  have hDD := hiq (descr_fits F)
  have hDL := hiq (words_len F hm hx hg ho)
  generalize descr x o = R at *
  have hItT : Hid (∀ W, Below w.heap.size w W -> Calls Tryz.prog 47 #[.int .i64 o.tok] W fun e w' => e = .returned (.string ⟨(Lib.itoa o.tok).toArray⟩) /\ Below W.heap.size W w') := fun W hb => itoa_any o.tok ho.2.2.1 W (hE.below hb)
  have hItO : Hid (∀ W, Below w.heap.size w W -> Calls Tryz.prog 47 #[.int .i64 o.other] W fun e w' => e = .returned (.string ⟨(Lib.itoa o.other).toArray⟩) /\ Below W.heap.size W w') := fun W hb => itoa_any o.other ho.2.2.2.1 W (hE.below hb)
  obtain ⟨sec, sa, sn, sc, ta, tn, tc, ca, cn, cc⟩ := v
  obtain ⟨ok, og, ot, oo, ox⟩ := o
  have hln : x.toks.length = x.sigla.length := F.heads.len
  obtain ⟨-, -, h2, h3, h4⟩ := h
  dsimp only at h2 h3 h4 ht0 ht1 hx hk hDD hItT hItO
  subst hk
  change Calls _ _ #[.agg #[.string sec, .slice sa sn sc, .slice ta tn tc, .slice ca cn cc], .agg #[.int .i64 2, .string og, .int .i64 ot, .int .i64 oo, .string ox]] _ _
  change Hid (∀ W, _ -> ∃ po : Int, Calls _ _ #[.agg #[.string sec, .slice sa sn sc, .slice ta tn tc, .slice ca cn cc], .agg #[.int .i64 2, .string og, .int .i64 ot, .int .i64 oo, .string ox]] _ _) at HF
  obtain ⟨hb0, hC, hO⟩ := box2 w #[.string sec, .slice sa sn sc, .slice ta tn tc, .slice ca cn cc] #[.int .i64 2, .string og, .int .i64 ot, .int .i64 oo, .string ox] 26 28
  have c0 := hC 0 _ rfl
  have c1 := hC 1 _ rfl
  have c2 := hC 2 _ rfl
  have c3 := hC 3 _ rfl
  have o0 := hO 0 _ rfl
  have o1 := hO 1 _ rfl
  have o2 := hO 2 _ rfl
  have o3 := hO 3 _ rfl
  have o4 := hO 4 _ rfl
  obtain ⟨tk, rfl⟩ : ∃ tk : Nat, ot = (tk : Int) := ⟨ot.toNat, by omega⟩
  obtain ⟨r, bo, off, a1, n1, c1', hu, hmem, rfl, -, hbl, hr, d1⟩ := h3.row (j := s) (by rw [h3.len, hln]; exact hs)
  have htr : x.tks s = r := by unfold Col.tks; rw [hu]; rfl
  rw [htr] at ht1
  obtain ⟨t, b2, off2, hu2, hmem2, rfl, -, hbl2, -, ⟨e0, e1, e2, e3, e4, e5⟩⟩ := hr.tok (j := tk) (by rw [hr.len]; omega)
  have htk : x.tk s (tk : Int) = t := by unfold Col.tk; rw [htr, Int.toNat_natCast, hu2]; rfl
  rw [htk] at hDD hDL
  have hsn : s < tn := by rw [h3.len, hln]; exact hs
  have htn : tk < n1 := by rw [hr.len]; omega
  have htb := h3.bound
  have hrb := hr.bound
  obtain ⟨tx, nm, pg, ln, fl, na⟩ := t
  dsimp only at e0 hDD hDL
  have hbd : bo < ((w.alloc (.cells #[.string sec, .slice sa sn sc, .slice (some ⟨bo, off, none⟩) tn tc, .slice ca cn cc] 26)).alloc (.cells #[.int .i64 2, .string og, .int .i64 (tk : Int), .int .i64 oo, .string ox] 28)).heap.size := by have := hb0.size; omega
  have hb2' : b2 < ((w.alloc (.cells #[.string sec, .slice sa sn sc, .slice (some ⟨bo, off, none⟩) tn tc, .slice ca cn cc] 26)).alloc (.cells #[.int .i64 2, .string og, .int .i64 (tk : Int), .int .i64 oo, .string ox] 28)).heap.size := by have := hb0.size; omega
  replace d1 := clq hb0 d1; replace e0 := clq hb0 e0
  obtain ⟨po, HFF⟩ := HF.out _ hb0
  replace HFF := hiq HFF
  have hJ : Hid (∀ W bk k, (∀ (j : Nat) y, (words4 2 og (tk : Int) tx oo ox)[j]? = some y -> W.cell? ⟨bk, 0 + j, none⟩ = some (.string y)) -> bk < W.heap.size -> (words4 2 og (tk : Int) tx oo ox).length <= k ->
      Calls Tryz.prog 48 #[.slice (some ⟨bk, 0, none⟩) (words4 2 og (tk : Int) tx oo ox).length k, .string ⟨#[32]⟩] W fun e w' => e = .returned (.string R) /\ Below W.heap.size W w') := fun W bk k h1 h2 h3 => by
    rw [hDD.out]
    exact Tryz.strings_Join bk 0 k _ ⟨#[32]⟩ W h1 h2 (by have := words4_le 2 og (tk : Int) tx oo ox; omega) h3 hDL.out
  clear hC hO h2 h3 h4 hu hmem hu2 hmem2 htr htk hr ht1 hs e1 e2 e3 e4 e5 F hln HF hDD hDL hm hE ho hg hx
  generalize hot : (tk : Int) = ot at *
  have hoH := hiq hot
  clear hot
  go_enter Tryz.func16, Tryz.ntmps16
  go_wp2_with fail
  generalize (w.alloc (.cells #[.string sec, .slice sa sn sc, .slice (some ⟨bo, off, none⟩) tn tc, .slice ca cn cc] 26)).alloc (.cells #[.int .i64 2, .string og, .int .i64 ot, .int .i64 oo, .string ox] 28) = W1 at *
  refine HFF.out.mono ?_
  rintro e W2 ⟨rfl, hb2⟩
  have hba : Below W2.heap.size W2 (W2.alloc (.cells #[.int .i64 (s : Int), .int .i64 (c : Int), .int .i64 po] 66)) := (Below.refl _ _).alloc (Nat.le_refl _) _
  have hb3 := hb2.trans (hba.mono hb2.size)
  replace c0 := clq hb3 c0; replace c1 := clq hb3 c1; replace c2 := clq hb3 c2; replace c3 := clq hb3 c3; replace o0 := clq hb3 o0; replace o1 := clq hb3 o1; replace o2 := clq hb3 o2; replace o3 := clq hb3 o3; replace o4 := clq hb3 o4; replace d1 := clq hb3 d1; replace e0 := clq hb3 e0
  have hp4 := World.alloc_heap_new W2 (.cells #[.int .i64 (s : Int), .int .i64 (c : Int), .int .i64 po] 66)
  obtain ⟨p0, p1, p2, -⟩ := box_cells3 hp4
  have HB6 := hiq (hb0.trans (hb3.mono hb0.size))
  clear hb0 hb3 hba hb2 hp4 HFF hbd hb2' hbl hbl2
  have hb0 : True := trivial
  clear hb0
  go_wp2_with fail
  generalize W2.alloc (.cells #[.int .i64 (s : Int), .int .i64 (c : Int), .int .i64 po] 66) = W4 at *
  obtain ⟨X, Wf, hX, hS1, hS2⟩ := family (fun W => Below W4.heap.size W4 W) W4 (Below.refl _ _)
  have HS2 := hiq hS2
  have q2 := fun x => clq (hS1 x) c2
  have q4 := fun x => clq (hS1 x) o0
  have q5 := fun x => clq (hS1 x) o1
  have q6 := fun x => clq (hS1 x) o2
  have q7 := fun x => clq (hS1 x) o3
  have q8 := fun x => clq (hS1 x) o4
  have q9 := fun x => clq (hS1 x) p0
  have qa := fun x => clq (hS1 x) d1
  have qb := fun x => clq (hS1 x) e0
  clear hS1 hS2
  have hd0 : Below W4.heap.size W4 W4.drew := (Below.refl _ _).drew
  refine wp_region_plan (Wf := Wf) 21 [(true, 1), (true, 2), (true, 5), (true, 6), (true, 7), (true, 8), (true, 10), (true, 11), (true, 12), (true, 13), (true, 14), (true, 15), (true, 16), (true, 17), (true, 18), (true, 19), (true, 20), (false, 0), (true, 3), (true, 4), (false, 9)] (by kernel_rfl) (by kernel_rfl) (fun _ _ d _ _ h => by cases d <;> exact h) (HS2.out _ hd0) ?_
  simp only [pickPlan, List.filterMap_cons, List.filterMap_nil, List.getElem?_cons_zero, List.getElem?_cons_succ, Option.map_some]
  have hot := hoH.out
  subst hot
  repeat (refine wpPlan_read (fun K hK => ?_); unfold rOp; go_simp; (refine hK _ ?_; clear hK K))
  clear q2 q4 q5 q6 q7 q8 q9 qa qb
  refine wpPlan_act ?_
  have HK := hiq (kinds_any W4.drew)
  go_wp2_with fail
  refine HK.out.mono ?_
  rintro e W5 ⟨rfl, hb5⟩
  have hd1 := hd0.trans (hb5.mono hd0.size)
  go_wp2_with fail
  refine ⟨HS2.out _ hd1, ?_⟩
  have hix := fun x => kind_2 (Wf x)
  have hif := fun x => kindW_2 (Wf x)
  repeat (refine wpPlan_read (fun K hK => ?_); unfold rOp; go_simp; (refine hK _ ?_; clear hK K))
  clear hix hif
  refine wpPlan_act ?_
  have HI := hiq (hItT.out W5 (HB6.out.trans (hd1.mono HB6.out.size)))
  go_wp2_with fail
  refine HI.out.mono ?_
  rintro e W6 ⟨rfl, hb6⟩
  have hd2 := hd1.trans (hb6.mono hd1.size)
  go_wp2_with fail
  refine ⟨HS2.out _ hd2, wpPlan_nil ?_⟩
  have hda : Below W6.heap.size W6 (W6.alloc (.cells #[.string ⟨#[115, 112, 108, 105, 116]⟩, .string og, .string ⟨(Lib.itoa (tk : Int)).toArray⟩, .string tx] 9)) := (Below.refl _ _).alloc (Nat.le_refl _) _
  have hd3 := hd2.trans (hda.mono hd2.size)
  replace o0 := clq hd3 o0; replace o3 := clq hd3 o3; replace o4 := clq hd3 o4
  have gl := World.alloc_heap_new W6 (.cells #[.string ⟨#[115, 112, 108, 105, 116]⟩, .string og, .string ⟨(Lib.itoa (tk : Int)).toArray⟩, .string tx] 9)
  have HB7 := hiq (HB6.out.trans (hd3.mono HB6.out.size))
  have hs6 : W6.heap.size < (W6.alloc (.cells #[.string ⟨#[115, 112, 108, 105, 116]⟩, .string og, .string ⟨(Lib.itoa (tk : Int)).toArray⟩, .string tx] 9)).heap.size := by simp
  have hw6 : w.heap.size <= W6.heap.size := (HB6.out.trans (hd2.mono HB6.out.size)).size
  clear hd0 hd1 hd2 hd3 hda hb5 hb6 HI HK HS2 p0 p1 p2 d1 e0 c0 c1 c2 c3 o1 o2 hItT
  have HJJ : Hid (Calls Tryz.prog 48 #[.slice (some ⟨W6.heap.size, 0, none⟩) 4 4, .string ⟨#[32]⟩] (W6.alloc (.cells #[.string ⟨#[115, 112, 108, 105, 116]⟩, .string og, .string ⟨(Lib.itoa (tk : Int)).toArray⟩, .string tx] 9)) fun e w' => e = .returned (.string R) /\ Below (W6.alloc (.cells #[.string ⟨#[115, 112, 108, 105, 116]⟩, .string og, .string ⟨(Lib.itoa (tk : Int)).toArray⟩, .string tx] 9)).heap.size (W6.alloc (.cells #[.string ⟨#[115, 112, 108, 105, 116]⟩, .string og, .string ⟨(Lib.itoa (tk : Int)).toArray⟩, .string tx] 9)) w') := by
    have := hJ.out _ W6.heap.size 4 (words4_cells (by simp [words4, tailW, kindWord]) gl) hs6 (by simp [words4, tailW])
    exact this
  clear hJ
  go_wp2_with fail
  generalize W6.alloc (.cells #[.string ⟨#[115, 112, 108, 105, 116]⟩, .string og, .string ⟨(Lib.itoa (tk : Int)).toArray⟩, .string tx] 9) = W7 at *
  refine HJJ.out.mono ?_
  rintro e W8 ⟨rfl, hb8⟩
  have hbf := HB7.out.trans (hb8.mono HB7.out.size)
  go_wp2
  exact bodyPost_ret (v := .tuple #[.string R, .int .i64 0]) (by simp [results, Tryz.results16, go_sem]) rfl ⟨rfl, hbf⟩

theorem descr_3 (S : Nat -> Prop) (v : CV) (x : Col) (o : Op) (s c : Nat) (w : World) (h : RdC S w v x) (hm : Sml x) (hE : Env w) (ho : o.ok) (hx : o.text.size <= 1000000) (hg : o.sig.size <= 1000000) (F : Fits x o s c) (hk : o.kind = 3) :
    Calls Tryz.prog 16 #[v.val, o.val] w fun e w' => e = .returned (.tuple #[.string (descr x o), .int .i64 0]) /\ Below w.heap.size w w' := by
  have HF : Hid (∀ W, Below w.heap.size w W -> ∃ po : Int, Calls Tryz.prog 40 #[v.val, o.val] W fun e w' => e = .returned (.tuple #[.agg #[.int .i64 (s : Int), .int .i64 (c : Int), .int .i64 po], .int .i64 0]) /\ Below W.heap.size W w') := fun W hb => by
    have := efind_any S v x o W (h.below hb) hm (hE.below hb) ho hx
    unfold FindPost at this
    rw [F.zero, F.place] at this
    refine ⟨o.oth c, this.mono ?_⟩
    rintro e w' ⟨p, q, r, rfl, hp, hb2⟩
    obtain ⟨s', c', hq, rfl, rfl, rfl⟩ := hp rfl
    cases hq
    exact ⟨rfl, hb2⟩
  have hs := F.ks
  have ht0 := F.t0
  have ht1 := F.t1
  have hDD := hiq (descr_fits F)
  have hDL := hiq (words_len F hm hx hg ho)
  generalize descr x o = R at *
  have hItT : Hid (∀ W, Below w.heap.size w W -> Calls Tryz.prog 47 #[.int .i64 o.tok] W fun e w' => e = .returned (.string ⟨(Lib.itoa o.tok).toArray⟩) /\ Below W.heap.size W w') := fun W hb => itoa_any o.tok ho.2.2.1 W (hE.below hb)
  have hItO : Hid (∀ W, Below w.heap.size w W -> Calls Tryz.prog 47 #[.int .i64 o.other] W fun e w' => e = .returned (.string ⟨(Lib.itoa o.other).toArray⟩) /\ Below W.heap.size W w') := fun W hb => itoa_any o.other ho.2.2.2.1 W (hE.below hb)
  obtain ⟨sec, sa, sn, sc, ta, tn, tc, ca, cn, cc⟩ := v
  obtain ⟨ok, og, ot, oo, ox⟩ := o
  have hln : x.toks.length = x.sigla.length := F.heads.len
  obtain ⟨-, -, h2, h3, h4⟩ := h
  dsimp only at h2 h3 h4 ht0 ht1 hx hk hDD hItT hItO
  subst hk
  change Calls _ _ #[.agg #[.string sec, .slice sa sn sc, .slice ta tn tc, .slice ca cn cc], .agg #[.int .i64 3, .string og, .int .i64 ot, .int .i64 oo, .string ox]] _ _
  change Hid (∀ W, _ -> ∃ po : Int, Calls _ _ #[.agg #[.string sec, .slice sa sn sc, .slice ta tn tc, .slice ca cn cc], .agg #[.int .i64 3, .string og, .int .i64 ot, .int .i64 oo, .string ox]] _ _) at HF
  obtain ⟨hb0, hC, hO⟩ := box2 w #[.string sec, .slice sa sn sc, .slice ta tn tc, .slice ca cn cc] #[.int .i64 3, .string og, .int .i64 ot, .int .i64 oo, .string ox] 26 28
  have c0 := hC 0 _ rfl
  have c1 := hC 1 _ rfl
  have c2 := hC 2 _ rfl
  have c3 := hC 3 _ rfl
  have o0 := hO 0 _ rfl
  have o1 := hO 1 _ rfl
  have o2 := hO 2 _ rfl
  have o3 := hO 3 _ rfl
  have o4 := hO 4 _ rfl
  obtain ⟨tk, rfl⟩ : ∃ tk : Nat, ot = (tk : Int) := ⟨ot.toNat, by omega⟩
  obtain ⟨r, bo, off, a1, n1, c1', hu, hmem, rfl, -, hbl, hr, d1⟩ := h3.row (j := s) (by rw [h3.len, hln]; exact hs)
  have htr : x.tks s = r := by unfold Col.tks; rw [hu]; rfl
  rw [htr] at ht1
  obtain ⟨t, b2, off2, hu2, hmem2, rfl, -, hbl2, -, ⟨e0, e1, e2, e3, e4, e5⟩⟩ := hr.tok (j := tk) (by rw [hr.len]; omega)
  have htk : x.tk s (tk : Int) = t := by unfold Col.tk; rw [htr, Int.toNat_natCast, hu2]; rfl
  rw [htk] at hDD hDL
  have hsn : s < tn := by rw [h3.len, hln]; exact hs
  have htn : tk < n1 := by rw [hr.len]; omega
  have htb := h3.bound
  have hrb := hr.bound
  obtain ⟨tx, nm, pg, ln, fl, na⟩ := t
  dsimp only at e0 hDD hDL
  have hbd : bo < ((w.alloc (.cells #[.string sec, .slice sa sn sc, .slice (some ⟨bo, off, none⟩) tn tc, .slice ca cn cc] 26)).alloc (.cells #[.int .i64 3, .string og, .int .i64 (tk : Int), .int .i64 oo, .string ox] 28)).heap.size := by have := hb0.size; omega
  have hb2' : b2 < ((w.alloc (.cells #[.string sec, .slice sa sn sc, .slice (some ⟨bo, off, none⟩) tn tc, .slice ca cn cc] 26)).alloc (.cells #[.int .i64 3, .string og, .int .i64 (tk : Int), .int .i64 oo, .string ox] 28)).heap.size := by have := hb0.size; omega
  replace d1 := clq hb0 d1; replace e0 := clq hb0 e0
  obtain ⟨po, HFF⟩ := HF.out _ hb0
  replace HFF := hiq HFF
  have hJ : Hid (∀ W bk k, (∀ (j : Nat) y, (words4 3 og (tk : Int) tx oo ox)[j]? = some y -> W.cell? ⟨bk, 0 + j, none⟩ = some (.string y)) -> bk < W.heap.size -> (words4 3 og (tk : Int) tx oo ox).length <= k ->
      Calls Tryz.prog 48 #[.slice (some ⟨bk, 0, none⟩) (words4 3 og (tk : Int) tx oo ox).length k, .string ⟨#[32]⟩] W fun e w' => e = .returned (.string R) /\ Below W.heap.size W w') := fun W bk k h1 h2 h3 => by
    rw [hDD.out]
    exact Tryz.strings_Join bk 0 k _ ⟨#[32]⟩ W h1 h2 (by have := words4_le 3 og (tk : Int) tx oo ox; omega) h3 hDL.out
  clear hC hO h2 h3 h4 hu hmem hu2 hmem2 htr htk hr ht1 hs e1 e2 e3 e4 e5 F hln HF hDD hDL hm hE ho hg hx
  generalize hot : (tk : Int) = ot at *
  have hoH := hiq hot
  clear hot
  go_enter Tryz.func16, Tryz.ntmps16
  go_wp2_with fail
  generalize (w.alloc (.cells #[.string sec, .slice sa sn sc, .slice (some ⟨bo, off, none⟩) tn tc, .slice ca cn cc] 26)).alloc (.cells #[.int .i64 3, .string og, .int .i64 ot, .int .i64 oo, .string ox] 28) = W1 at *
  refine HFF.out.mono ?_
  rintro e W2 ⟨rfl, hb2⟩
  have hba : Below W2.heap.size W2 (W2.alloc (.cells #[.int .i64 (s : Int), .int .i64 (c : Int), .int .i64 po] 66)) := (Below.refl _ _).alloc (Nat.le_refl _) _
  have hb3 := hb2.trans (hba.mono hb2.size)
  replace c0 := clq hb3 c0; replace c1 := clq hb3 c1; replace c2 := clq hb3 c2; replace c3 := clq hb3 c3; replace o0 := clq hb3 o0; replace o1 := clq hb3 o1; replace o2 := clq hb3 o2; replace o3 := clq hb3 o3; replace o4 := clq hb3 o4; replace d1 := clq hb3 d1; replace e0 := clq hb3 e0
  have hp4 := World.alloc_heap_new W2 (.cells #[.int .i64 (s : Int), .int .i64 (c : Int), .int .i64 po] 66)
  obtain ⟨p0, p1, p2, -⟩ := box_cells3 hp4
  have HB6 := hiq (hb0.trans (hb3.mono hb0.size))
  clear hb0 hb3 hba hb2 hp4 HFF hbd hb2' hbl hbl2
  have hb0 : True := trivial
  clear hb0
  go_wp2_with fail
  generalize W2.alloc (.cells #[.int .i64 (s : Int), .int .i64 (c : Int), .int .i64 po] 66) = W4 at *
  obtain ⟨X, Wf, hX, hS1, hS2⟩ := family (fun W => Below W4.heap.size W4 W) W4 (Below.refl _ _)
  have HS2 := hiq hS2
  have q2 := fun x => clq (hS1 x) c2
  have q4 := fun x => clq (hS1 x) o0
  have q5 := fun x => clq (hS1 x) o1
  have q6 := fun x => clq (hS1 x) o2
  have q7 := fun x => clq (hS1 x) o3
  have q8 := fun x => clq (hS1 x) o4
  have q9 := fun x => clq (hS1 x) p0
  have qa := fun x => clq (hS1 x) d1
  have qb := fun x => clq (hS1 x) e0
  clear hS1 hS2
  have hd0 : Below W4.heap.size W4 W4.drew := (Below.refl _ _).drew
  refine wp_region_plan (Wf := Wf) 21 [(true, 1), (true, 2), (true, 5), (true, 6), (true, 7), (true, 8), (true, 10), (true, 11), (true, 12), (true, 13), (true, 14), (true, 15), (true, 16), (true, 17), (true, 18), (true, 19), (true, 20), (false, 0), (true, 3), (true, 4), (false, 9)] (by kernel_rfl) (by kernel_rfl) (fun _ _ d _ _ h => by cases d <;> exact h) (HS2.out _ hd0) ?_
  simp only [pickPlan, List.filterMap_cons, List.filterMap_nil, List.getElem?_cons_zero, List.getElem?_cons_succ, Option.map_some]
  have hot := hoH.out
  subst hot
  repeat (refine wpPlan_read (fun K hK => ?_); unfold rOp; go_simp; (refine hK _ ?_; clear hK K))
  clear q2 q4 q5 q6 q7 q8 q9 qa qb
  refine wpPlan_act ?_
  have HK := hiq (kinds_any W4.drew)
  go_wp2_with fail
  refine HK.out.mono ?_
  rintro e W5 ⟨rfl, hb5⟩
  have hd1 := hd0.trans (hb5.mono hd0.size)
  go_wp2_with fail
  refine ⟨HS2.out _ hd1, ?_⟩
  have hix := fun x => kind_3 (Wf x)
  have hif := fun x => kindW_3 (Wf x)
  repeat (refine wpPlan_read (fun K hK => ?_); unfold rOp; go_simp; (refine hK _ ?_; clear hK K))
  clear hix hif
  refine wpPlan_act ?_
  have HI := hiq (hItT.out W5 (HB6.out.trans (hd1.mono HB6.out.size)))
  go_wp2_with fail
  refine HI.out.mono ?_
  rintro e W6 ⟨rfl, hb6⟩
  have hd2 := hd1.trans (hb6.mono hd1.size)
  go_wp2_with fail
  refine ⟨HS2.out _ hd2, wpPlan_nil ?_⟩
  have hda : Below W6.heap.size W6 (W6.alloc (.cells #[.string ⟨#[115, 104, 105, 102, 116]⟩, .string og, .string ⟨(Lib.itoa (tk : Int)).toArray⟩, .string tx] 9)) := (Below.refl _ _).alloc (Nat.le_refl _) _
  have hd3 := hd2.trans (hda.mono hd2.size)
  replace o0 := clq hd3 o0; replace o3 := clq hd3 o3; replace o4 := clq hd3 o4
  have gl := World.alloc_heap_new W6 (.cells #[.string ⟨#[115, 104, 105, 102, 116]⟩, .string og, .string ⟨(Lib.itoa (tk : Int)).toArray⟩, .string tx] 9)
  have HB7 := hiq (HB6.out.trans (hd3.mono HB6.out.size))
  have hs6 : W6.heap.size < (W6.alloc (.cells #[.string ⟨#[115, 104, 105, 102, 116]⟩, .string og, .string ⟨(Lib.itoa (tk : Int)).toArray⟩, .string tx] 9)).heap.size := by simp
  have hw6 : w.heap.size <= W6.heap.size := (HB6.out.trans (hd2.mono HB6.out.size)).size
  clear hd0 hd1 hd2 hd3 hda hb5 hb6 HI HK HS2 p0 p1 p2 d1 e0 c0 c1 c2 c3 o1 o2 hItT
  have HOw := hiq (OwnQ.lit4 W6 9 ⟨#[115, 104, 105, 102, 116]⟩ og ⟨(Lib.itoa (tk : Int)).toArray⟩ tx)
  have HN := hiq hw6
  clear gl
  have HI3 := hiq (hItO.out (W6.alloc (.cells #[.string ⟨#[115, 104, 105, 102, 116]⟩, .string og, .string ⟨(Lib.itoa (tk : Int)).toArray⟩, .string tx] 9)) HB7.out)
  go_wp2_with fail
  generalize (W6.alloc (.cells #[.string ⟨#[115, 104, 105, 102, 116]⟩, .string og, .string ⟨(Lib.itoa (tk : Int)).toArray⟩, .string tx] 9)) = W7 at *
  have HB7s := HB7.out.size
  refine HI3.out.mono ?_
  rintro e W8 ⟨rfl, hb8⟩
  have hb8s := hb8.size
  have hbl8 : Below W8.heap.size W8 (W8.alloc (.cells #[.string ⟨(Lib.itoa oo).toArray⟩] 9)) := (Below.refl _ _).alloc (Nat.le_refl _) _
  have HO8 := hiq ((HOw.out.below hb8).below hbl8)
  have HV : Hid (∀ j u, (([⟨(Lib.itoa oo).toArray⟩] : List ByteArray).flatMap encS)[j]? = some u -> (W8.alloc (.cells #[.string ⟨(Lib.itoa oo).toArray⟩] 9)).cell? ((⟨W8.heap.size, 0, none⟩ : Addr).add j) = some u) := fun j u hj => lit_cells (by exact hj)
  have hB9 : W6.heap.size <= (W8.alloc (.cells #[.string ⟨(Lib.itoa oo).toArray⟩] 9)).heap.size := by have := hbl8.size; skip; omega
  have hbB : Below W6.heap.size W7 (W8.alloc (.cells #[.string ⟨(Lib.itoa oo).toArray⟩] 9)) := (hb8.mono (by omega)).trans (hbl8.mono (by omega))
  go_wp2_with (at_builtin; refine wpList_appQ (l := [⟨#[115, 104, 105, 102, 116]⟩, og, ⟨(Lib.itoa (tk : Int)).toArray⟩, tx]) (ys := [⟨(Lib.itoa oo).toArray⟩]) infoS Tryz.underlying22 rfl (by decide) (fun _ => rfl) one_s rfl _ _ rfl rfl rfl HO8.out rfl HV.out (by unfold maxLen; omega) (by omega) hB9 hbB ?_; intro a5 c5 w5 ho5 hb5 hg5 hv5)
  obtain ⟨g5, rfl, hg5', hc5, hcells⟩ := OwnQ.strs ho5 (by omega)
  have HJJ : Hid (Calls Tryz.prog 48 #[.slice (some ⟨g5, 0, none⟩) 5 c5, .string ⟨#[32]⟩] w5 fun e w' => e = .returned (.string R) /\ Below w5.heap.size w5 w') := by
    have := hJ.out w5 g5 c5 (fun j y hy => hcells j y (by simpa [words4, tailW, kindWord] using hy)) hg5' (by simpa [words4, tailW] using hc5)
    exact this
  refine HJJ.out.mono ?_
  rintro e W9 ⟨rfl, hb9⟩
  have hbw5 := HB7.out.trans (hb5.mono HN.out)
  have hbf := hbw5.trans (hb9.mono hbw5.size)
  go_wp2
  exact bodyPost_ret (v := .tuple #[.string R, .int .i64 0]) (by simp [results, Tryz.results16, go_sem]) rfl ⟨rfl, hbf⟩

theorem descr_4 (S : Nat -> Prop) (v : CV) (x : Col) (o : Op) (s c : Nat) (w : World) (h : RdC S w v x) (hm : Sml x) (hE : Env w) (ho : o.ok) (hx : o.text.size <= 1000000) (hg : o.sig.size <= 1000000) (F : Fits x o s c) (hk : o.kind = 4) :
    Calls Tryz.prog 16 #[v.val, o.val] w fun e w' => e = .returned (.tuple #[.string (descr x o), .int .i64 0]) /\ Below w.heap.size w w' := by
  have HF : Hid (∀ W, Below w.heap.size w W -> ∃ po : Int, Calls Tryz.prog 40 #[v.val, o.val] W fun e w' => e = .returned (.tuple #[.agg #[.int .i64 (s : Int), .int .i64 (c : Int), .int .i64 po], .int .i64 0]) /\ Below W.heap.size W w') := fun W hb => by
    have := efind_any S v x o W (h.below hb) hm (hE.below hb) ho hx
    unfold FindPost at this
    rw [F.zero, F.place] at this
    refine ⟨o.oth c, this.mono ?_⟩
    rintro e w' ⟨p, q, r, rfl, hp, hb2⟩
    obtain ⟨s', c', hq, rfl, rfl, rfl⟩ := hp rfl
    cases hq
    exact ⟨rfl, hb2⟩
  have hs := F.ks
  have ht0 := F.t0
  have ht1 := F.t1
  have hDD := hiq (descr_fits F)
  have hDL := hiq (words_len F hm hx hg ho)
  generalize descr x o = R at *
  have hItT : Hid (∀ W, Below w.heap.size w W -> Calls Tryz.prog 47 #[.int .i64 o.tok] W fun e w' => e = .returned (.string ⟨(Lib.itoa o.tok).toArray⟩) /\ Below W.heap.size W w') := fun W hb => itoa_any o.tok ho.2.2.1 W (hE.below hb)
  have hItO : Hid (∀ W, Below w.heap.size w W -> Calls Tryz.prog 47 #[.int .i64 o.other] W fun e w' => e = .returned (.string ⟨(Lib.itoa o.other).toArray⟩) /\ Below W.heap.size W w') := fun W hb => itoa_any o.other ho.2.2.2.1 W (hE.below hb)
  obtain ⟨sec, sa, sn, sc, ta, tn, tc, ca, cn, cc⟩ := v
  obtain ⟨ok, og, ot, oo, ox⟩ := o
  have hln : x.toks.length = x.sigla.length := F.heads.len
  obtain ⟨-, -, h2, h3, h4⟩ := h
  dsimp only at h2 h3 h4 ht0 ht1 hx hk hDD hItT hItO
  subst hk
  change Calls _ _ #[.agg #[.string sec, .slice sa sn sc, .slice ta tn tc, .slice ca cn cc], .agg #[.int .i64 4, .string og, .int .i64 ot, .int .i64 oo, .string ox]] _ _
  change Hid (∀ W, _ -> ∃ po : Int, Calls _ _ #[.agg #[.string sec, .slice sa sn sc, .slice ta tn tc, .slice ca cn cc], .agg #[.int .i64 4, .string og, .int .i64 ot, .int .i64 oo, .string ox]] _ _) at HF
  obtain ⟨hb0, hC, hO⟩ := box2 w #[.string sec, .slice sa sn sc, .slice ta tn tc, .slice ca cn cc] #[.int .i64 4, .string og, .int .i64 ot, .int .i64 oo, .string ox] 26 28
  have c0 := hC 0 _ rfl
  have c1 := hC 1 _ rfl
  have c2 := hC 2 _ rfl
  have c3 := hC 3 _ rfl
  have o0 := hO 0 _ rfl
  have o1 := hO 1 _ rfl
  have o2 := hO 2 _ rfl
  have o3 := hO 3 _ rfl
  have o4 := hO 4 _ rfl
  obtain ⟨tk, rfl⟩ : ∃ tk : Nat, ot = (tk : Int) := ⟨ot.toNat, by omega⟩
  obtain ⟨r, bo, off, a1, n1, c1', hu, hmem, rfl, -, hbl, hr, d1⟩ := h3.row (j := s) (by rw [h3.len, hln]; exact hs)
  have htr : x.tks s = r := by unfold Col.tks; rw [hu]; rfl
  rw [htr] at ht1
  obtain ⟨t, b2, off2, hu2, hmem2, rfl, -, hbl2, -, ⟨e0, e1, e2, e3, e4, e5⟩⟩ := hr.tok (j := tk) (by rw [hr.len]; omega)
  have htk : x.tk s (tk : Int) = t := by unfold Col.tk; rw [htr, Int.toNat_natCast, hu2]; rfl
  rw [htk] at hDD hDL
  have hsn : s < tn := by rw [h3.len, hln]; exact hs
  have htn : tk < n1 := by rw [hr.len]; omega
  have htb := h3.bound
  have hrb := hr.bound
  obtain ⟨tx, nm, pg, ln, fl, na⟩ := t
  dsimp only at e0 hDD hDL
  have hbd : bo < ((w.alloc (.cells #[.string sec, .slice sa sn sc, .slice (some ⟨bo, off, none⟩) tn tc, .slice ca cn cc] 26)).alloc (.cells #[.int .i64 4, .string og, .int .i64 (tk : Int), .int .i64 oo, .string ox] 28)).heap.size := by have := hb0.size; omega
  have hb2' : b2 < ((w.alloc (.cells #[.string sec, .slice sa sn sc, .slice (some ⟨bo, off, none⟩) tn tc, .slice ca cn cc] 26)).alloc (.cells #[.int .i64 4, .string og, .int .i64 (tk : Int), .int .i64 oo, .string ox] 28)).heap.size := by have := hb0.size; omega
  replace d1 := clq hb0 d1; replace e0 := clq hb0 e0
  obtain ⟨po, HFF⟩ := HF.out _ hb0
  replace HFF := hiq HFF
  have hJ : Hid (∀ W bk k, (∀ (j : Nat) y, (words4 4 og (tk : Int) tx oo ox)[j]? = some y -> W.cell? ⟨bk, 0 + j, none⟩ = some (.string y)) -> bk < W.heap.size -> (words4 4 og (tk : Int) tx oo ox).length <= k ->
      Calls Tryz.prog 48 #[.slice (some ⟨bk, 0, none⟩) (words4 4 og (tk : Int) tx oo ox).length k, .string ⟨#[32]⟩] W fun e w' => e = .returned (.string R) /\ Below W.heap.size W w') := fun W bk k h1 h2 h3 => by
    rw [hDD.out]
    exact Tryz.strings_Join bk 0 k _ ⟨#[32]⟩ W h1 h2 (by have := words4_le 4 og (tk : Int) tx oo ox; omega) h3 hDL.out
  clear hC hO h2 h3 h4 hu hmem hu2 hmem2 htr htk hr ht1 hs e1 e2 e3 e4 e5 F hln HF hDD hDL hm hE ho hg hx
  generalize hot : (tk : Int) = ot at *
  have hoH := hiq hot
  clear hot
  go_enter Tryz.func16, Tryz.ntmps16
  go_wp2_with fail
  generalize (w.alloc (.cells #[.string sec, .slice sa sn sc, .slice (some ⟨bo, off, none⟩) tn tc, .slice ca cn cc] 26)).alloc (.cells #[.int .i64 4, .string og, .int .i64 ot, .int .i64 oo, .string ox] 28) = W1 at *
  refine HFF.out.mono ?_
  rintro e W2 ⟨rfl, hb2⟩
  have hba : Below W2.heap.size W2 (W2.alloc (.cells #[.int .i64 (s : Int), .int .i64 (c : Int), .int .i64 po] 66)) := (Below.refl _ _).alloc (Nat.le_refl _) _
  have hb3 := hb2.trans (hba.mono hb2.size)
  replace c0 := clq hb3 c0; replace c1 := clq hb3 c1; replace c2 := clq hb3 c2; replace c3 := clq hb3 c3; replace o0 := clq hb3 o0; replace o1 := clq hb3 o1; replace o2 := clq hb3 o2; replace o3 := clq hb3 o3; replace o4 := clq hb3 o4; replace d1 := clq hb3 d1; replace e0 := clq hb3 e0
  have hp4 := World.alloc_heap_new W2 (.cells #[.int .i64 (s : Int), .int .i64 (c : Int), .int .i64 po] 66)
  obtain ⟨p0, p1, p2, -⟩ := box_cells3 hp4
  have HB6 := hiq (hb0.trans (hb3.mono hb0.size))
  clear hb0 hb3 hba hb2 hp4 HFF hbd hb2' hbl hbl2
  have hb0 : True := trivial
  clear hb0
  go_wp2_with fail
  generalize W2.alloc (.cells #[.int .i64 (s : Int), .int .i64 (c : Int), .int .i64 po] 66) = W4 at *
  obtain ⟨X, Wf, hX, hS1, hS2⟩ := family (fun W => Below W4.heap.size W4 W) W4 (Below.refl _ _)
  have HS2 := hiq hS2
  have q2 := fun x => clq (hS1 x) c2
  have q4 := fun x => clq (hS1 x) o0
  have q5 := fun x => clq (hS1 x) o1
  have q6 := fun x => clq (hS1 x) o2
  have q7 := fun x => clq (hS1 x) o3
  have q8 := fun x => clq (hS1 x) o4
  have q9 := fun x => clq (hS1 x) p0
  have qa := fun x => clq (hS1 x) d1
  have qb := fun x => clq (hS1 x) e0
  clear hS1 hS2
  have hd0 : Below W4.heap.size W4 W4.drew := (Below.refl _ _).drew
  refine wp_region_plan (Wf := Wf) 21 [(true, 1), (true, 2), (true, 5), (true, 6), (true, 7), (true, 8), (true, 10), (true, 11), (true, 12), (true, 13), (true, 14), (true, 15), (true, 16), (true, 17), (true, 18), (true, 19), (true, 20), (false, 0), (true, 3), (true, 4), (false, 9)] (by kernel_rfl) (by kernel_rfl) (fun _ _ d _ _ h => by cases d <;> exact h) (HS2.out _ hd0) ?_
  simp only [pickPlan, List.filterMap_cons, List.filterMap_nil, List.getElem?_cons_zero, List.getElem?_cons_succ, Option.map_some]
  have hot := hoH.out
  subst hot
  repeat (refine wpPlan_read (fun K hK => ?_); unfold rOp; go_simp; (refine hK _ ?_; clear hK K))
  clear q2 q4 q5 q6 q7 q8 q9 qa qb
  refine wpPlan_act ?_
  have HK := hiq (kinds_any W4.drew)
  go_wp2_with fail
  refine HK.out.mono ?_
  rintro e W5 ⟨rfl, hb5⟩
  have hd1 := hd0.trans (hb5.mono hd0.size)
  go_wp2_with fail
  refine ⟨HS2.out _ hd1, ?_⟩
  have hix := fun x => kind_4 (Wf x)
  have hif := fun x => kindW_4 (Wf x)
  repeat (refine wpPlan_read (fun K hK => ?_); unfold rOp; go_simp; (refine hK _ ?_; clear hK K))
  clear hix hif
  refine wpPlan_act ?_
  have HI := hiq (hItT.out W5 (HB6.out.trans (hd1.mono HB6.out.size)))
  go_wp2_with fail
  refine HI.out.mono ?_
  rintro e W6 ⟨rfl, hb6⟩
  have hd2 := hd1.trans (hb6.mono hd1.size)
  go_wp2_with fail
  refine ⟨HS2.out _ hd2, wpPlan_nil ?_⟩
  have hda : Below W6.heap.size W6 (W6.alloc (.cells #[.string ⟨#[114, 101, 103, 117, 108, 97, 114, 105, 122, 101]⟩, .string og, .string ⟨(Lib.itoa (tk : Int)).toArray⟩, .string tx] 9)) := (Below.refl _ _).alloc (Nat.le_refl _) _
  have hd3 := hd2.trans (hda.mono hd2.size)
  replace o0 := clq hd3 o0; replace o3 := clq hd3 o3; replace o4 := clq hd3 o4
  have gl := World.alloc_heap_new W6 (.cells #[.string ⟨#[114, 101, 103, 117, 108, 97, 114, 105, 122, 101]⟩, .string og, .string ⟨(Lib.itoa (tk : Int)).toArray⟩, .string tx] 9)
  have HB7 := hiq (HB6.out.trans (hd3.mono HB6.out.size))
  have hs6 : W6.heap.size < (W6.alloc (.cells #[.string ⟨#[114, 101, 103, 117, 108, 97, 114, 105, 122, 101]⟩, .string og, .string ⟨(Lib.itoa (tk : Int)).toArray⟩, .string tx] 9)).heap.size := by simp
  have hw6 : w.heap.size <= W6.heap.size := (HB6.out.trans (hd2.mono HB6.out.size)).size
  clear hd0 hd1 hd2 hd3 hda hb5 hb6 HI HK HS2 p0 p1 p2 d1 e0 c0 c1 c2 c3 o1 o2 hItT
  have HOw := hiq (OwnQ.lit4 W6 9 ⟨#[114, 101, 103, 117, 108, 97, 114, 105, 122, 101]⟩ og ⟨(Lib.itoa (tk : Int)).toArray⟩ tx)
  have HN := hiq hw6
  clear gl
  have hbl8 : Below (W6.alloc (.cells #[.string ⟨#[114, 101, 103, 117, 108, 97, 114, 105, 122, 101]⟩, .string og, .string ⟨(Lib.itoa (tk : Int)).toArray⟩, .string tx] 9)).heap.size (W6.alloc (.cells #[.string ⟨#[114, 101, 103, 117, 108, 97, 114, 105, 122, 101]⟩, .string og, .string ⟨(Lib.itoa (tk : Int)).toArray⟩, .string tx] 9)) ((W6.alloc (.cells #[.string ⟨#[114, 101, 103, 117, 108, 97, 114, 105, 122, 101]⟩, .string og, .string ⟨(Lib.itoa (tk : Int)).toArray⟩, .string tx] 9)).alloc (.cells #[.string ox] 9)) := (Below.refl _ _).alloc (Nat.le_refl _) _
  have HO8 := hiq (HOw.out.below hbl8)
  have HV : Hid (∀ j u, (([ox] : List ByteArray).flatMap encS)[j]? = some u -> ((W6.alloc (.cells #[.string ⟨#[114, 101, 103, 117, 108, 97, 114, 105, 122, 101]⟩, .string og, .string ⟨(Lib.itoa (tk : Int)).toArray⟩, .string tx] 9)).alloc (.cells #[.string ox] 9)).cell? ((⟨W6.heap.size + 1, 0, none⟩ : Addr).add j) = some u) := fun j u hj => by have := lit_cells (w := (W6.alloc (.cells #[.string ⟨#[114, 101, 103, 117, 108, 97, 114, 105, 122, 101]⟩, .string og, .string ⟨(Lib.itoa (tk : Int)).toArray⟩, .string tx] 9))) (e := 9) (cs := #[.string ox]) (j := j) (u := u) (by exact hj); simpa using this
  have hB9 : W6.heap.size <= ((W6.alloc (.cells #[.string ⟨#[114, 101, 103, 117, 108, 97, 114, 105, 122, 101]⟩, .string og, .string ⟨(Lib.itoa (tk : Int)).toArray⟩, .string tx] 9)).alloc (.cells #[.string ox] 9)).heap.size := by have := hbl8.size; skip; omega
  have hbB : Below W6.heap.size (W6.alloc (.cells #[.string ⟨#[114, 101, 103, 117, 108, 97, 114, 105, 122, 101]⟩, .string og, .string ⟨(Lib.itoa (tk : Int)).toArray⟩, .string tx] 9)) ((W6.alloc (.cells #[.string ⟨#[114, 101, 103, 117, 108, 97, 114, 105, 122, 101]⟩, .string og, .string ⟨(Lib.itoa (tk : Int)).toArray⟩, .string tx] 9)).alloc (.cells #[.string ox] 9)) := hbl8.mono (by omega)
  go_wp2_with (at_builtin; refine wpList_appQ (l := [⟨#[114, 101, 103, 117, 108, 97, 114, 105, 122, 101]⟩, og, ⟨(Lib.itoa (tk : Int)).toArray⟩, tx]) (ys := [ox]) infoS Tryz.underlying22 rfl (by decide) (fun _ => rfl) one_s rfl _ _ rfl rfl rfl HO8.out rfl HV.out (by unfold maxLen; omega) (by omega) hB9 hbB ?_; intro a5 c5 w5 ho5 hb5 hg5 hv5)
  obtain ⟨g5, rfl, hg5', hc5, hcells⟩ := OwnQ.strs ho5 (by omega)
  have HJJ : Hid (Calls Tryz.prog 48 #[.slice (some ⟨g5, 0, none⟩) 5 c5, .string ⟨#[32]⟩] w5 fun e w' => e = .returned (.string R) /\ Below w5.heap.size w5 w') := by
    have := hJ.out w5 g5 c5 (fun j y hy => hcells j y (by simpa [words4, tailW, kindWord] using hy)) hg5' (by simpa [words4, tailW] using hc5)
    exact this
  refine HJJ.out.mono ?_
  rintro e W9 ⟨rfl, hb9⟩
  have hbw5 := HB7.out.trans (hb5.mono HN.out)
  have hbf := hbw5.trans (hb9.mono hbw5.size)
  go_wp2
  exact bodyPost_ret (v := .tuple #[.string R, .int .i64 0]) (by simp [results, Tryz.results16, go_sem]) rfl ⟨rfl, hbf⟩

end Go.Proofs.YtbdgmgddliploaaGreatDoor
