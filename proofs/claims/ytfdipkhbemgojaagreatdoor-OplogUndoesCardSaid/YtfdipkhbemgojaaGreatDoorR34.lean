/- Joined: OSet, OTrn. -/
import Derived.Test.YtfdipkhbemgojaaGreatDoorR33
import Derived.Test.YtfdipkhbemgojaaGreatDoorR25
import Derived.Test.YtfdipkhbemgojaaGreatDoorR29
import Derived.Lib.SliceRun
set_option linter.unusedVariables false
set_option linter.unusedSimpArgs false
set_option maxRecDepth 100000
set_option maxHeartbeats 16000000
namespace Go.Proofs.YtfdipkhbemgojaaGreatDoor
open Go.RowKit

abbrev put6 (W : World) (b : Nat) (d0 d1 d2 d3 d4 d5 : Value) : World := (put4 W b d0 d1 d2 d3).setCell ⟨b, 4, none⟩ d4 |>.setCell ⟨b, 5, none⟩ d5
theorem put6_at {W : World} {b : Nat} {c0 c1 c2 c3 c4 c5 : Value} {t : TypeId} {fr : Nat × Nat} (h : W.heap[b]? = some (.cells #[c0, c1, c2, c3, c4, c5] t fr)) (d0 d1 d2 d3 d4 d5 : Value) : (put6 W b d0 d1 d2 d3 d4 d5).heap[b]? = some (.cells #[d0, d1, d2, d3, d4, d5] t fr) := by
  have h0 := heap_set_at (j := 0) h d0
  have h1 := heap_set_at (j := 1) h0 d1
  have h2 := heap_set_at (j := 2) h1 d2
  have h3 := heap_set_at (j := 3) h2 d3
  have h4 := heap_set_at (j := 4) h3 d4
  have h5 := heap_set_at (j := 5) h4 d5
  rw [h5]; rfl
theorem put6_other {W : World} {b b' : Nat} (hb : b' ≠ b) (d0 d1 d2 d3 d4 d5 : Value) : (put6 W b d0 d1 d2 d3 d4 d5).heap[b']? = W.heap[b']? := by
  have hh : ∀ (W : World) (j : Nat) (v : Value), (W.setCell ⟨b, j, none⟩ v).heap[b']? = W.heap[b']? := fun W j v => Below.heap_setCell _ _ _ _ (by simpa using hb)
  rw [hh, hh, hh, hh, hh, hh]
theorem put6_below {n : Nat} {A W : World} (h : Below n A W) {b : Nat} (hb : n <= b) (d0 d1 d2 d3 d4 d5 : Value) : Below n A (put6 W b d0 d1 d2 d3 d4 d5) :=
  ((put4_below h hb d0 d1 d2 d3).setCell (p := ⟨b, 4, none⟩) hb _).setCell (p := ⟨b, 5, none⟩) hb _
theorem put6_keep {S : Nat -> Prop} {W : World} {b : Nat} (hb : ¬ S b) (d0 d1 d2 d3 d4 d5 : Value) : KeepS S W (put6 W b d0 d1 d2 d3 d4 d5) :=
  ((put4_keep hb d0 d1 d2 d3).trans (KeepS.setCell _ hb _)).trans (KeepS.setCell _ hb _)
theorem clone_ops (S : Nat -> Prop) (a : Option Addr) (n c : Nat) (l : List Op) (w : World) (h : Opsq S w a n c l) : Calls Tryz.prog 35 #[.slice a n c] w fun e w' => ∃ a' c', e = .returned (.slice a' n c') /\ OwnQ 32 5 Op.cells w' w.heap.size a' n c' l /\ Below w.heap.size w w' := by
  cases a with
  | none =>
    obtain ⟨rfl, rfl⟩ := h.none_nil
    have hnil : (binOp .eql 27 (.slice none 0 c) (.slice none 0 0)).run Tryz.prog w = .ok (.bool true) w := Lib.run_eql_slice_nil w 27 32 none 0 c 0 0 Tryz.underlying27
    go_enter Tryz.func35, Tryz.ntmps35
    go_wp2
    go_ret
    exact ⟨none, 0, rfl, OwnQ.nil _ _ _ _ _, Below.refl _ _⟩
  | some ad =>
    have hb := h.bound
    have HL0 := hiq (OwnQ.lit0 32 5 Op.cells w w.heap.size (Nat.le_refl _))
    have hd1 : Below w.heap.size w (w.alloc (.cells #[] 32)) := (Below.refl _ _).alloc (Nat.le_refl _) _
    have HSQ := hiq (h.below rOpn_ok hd1)
    have hB1 : w.heap.size <= (w.alloc (.cells #[] 32)).heap.size := hd1.size
    have HI := infoO
    have hnil : (binOp .eql 27 (.slice (some ad) n c) (.slice none 0 0)).run Tryz.prog w = .ok (.bool false) w := Lib.run_eql_slice_nil w 27 32 (some ad) n c 0 0 Tryz.underlying27
    clear h
    go_enter Tryz.func35, Tryz.ntmps35
    go_wp2_with (at_builtin; refine wpList_appR (l := []) (ys := l) HI Tryz.underlying27 rfl (by omega) op_len op_one rfl _ _ rfl rfl rfl HL0.out HSQ.out (fun _ _ h => h.1) (by unfold maxLen; omega) (by omega) hB1 hd1 ?_; intro a5 c5 w5 ho5 hb5 hg5 hv5)
    rw [List.nil_append] at ho5
    simp only [Nat.zero_add] at ho5 ⊢
    go_ret
    exact ⟨a5, c5, rfl, ho5, hb5⟩
theorem clone_flgs (S : Nat -> Prop) (a : Option Addr) (n c : Nat) (l : List Bool) (w : World) (h : Flgs S w a n c l) : Calls Tryz.prog 37 #[.slice a n c] w fun e w' => ∃ a' c', e = .returned (.slice a' n c') /\ OwnQ 4 1 encB w' w.heap.size a' n c' l /\ Below w.heap.size w w' := by
  cases a with
  | none =>
    obtain ⟨rfl, rfl⟩ := h.none_nil
    have hnil : (binOp .eql 28 (.slice none 0 c) (.slice none 0 0)).run Tryz.prog w = .ok (.bool true) w := Lib.run_eql_slice_nil w 28 4 none 0 c 0 0 Tryz.underlying28
    go_enter Tryz.func37, Tryz.ntmps37
    go_wp2
    go_ret
    exact ⟨none, 0, rfl, OwnQ.nil _ _ _ _ _, Below.refl _ _⟩
  | some ad =>
    have hb := h.bound
    have HL0 := hiq (OwnQ.lit0 4 1 encB w w.heap.size (Nat.le_refl _))
    have hd1 : Below w.heap.size w (w.alloc (.cells #[] 4)) := (Below.refl _ _).alloc (Nat.le_refl _) _
    have HSQ := hiq (h.below rBool_ok hd1)
    have hB1 : w.heap.size <= (w.alloc (.cells #[] 4)).heap.size := hd1.size
    have HI := infoB
    have hnil : (binOp .eql 28 (.slice (some ad) n c) (.slice none 0 0)).run Tryz.prog w = .ok (.bool false) w := Lib.run_eql_slice_nil w 28 4 (some ad) n c 0 0 Tryz.underlying28
    clear h
    go_enter Tryz.func37, Tryz.ntmps37
    go_wp2_with (at_builtin; refine wpList_appR (l := []) (ys := l) HI Tryz.underlying28 rfl (by omega) (fun _ => rfl) one_b rfl _ _ rfl rfl rfl HL0.out HSQ.out (fun _ _ h => h) (by unfold maxLen; omega) (by omega) hB1 hd1 ?_; intro a5 c5 w5 ho5 hb5 hg5 hv5)
    rw [List.nil_append] at ho5
    simp only [Nat.zero_add] at ho5 ⊢
    go_ret
    exact ⟨a5, c5, rfl, ho5, hb5⟩
theorem OwnQ.flgs {S : Nat -> Prop} {w : World} {B n cap : Nat} {a : Option Addr} {l : List Bool} (h : OwnQ 4 1 encB w B a n cap l) (hn : n <= 140737488355328) (hS : ∀ b, B <= b -> b < w.heap.size -> S b) : Flgs S w a n cap l :=
  h.sq (R := rBool) (s := 1) (fun _ => rfl) (by omega) (fun x hx => hS _ (h.lt x hx).1 (h.lt x hx).2) (fun _ _ => rfl)
theorem OwnQ.opsq {S : Nat -> Prop} {w : World} {B n cap : Nat} {a : Option Addr} {l : List Op} (h : OwnQ 32 5 Op.cells w B a n cap l) (hn : n * 56 <= 140737488355328) (hS : ∀ b, B <= b -> b < w.heap.size -> S b) (hk : ∀ o ∈ l, o.ok) : Opsq S w a n cap l :=
  h.sq (R := rOpn) (s := 56) op_len hn (fun x hx => hS _ (h.lt x hx).1 (h.lt x hx).2) (fun o ho => ⟨rfl, hk o ho⟩)
theorem one_bool : ∀ x : Bool, ∃ v, encB x = [v] := fun x => ⟨_, rfl⟩
/-- What set and with answer. -/
def SetPost (S : Nat -> Prop) (l : Lg) (i : Nat) (b : Bool) (w : World) (e : Ending) (w' : World) : Prop :=
  ∃ v' : LV, e = .returned v'.val /\ RdL (fun b => S b \/ w.heap.size <= b) w' v' (l.set i b) /\ Below w.heap.size w w'
theorem set_ref (S : Nat -> Prop) (v : LV) (l : Lg) (i : Nat) (b : Bool) (w : World) (h : RdL S w v l) (hi : i < l.und.length) : Calls Tryz.prog 79 #[v.val, .int .i64 (i : Int), .bool b] w (SetPost S l i b w) := by
  have h := h.mono (S' := fun b => S b /\ b < w.heap.size) (fun b q q' => ⟨q, q'⟩)
  have hil : i < v.un := by rw [h.2.2.len]; exact hi
  have hub := h.2.2.bound
  have HX := hiq h
  obtain ⟨V, hV⟩ : ∃ V, V = v := ⟨_, rfl⟩
  rw [<- hV] at HX
  clear h hi
  obtain ⟨⟨sec, sa, sn, sc, ta, tn, tc, ca, cn, cc⟩, oa, on, oc, ua, un, uc⟩ := v
  have hVe : Hid (V = ⟨⟨sec, sa, sn, sc, ta, tn, tc, ca, cn, cc⟩, oa, on, oc, ua, un, uc⟩) := hV
  clear hV
  dsimp only at hil hub
  change Calls _ _ #[.agg #[.string sec, .slice sa sn sc, .slice ta tn tc, .slice ca cn cc, .slice oa on oc, .slice ua un uc], _, _] _ _
  obtain ⟨W1, hW1, hb0, hs1, gX, gR⟩ := box2r w #[.string sec, .slice sa sn sc, .slice ta tn tc, .slice ca cn cc, .slice oa on oc, .slice ua un uc] #[.string ⟨#[]⟩, .slice none 0 0, .slice none 0 0, .slice none 0 0, .slice none 0 0, .slice none 0 0] 30 30
  obtain ⟨c0, c1, c2, c3, c4, c5⟩ := box_cells6 gX
  have HL0 := hiq (OwnQ.lit0 4 1 encB W1 W1.heap.size (Nat.le_refl _))
  have hd1 : Below W1.heap.size W1 (W1.alloc (.cells #[] 4)) := (Below.refl _ _).alloc (Nat.le_refl _) _
  have HSQ : Hid (Flgs (fun b => S b /\ b < w.heap.size) (W1.alloc (.cells #[] 4)) ua un uc l.und) := by
    have := HX.out.2.2
    rw [hVe.out] at this
    exact (this.below rBool_ok hb0).below rBool_ok hd1
  have hB1 : W1.heap.size <= (W1.alloc (.cells #[] 4)).heap.size := hd1.size
  have HI := infoB
  rw [hW1] at c0 c1 c2 c3 c4 c5 HL0 hd1 HSQ hB1
  have q4 := clq hd1 c4
  have q5 := clq hd1 c5
  have HB0 := hiq hb0
  have HG := hiq (And.intro gX gR)
  have HW := hiq hW1
  clear gX gR hb0
  have hsz : (((w.alloc (.cells #[.string sec, .slice sa sn sc, .slice ta tn tc, .slice ca cn cc, .slice oa on oc, .slice ua un uc] 30)).alloc (.cells #[.string ⟨#[]⟩, .slice none 0 0, .slice none 0 0, .slice none 0 0, .slice none 0 0, .slice none 0 0] 30)).heap.size) = w.heap.size + 1 + 1 := by simp
  rw [hsz] at HL0 hd1 hB1
  clear hsz hW1
  go_enter Tryz.func79, Tryz.ntmps79
  go_wp2_with (at_builtin; refine wpList_appR (l := []) (ys := l.und) HI Tryz.underlying28 rfl (by omega) (fun _ => rfl) one_b rfl _ _ rfl rfl rfl HL0.out HSQ.out (fun _ _ h => h) (by unfold maxLen; omega) (by omega) hB1 hd1 ?_; intro a5 c5' w5 ho5 hb5 hg5 hv5; rw [List.nil_append] at ho5; simp only [Nat.zero_add] at ho5; obtain ⟨ux, g5, hux, -, rfl, hgB, hgl, hgf, hgc⟩ := ho5.at_ (fun _ => rfl) hil; replace hgc := hgc 0 _ rfl; rw [Nat.mul_one, Nat.add_zero] at hgc; replace hgf := hgf i; rw [Nat.zero_add]; have hbS : Below (w.heap.size + 1 + 1) ((w.alloc (.cells #[.string sec, .slice sa sn sc, .slice ta tn tc, .slice ca cn cc, .slice oa on oc, .slice ua un uc] 30)).alloc (.cells #[.string ⟨#[]⟩, .slice none 0 0, .slice none 0 0, .slice none 0 0, .slice none 0 0, .slice none 0 0] 30)) (w5.setCell ⟨g5, i, none⟩ (.bool b)) := hb5.setCell (p := ⟨g5, i, none⟩) hgB _; have d0 := cell_out hbS c0 (by omega); have d1 := cell_out hbS c1 (by omega); have d2 := cell_out hbS c2 (by omega); have d3 := cell_out hbS c3 (by omega); have d4 := cell_out hbS c4 (by omega); have gRf : (w5.setCell ⟨g5, i, none⟩ (.bool b)).heap[w.heap.size + 1]? = some (.cells #[.string ⟨#[]⟩, .slice none 0 0, .slice none 0 0, .slice none 0 0, .slice none 0 0, .slice none 0 0] 30 (0, 0)) := (hbS.block _ (by omega)).trans (by rw [<- HW.out]; exact HG.out.2); obtain ⟨y0, y1, y2, y3, y4, y5⟩ := box_cells6 gRf; have yf0 := frozen5 gRf 0; have yf1 := frozen5 gRf 1; have yf2 := frozen5 gRf 2; have yf3 := frozen5 gRf 3; have yf4 := frozen5 gRf 4; have yf5 := frozen5 gRf 5; clear c0 c1 c2 c3 c4 c5 q4 q5)
  change bodyPost _ _ _ _ _ (put6 (w5.setCell ⟨g5, i, none⟩ (.bool b)) (w.heap.size + 1) (.string sec) (.slice sa sn sc) (.slice ta tn tc) (.slice ca cn cc) (.slice oa on oc) (.slice (some ⟨g5, 0, none⟩) un c5'))
  have hO6 := ho5.put1 one_bool i b (.bool b) rfl
  have hbw : Below w.heap.size w (w5.setCell ⟨g5, i, none⟩ (.bool b)) := HB0.out.trans (by rw [HW.out]; exact hbS.mono (by omega))
  have hbf := put6_below hbw (b := w.heap.size + 1) (by omega) (.string sec) (.slice sa sn sc) (.slice ta tn tc) (.slice ca cn cc) (.slice oa on oc) (.slice (some ⟨g5, 0, none⟩) un c5')
  obtain ⟨r0, r1, r2, r3, r4, r5⟩ := box_cells6 (put6_at gRf (.string sec) (.slice sa sn sc) (.slice ta tn tc) (.slice ca cn cc) (.slice oa on oc) (.slice (some ⟨g5, 0, none⟩) un c5'))
  have hO7 := hO6.same (w' := put6 (w5.setCell ⟨g5, i, none⟩ (.bool b)) (w.heap.size + 1) (.string sec) (.slice sa sn sc) (.slice ta tn tc) (.slice ca cn cc) (.slice oa on oc) (.slice (some ⟨g5, 0, none⟩) un c5')) (fun y hy => by cases hy; exact put6_other (by show g5 ≠ _; omega) _ _ _ _ _ _)
  generalize put6 (w5.setCell ⟨g5, i, none⟩ (.bool b)) (w.heap.size + 1) (.string sec) (.slice sa sn sc) (.slice ta tn tc) (.slice ca cn cc) (.slice oa on oc) (.slice (some ⟨g5, 0, none⟩) un c5') = WF at *
  refine bodyPost_ret (v := .agg #[.string sec, .slice sa sn sc, .slice ta tn tc, .slice ca cn cc, .slice oa on oc, .slice (some ⟨g5, 0, none⟩) un c5']) (by simp [results, Tryz.results79, go_sem, r0, r1, r2, r3, r4, r5]) rfl ?_
  have hXf := HX.out.below hbf
  rw [hVe.out] at hXf
  have hws := hbw.size
  refine ⟨⟨⟨sec, sa, sn, sc, ta, tn, tc, ca, cn, cc⟩, oa, on, oc, some ⟨g5, 0, none⟩, un, c5'⟩, rfl, ⟨hXf.1.mono (fun b q _ => .inl q.1), hXf.2.1.mono rOpn_ok (fun b q _ => .inl q.1), ?_⟩, hbf⟩
  exact hO7.flgs (by omega) (fun b q _ => .inr (by omega))
theorem with_any (S : Nat -> Prop) (v : LV) (l : Lg) (i : Nat) (b : Bool) (w : World) (h : RdL S w v l) (hi : i < l.und.length) : Calls Tryz.prog 67 #[v.val, .int .i64 (i : Int), .bool b] w (SetPost S l i b w) := by
  have h := h.mono (S' := fun b => S b /\ b < w.heap.size) (fun b q q' => ⟨q, q'⟩)
  have hil : i < v.un := by rw [h.2.2.len]; exact hi
  have hub := h.2.2.bound
  have hob := h.2.1.bound
  have HX := hiq h
  have HCO : Hid (∀ W, Below w.heap.size w W -> Calls Tryz.prog 35 #[.slice v.oa v.on v.oc] W fun e w' => ∃ a' c', e = .returned (.slice a' v.on c') /\ OwnQ 32 5 Op.cells w' W.heap.size a' v.on c' l.ops /\ Below W.heap.size W w') := fun W hb => clone_ops _ _ _ _ _ W (h.2.1.below rOpn_ok hb)
  have HCB : Hid (∀ W, Below w.heap.size w W -> Calls Tryz.prog 37 #[.slice v.ua v.un v.uc] W fun e w' => ∃ a' c', e = .returned (.slice a' v.un c') /\ OwnQ 4 1 encB w' W.heap.size a' v.un c' l.und /\ Below W.heap.size W w') := fun W hb => clone_flgs _ _ _ _ _ W (h.2.2.below rBool_ok hb)
  have hok := hiq (opsq_ok h.2.1)
  obtain ⟨V, hV⟩ : ∃ V, V = v := ⟨_, rfl⟩
  rw [<- hV] at HX
  clear h hi
  obtain ⟨⟨sec, sa, sn, sc, ta, tn, tc, ca, cn, cc⟩, oa, on, oc, ua, un, uc⟩ := v
  have hVe : Hid (V = ⟨⟨sec, sa, sn, sc, ta, tn, tc, ca, cn, cc⟩, oa, on, oc, ua, un, uc⟩) := hV
  clear hV
  dsimp only at hil hub hob HCO HCB
  change Calls _ _ #[.agg #[.string sec, .slice sa sn sc, .slice ta tn tc, .slice ca cn cc, .slice oa on oc, .slice ua un uc], _, _] _ _
  obtain ⟨W1, hW1, hb0, hs1, gX, gR⟩ := box2r w #[.string sec, .slice sa sn sc, .slice ta tn tc, .slice ca cn cc, .slice oa on oc, .slice ua un uc] #[.string ⟨#[]⟩, .slice none 0 0, .slice none 0 0, .slice none 0 0, .slice none 0 0, .slice none 0 0] 30 30
  obtain ⟨c0, c1, c2, c3, c4, c5⟩ := box_cells6 gX
  rw [hW1] at c0 c1 c2 c3 c4 c5
  go_enter Tryz.func67, Tryz.ntmps67
  go_wp2_with fail
  rw [<- hW1] at *
  clear hW1
  obtain ⟨X, Wf, hX, hS1, hS2⟩ := family (fun U : World => U.cell? ⟨w.heap.size, 5, none⟩ = some (.slice ua un uc)) W1.drew c5
  have HS2 := hiq hS2
  have q_c5 := hS1
  clear hS1 hS2
  have hd0 : Below W1.heap.size W1 W1.drew := (Below.refl _ _).drew
  refine wp_region_tree (Wf := Wf) 9 (.read 0 (.read 3 (.read 4 (.act 1 (.act 2 (.read 6 (.act 5 (.act 7 (.read 8 .fin))))))))) (by kernel_rfl) (by kernel_rfl) (fun _ _ d _ _ h => by cases d <;> exact h) (HS2.out _ c5) ?_
  refine wpTree_read _ rfl (fun K hK => ?_); unfold rOp; go_simp; (refine hK _ ?_; clear hK K)
  refine wpTree_read _ rfl (fun K hK => ?_); unfold rOp; go_simp; (refine hK _ ?_; clear hK K)
  refine wpTree_read _ rfl (fun K hK => ?_); unfold rOp; go_simp; (refine hK _ ?_; clear hK K)
  clear q_c5
  replace c4 := clq hd0 c4; replace c5 := clq hd0 c5
  have gXd := (hd0.block _ (by omega)).trans gX
  have gRd := (hd0.block _ (by omega)).trans gR
  have hbd := hb0.trans (hd0.mono hb0.size)
  have hsd := hd0.size
  generalize W1.drew = WD at *
  clear hd0 hb0 gX gR c0 c1 c2 c3
  refine wpTree_act _ rfl ?_
  go_wp2_with fail
  refine ⟨HS2.out _ c5, wpTree_act _ rfl ?_⟩
  have HC1 := hiq (HCO.out _ hbd)
  go_wp2_with fail
  refine HC1.out.mono ?_
  rintro e W2 ⟨a1, k1, rfl, hO, hb2⟩
  have hOlt : ∀ y, a1 = some y -> y.block < W2.heap.size := fun y hy => (hO.lt y hy).2
  replace c5 := clq hb2 c5
  go_wp2_with fail
  refine ⟨HS2.out _ c5, ?_⟩
  refine wpTree_read _ rfl (fun K hK => ?_); unfold rOp; go_simp; (refine hK _ ?_; clear hK K)
  refine wpTree_act _ rfl ?_
  have HC2 := hiq (HCB.out _ (hbd.trans (hb2.mono hbd.size)))
  go_wp2_with fail
  refine HC2.out.mono ?_
  rintro e W3 ⟨a2, k2, rfl, hU, hb3⟩
  have hd2 := hb2.trans (hb3.mono hb2.size)
  have hs2 := hb2.size
  have hs3 := hb3.size
  have hOf := hO.below hb3
  replace c5 := clq hb3 c5
  have gX3 := (hd2.block _ (by omega)).trans gXd
  have gR3 := (hd2.block _ (by omega)).trans gRd
  have hbw := hbd.trans (hd2.mono hbd.size)
  go_wp2_with fail
  refine ⟨HS2.out _ c5, ?_⟩
  obtain ⟨c0, c1, c2, c3, c4, c5⟩ := box_cells6 gX3
  have f4 := frozen5 gX3 4
  have f5 := frozen5 gX3 5
  have gX4 := heap_set_at (j := 4) gX3 (.slice a1 on k1)
  have f45 := frozen5 gX4 5
  have c45 := (box_cells6 gX4).2.2.2.2.2
  refine wpTree_act _ rfl ?_
  clear HC1 HC2 HCO HCB hb2 hb3 hO hd2 hbd gXd gRd
  go_wp2_with fail
  refine ⟨HS2.out _ c45, ?_⟩
  refine wpTree_read _ rfl (fun K hK => ?_); unfold rOp; go_simp; (refine hK _ ?_; clear hK K)
  refine wpTree_fin ?_
  have gX5 := heap_set_at (j := 5) gX4 (.slice a2 un k2)
  have hoth : ∀ b, b ≠ w.heap.size -> ((W3.setCell ⟨w.heap.size, 4, none⟩ (.slice a1 on k1)).setCell ⟨w.heap.size, 5, none⟩ (.slice a2 un k2)).heap[b]? = W3.heap[b]? := fun b hb => by
    rw [heap_setCell_other hb, heap_setCell_other hb]
  have gR5 := (hoth (w.heap.size + 1) (by omega)).trans gR3
  have hO5 := hOf.same (fun y hy => hoth _ (by have := (hOf.lt y hy).1; omega))
  have hU5 := hU.same (fun y hy => hoth _ (by have := (hU.lt y hy).1; omega))
  have hb5 := below_setc (below_setc hbw (Nat.le_refl _) 4 (.slice a1 on k1)) (Nat.le_refl _) 5 (.slice a2 un k2)
  have hsz5 : ((W3.setCell ⟨w.heap.size, 4, none⟩ (.slice a1 on k1)).setCell ⟨w.heap.size, 5, none⟩ (.slice a2 un k2)).heap.size = W3.heap.size := by simp [World.setCell]
  have H5 := hiq (And.intro gX5 (And.intro gR5 (And.intro hO5 (And.intro hU5 (And.intro hb5 hsz5)))))
  obtain ⟨ux, g5, hux, -, eg5, hgB, hgl, hgf, hgc⟩ := hU5.at_ (fun _ => rfl) hil
  have hag : ∀ y, a1 = some y -> y.block ≠ g5 := fun y hy => by have := hOlt y hy; omega
  replace hgc := hgc 0 _ rfl
  rw [Nat.mul_one, Nat.add_zero] at hgc
  replace hgf := hgf i
  subst eg5
  clear hoth gX5 gR5 hO5 hU5 hb5 c0 c1 c2 c3 gX4 gX3 gR3 hU hbw hux
  obtain ⟨gX5, gR5, hO5, hU5, hb5, hsz5⟩ := H5.out
  change ((W3.setCell ⟨w.heap.size, 4, none⟩ (.slice a1 on k1)).setCell ⟨w.heap.size, 5, none⟩ (.slice (some ⟨g5, 0, none⟩) un k2)).heap[w.heap.size]? = some (.cells #[.string sec, .slice sa sn sc, .slice ta tn tc, .slice ca cn cc, .slice a1 on k1, .slice (some ⟨g5, 0, none⟩) un k2] 30 (0, 0)) at gX5
  obtain ⟨-, -, -, -, -, c5⟩ := box_cells6 gX5
  have gX6 := (heap_setCell_other (b := g5) (j := i) (b' := w.heap.size) (by omega) (.bool b)).trans gX5
  have gR6 := (heap_setCell_other (b := g5) (j := i) (b' := w.heap.size + 1) (by omega) (.bool b)).trans gR5
  obtain ⟨d0, d1, d2, d3, d4, d5⟩ := box_cells6 gX6
  obtain ⟨y0, y1, y2, y3, y4, y5⟩ := box_cells6 gR6
  have yf0 := frozen5 gR6 0
  have yf1 := frozen5 gR6 1
  have yf2 := frozen5 gR6 2
  have yf3 := frozen5 gR6 3
  have yf4 := frozen5 gR6 4
  have yf5 := frozen5 gR6 5
  have hO6 := hU5.put1 one_bool i b (.bool b) rfl
  have hQ6 := hO5.setOther (g := g5) (j := i) hag (.bool b)
  have hbw6 := hb5.setCell (p := ⟨g5, i, none⟩) (by show w.heap.size <= g5; omega) (.bool b)
  have hbf := put6_below hbw6 (b := w.heap.size + 1) (by omega) (.string sec) (.slice sa sn sc) (.slice ta tn tc) (.slice ca cn cc) (.slice a1 on k1) (.slice (some ⟨g5, 0, none⟩) un k2)
  obtain ⟨r0, r1, r2, r3, r4, r5⟩ := box_cells6 (put6_at gR6 (.string sec) (.slice sa sn sc) (.slice ta tn tc) (.slice ca cn cc) (.slice a1 on k1) (.slice (some ⟨g5, 0, none⟩) un k2))
  have hO7 := hO6.same (w' := put6 (((W3.setCell ⟨w.heap.size, 4, none⟩ (.slice a1 on k1)).setCell ⟨w.heap.size, 5, none⟩ (.slice (some ⟨g5, 0, none⟩) un k2)).setCell ⟨g5, i, none⟩ (.bool b)) (w.heap.size + 1) (.string sec) (.slice sa sn sc) (.slice ta tn tc) (.slice ca cn cc) (.slice a1 on k1) (.slice (some ⟨g5, 0, none⟩) un k2)) (fun y hy => by cases hy; exact put6_other (by show g5 ≠ _; omega) _ _ _ _ _ _)
  have hQ7 := hQ6.same (w' := put6 (((W3.setCell ⟨w.heap.size, 4, none⟩ (.slice a1 on k1)).setCell ⟨w.heap.size, 5, none⟩ (.slice (some ⟨g5, 0, none⟩) un k2)).setCell ⟨g5, i, none⟩ (.bool b)) (w.heap.size + 1) (.string sec) (.slice sa sn sc) (.slice ta tn tc) (.slice ca cn cc) (.slice a1 on k1) (.slice (some ⟨g5, 0, none⟩) un k2)) (fun y hy => put6_other (by have := (hQ6.lt y hy).1; omega) _ _ _ _ _ _)
  have HALL := hiq (And.intro hbf (And.intro (And.intro r0 (And.intro r1 (And.intro r2 (And.intro r3 (And.intro r4 r5))))) (And.intro hO7 hQ7)))
  have hws := hbw6.size
  clear hbf r0 r1 r2 r3 r4 r5 hO7 hQ7 hO6 hQ6 hU5 hO5 gX5 gR5 gX6 gR6 hb5 hbw6
  go_wp2
  change bodyPost _ _ _ _ _ (put6 (((W3.setCell ⟨w.heap.size, 4, none⟩ (.slice a1 on k1)).setCell ⟨w.heap.size, 5, none⟩ (.slice (some ⟨g5, 0, none⟩) un k2)).setCell ⟨g5, i, none⟩ (.bool b)) (w.heap.size + 1) (.string sec) (.slice sa sn sc) (.slice ta tn tc) (.slice ca cn cc) (.slice a1 on k1) (.slice (some ⟨g5, 0, none⟩) un k2))
  obtain ⟨hbf, ⟨r0, r1, r2, r3, r4, r5⟩, hO7, hQ7⟩ := HALL.out
  generalize put6 (((W3.setCell ⟨w.heap.size, 4, none⟩ (.slice a1 on k1)).setCell ⟨w.heap.size, 5, none⟩ (.slice (some ⟨g5, 0, none⟩) un k2)).setCell ⟨g5, i, none⟩ (.bool b)) (w.heap.size + 1) (.string sec) (.slice sa sn sc) (.slice ta tn tc) (.slice ca cn cc) (.slice a1 on k1) (.slice (some ⟨g5, 0, none⟩) un k2) = WF at *
  refine bodyPost_ret (v := .agg #[.string sec, .slice sa sn sc, .slice ta tn tc, .slice ca cn cc, .slice a1 on k1, .slice (some ⟨g5, 0, none⟩) un k2]) (by simp [results, Tryz.results67, go_sem, r0, r1, r2, r3, r4, r5]) rfl ?_
  have hXf := HX.out.below hbf
  rw [hVe.out] at hXf
  refine ⟨⟨⟨sec, sa, sn, sc, ta, tn, tc, ca, cn, cc⟩, a1, on, k1, some ⟨g5, 0, none⟩, un, k2⟩, rfl, ⟨hXf.1.mono (fun b q _ => .inl q.1), ?_, ?_⟩, hbf⟩
  · exact hQ7.opsq (by omega) (fun b q _ => .inr (by omega)) hok.out
  · exact hO7.flgs (by omega) (fun b q _ => .inr (by omega))
end Go.Proofs.YtfdipkhbemgojaaGreatDoor
namespace Go.Proofs.YtfdipkhbemgojaaGreatDoor
open Go.RowKit

/-- The log in which an operation is undone, or not, if it is valid. -/
def Lg.changed (l : Lg) (i : Nat) (b : Bool) : Lg × Int := if (l.set i b).err ≠ 0 then (Lg.none, 17) else (l.set i b, 0)
theorem turn_changed {l : Lg} {k : Nat} {b : Bool} (h0 : l.idx (k : Int) = 0) (hu : unK l.und k ≠ b) : l.turn (k : Int) b = l.changed k b := by
  unfold Lg.turn Lg.changed
  rw [if_neg (by simp [h0]), Int.toNat_natCast, if_neg hu]
theorem turn_same {l : Lg} {k : Nat} {b : Bool} (h0 : l.idx (k : Int) = 0) (hu : unK l.und k = b) : l.turn (k : Int) b = (Lg.none, if b then 7 else 6) := by
  unfold Lg.turn
  rw [if_neg (by simp [h0]), Int.toNat_natCast, if_pos hu]
theorem turn_err {l : Lg} {i : Int} {b : Bool} (h0 : l.idx i ≠ 0) : l.turn i b = (Lg.none, l.idx i) := by
  unfold Lg.turn; rw [if_pos h0]
theorem idx_zero {l : Lg} {i : Int} : l.idx i = 0 ↔ l.err = 0 /\ 0 <= i /\ i < l.ops.length := by
  unfold Lg.idx
  split
  · rename_i h; constructor
    · intro q; omega
    · rintro ⟨q, -⟩; exact absurd q h
  · rename_i h; split
    · constructor
      · intro q; omega
      · rintro ⟨-, q, q'⟩; omega
    · exact ⟨fun _ => ⟨by simpa using h, by omega, by omega⟩, fun _ => rfl⟩
theorem idx_nat {l : Lg} {i : Int} (h : l.idx i = 0) : ∃ k : Nat, i = (k : Int) /\ k < l.ops.length /\ k < l.und.length := by
  obtain ⟨h1, h2, h3⟩ := idx_zero.1 h
  have := (err_zero.1 h1).1.2.1
  exact ⟨i.toNat, by omega, by omega, by omega⟩
theorem sml_set {l : Lg} {i : Nat} {b : Bool} (h : SmL l) : SmL (l.set i b) := h
/-- What Undo, Redo, changed answer. -/
def LogPost (S : Nat -> Prop) (r : Lg × Int) (w : World) (e : Ending) (w' : World) : Prop :=
  ∃ v' : LV, e = .returned (.tuple #[v'.val, .int .i64 r.2]) /\ RdL (fun b => S b \/ w.heap.size <= b) w' v' r.1 /\ Below w.heap.size w w'
/-- What Depends answers. -/
def DepPost (r : List Int × Int) (w : World) (e : Ending) (w' : World) : Prop :=
  ∃ (a : Option Addr) (n c : Nat), e = .returned (.tuple #[.slice a n c, .int .i64 r.2]) /\ Nums (fun b => w.heap.size <= b) w' a n c r.1 /\ Below w.heap.size w w'
theorem changed_any (S : Nat -> Prop) (v : LV) (l : Lg) (k : Nat) (b : Bool) (w : World) (h : RdL S w v l) (hm : SmL l) (hE : Env w) (hk : k < l.und.length) : Calls Tryz.prog 64 #[v.val, .int .i64 (k : Int), .bool b] w (LogPost S (l.changed k b) w) := by
  have h2 : RdL (fun b => S b /\ b < w.heap.size) w v l := h.mono (fun b q q' => ⟨q, q'⟩)
  have HSET : Hid (∀ W, Below w.heap.size w W -> Calls Tryz.prog 67 #[v.val, .int .i64 (k : Int), .bool b] W (SetPost (fun b => S b /\ b < w.heap.size) l k b W)) := fun W hb => with_any _ v l k b W (h2.below hb) hk
  have HCK : Hid (∀ (T : Nat -> Prop) (u : LV) W, Below w.heap.size w W -> RdL T W u (l.set k b) -> Calls Tryz.prog 20 #[u.val] W fun e w' => e = .returned (.int .i64 (l.set k b).err) /\ Below W.heap.size W w') := fun T u W hb hu => lck_any T u _ W hu (sml_set hm) (hE.below hb)
  have E0 : Hid ((l.set k b).err ≠ 0 -> l.changed k b = (Lg.none, 17)) := fun q => by unfold Lg.changed; rw [if_pos q]
  have E1 : Hid ((l.set k b).err = 0 -> l.changed k b = (l.set k b, 0)) := fun q => by unfold Lg.changed; rw [if_neg (by simp [q])]
  unfold SetPost at HSET
  unfold LogPost
  generalize l.changed k b = R at *
  generalize l.set k b = M at *
  generalize M.err = ME at *
  clear h h2 hm hE hk
  obtain ⟨⟨sec, sa, sn, sc, ta, tn, tc, ca, cn, cc⟩, oa, on, oc, ua, un, uc⟩ := v
  change Calls _ _ #[.agg #[.string sec, .slice sa sn sc, .slice ta tn tc, .slice ca cn cc, .slice oa on oc, .slice ua un uc], _, _] _ _
  change Hid (∀ W, _ -> Calls _ _ #[.agg #[.string sec, .slice sa sn sc, .slice ta tn tc, .slice ca cn cc, .slice oa on oc, .slice ua un uc], _, _] _ _) at HSET
  obtain ⟨W1, hW1, hb, hs1, gX, gR⟩ := box2r w #[.string sec, .slice sa sn sc, .slice ta tn tc, .slice ca cn cc, .slice oa on oc, .slice ua un uc] #[.string ⟨#[]⟩, .slice none 0 0, .slice none 0 0, .slice none 0 0, .slice none 0 0, .slice none 0 0] 30 30
  obtain ⟨c0, c1, c2, c3, c4, c5⟩ := box_cells6 gX
  rw [hW1] at c0 c1 c2 c3 c4 c5
  clear gX
  go_enter Tryz.func64, Tryz.ntmps64
  go_wp2_with fail
  rw [<- hW1] at *
  clear hW1
  have HSQ := hiq (HSET.out _ hb)
  go_wp2_with fail
  refine HSQ.out.mono ?_
  rintro e W3 ⟨v2, he, hR3, hb4⟩
  obtain ⟨⟨sec2, sa2, sn2, sc2, ta2, tn2, tc2, ca2, cn2, cc2⟩, oa2, on2, oc2, ua2, un2, uc2⟩ := v2
  change e = .returned (.agg #[.string sec2, .slice sa2 sn2 sc2, .slice ta2 tn2 tc2, .slice ca2 cn2 cc2, .slice oa2 on2 oc2, .slice ua2 un2 uc2]) at he
  subst he
  have hal : Below W3.heap.size W3 (W3.alloc (.cells #[.string sec2, .slice sa2 sn2 sc2, .slice ta2 tn2 tc2, .slice ca2 cn2 cc2, .slice oa2 on2 oc2, .slice ua2 un2 uc2] 30)) := (Below.refl _ _).alloc (Nat.le_refl _) _
  have hb5 := hb4.trans (hal.mono hb4.size)
  obtain ⟨z0, z1, z2, z3, z4, z5⟩ := box_cells6 (World.alloc_heap_new W3 (.cells #[.string sec2, .slice sa2 sn2 sc2, .slice ta2 tn2 tc2, .slice ca2 cn2 cc2, .slice oa2 on2 oc2, .slice ua2 un2 uc2] 30))
  replace gR := (hb5.block _ (by omega)).trans gR
  have hRV := hR3.below hal
  have hsz := hb5.size
  replace hb := hb.trans (hb5.mono hb.size)
  have HCQ := hiq (HCK.out _ ⟨⟨sec2, sa2, sn2, sc2, ta2, tn2, tc2, ca2, cn2, cc2⟩, oa2, on2, oc2, ua2, un2, uc2⟩ _ hb hRV)
  change Hid (Calls _ _ #[.agg #[.string sec2, .slice sa2 sn2 sc2, .slice ta2 tn2 tc2, .slice ca2 cn2 cc2, .slice oa2 on2 oc2, .slice ua2 un2 uc2]] _ _) at HCQ
  have HRV0 := hiq hRV
  have hs3 := hb4.size
  clear hR3 hb4 hb5 hal HSQ hRV HCK HSET
  go_wp2_with fail
  generalize W3.alloc (.cells #[.string sec2, .slice sa2 sn2 sc2, .slice ta2 tn2 tc2, .slice ca2 cn2 cc2, .slice oa2 on2 oc2, .slice ua2 un2 uc2] 30) = W4 at *
  refine HCQ.out.mono ?_
  rintro e W5 ⟨rfl, hb6⟩
  replace z0 := clq hb6 z0; replace z1 := clq hb6 z1; replace z2 := clq hb6 z2; replace z3 := clq hb6 z3; replace z4 := clq hb6 z4; replace z5 := clq hb6 z5
  replace gR := (hb6.block _ (by omega)).trans gR
  replace hb := hb.trans (hb6.mono hb.size)
  have HRV := hiq (HRV0.out.below hb6)
  have hs5 := hb6.size
  clear HCQ HRV0 hb6
  by_cases m0 : ME = 0
  · have t9 : ((ME : Int) != 0) = false := by simp [m0]
    obtain ⟨y0, y1, y2, y3, y4, y5⟩ := box_cells6 gR
    have yf0 := frozen5 gR 0
    have yf1 := frozen5 gR 1
    have yf2 := frozen5 gR 2
    have yf3 := frozen5 gR 3
    have yf4 := frozen5 gR 4
    have yf5 := frozen5 gR 5
    have HALL := hiq (And.intro gR hb)
    clear gR hb 
    go_wp2
    change bodyPost _ _ _ _ _ (put6 W5 (w.heap.size + 1) (.string sec2) (.slice sa2 sn2 sc2) (.slice ta2 tn2 tc2) (.slice ca2 cn2 cc2) (.slice oa2 on2 oc2) (.slice ua2 un2 uc2))
    obtain ⟨gR, hb⟩ := HALL.out
    obtain ⟨r0, r1, r2, r3, r4, r5⟩ := box_cells6 (put6_at gR (.string sec2) (.slice sa2 sn2 sc2) (.slice ta2 tn2 tc2) (.slice ca2 cn2 cc2) (.slice oa2 on2 oc2) (.slice ua2 un2 uc2))
    have hbf := put6_below hb (b := w.heap.size + 1) (by omega) (.string sec2) (.slice sa2 sn2 sc2) (.slice ta2 tn2 tc2) (.slice ca2 cn2 cc2) (.slice oa2 on2 oc2) (.slice ua2 un2 uc2)
    have hRf := HRV.out.keep (put6_keep (W := W5) (b := w.heap.size + 1) (by rintro (⟨-, q⟩ | q) <;> omega) (.string sec2) (.slice sa2 sn2 sc2) (.slice ta2 tn2 tc2) (.slice ca2 cn2 cc2) (.slice oa2 on2 oc2) (.slice ua2 un2 uc2))
    generalize put6 W5 (w.heap.size + 1) (.string sec2) (.slice sa2 sn2 sc2) (.slice ta2 tn2 tc2) (.slice ca2 cn2 cc2) (.slice oa2 on2 oc2) (.slice ua2 un2 uc2) = WF at *
    refine bodyPost_ret (v := .tuple #[.agg #[.string sec2, .slice sa2 sn2 sc2, .slice ta2 tn2 tc2, .slice ca2 cn2 cc2, .slice oa2 on2 oc2, .slice ua2 un2 uc2], .int .i64 0]) (by simp [results, Tryz.results64, go_sem, r0, r1, r2, r3, r4, r5]) rfl ?_
    rw [E1.out m0]
    exact ⟨⟨⟨sec2, sa2, sn2, sc2, ta2, tn2, tc2, ca2, cn2, cc2⟩, oa2, on2, oc2, ua2, un2, uc2⟩, rfl, hRf.mono (fun b q _ => by rcases q with q | q; exact .inl q.1; exact .inr (by omega)), hbf⟩
  · have t9 : ((ME : Int) != 0) = true := by simpa using m0
    obtain ⟨y0, y1, y2, y3, y4, y5⟩ := box_cells6 gR
    have yf0 := frozen5 gR 0
    have yf1 := frozen5 gR 1
    have yf2 := frozen5 gR 2
    have yf3 := frozen5 gR 3
    have yf4 := frozen5 gR 4
    have yf5 := frozen5 gR 5
    have HALL := hiq (And.intro gR hb)
    clear gR hb 
    go_wp2
    change bodyPost _ _ _ _ _ (put6 W5 (w.heap.size + 1) (.string ⟨#[]⟩) (.slice none 0 0) (.slice none 0 0) (.slice none 0 0) (.slice none 0 0) (.slice none 0 0))
    obtain ⟨gR, hb⟩ := HALL.out
    obtain ⟨r0, r1, r2, r3, r4, r5⟩ := box_cells6 (put6_at gR (.string ⟨#[]⟩) (.slice none 0 0) (.slice none 0 0) (.slice none 0 0) (.slice none 0 0) (.slice none 0 0))
    have hbf := put6_below hb (b := w.heap.size + 1) (by omega) (.string ⟨#[]⟩) (.slice none 0 0) (.slice none 0 0) (.slice none 0 0) (.slice none 0 0) (.slice none 0 0)
    generalize put6 W5 (w.heap.size + 1) (.string ⟨#[]⟩) (.slice none 0 0) (.slice none 0 0) (.slice none 0 0) (.slice none 0 0) (.slice none 0 0) = WF at *
    refine bodyPost_ret (v := .tuple #[.agg #[.string ⟨#[]⟩, .slice none 0 0, .slice none 0 0, .slice none 0 0, .slice none 0 0, .slice none 0 0], .int .i64 17]) (by simp [results, Tryz.results64, go_sem, r0, r1, r2, r3, r4, r5]) rfl ?_
    rw [E0.out m0]
    exact ⟨⟨⟨⟨#[]⟩, none, 0, 0, none, 0, 0, none, 0, 0⟩, none, 0, 0, none, 0, 0⟩, rfl, rdL_none _ _, hbf⟩
end Go.Proofs.YtfdipkhbemgojaaGreatDoor
