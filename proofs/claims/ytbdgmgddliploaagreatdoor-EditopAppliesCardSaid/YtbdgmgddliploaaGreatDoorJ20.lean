/- Joined: EAplR. -/
import Derived.Test.YtbdgmgddliploaaGreatDoorJ19
set_option linter.unusedVariables false
set_option linter.unusedSimpArgs false
set_option maxRecDepth 100000
set_option maxHeartbeats 16000000
namespace Go.Proofs.YtbdgmgddliploaaGreatDoor
open Go.RowKit

theorem flat_set {α : Type} {enc : α -> List Value} {size : Nat} (henc : ∀ x, (enc x).length = size) : ∀ (l : List α) (j : Nat) (y y' : α) (i : Nat) (v : Value), l[j]? = some y -> i < size -> enc y' = (enc y).set i v -> (l.flatMap enc).set (j * size + i) v = (l.set j y').flatMap enc
  | [], j, y, y', i, v, h, _, _ => by simp at h
  | u :: l, 0, y, y', i, v, h, hi, he => by
    simp at h; subst h
    rw [List.set_cons_zero, List.flatMap_cons, List.flatMap_cons, Nat.zero_mul, Nat.zero_add, List.set_append_left _ _ (by rw [henc]; exact hi), he]
  | u :: l, j + 1, y, y', i, v, h, hi, he => by
    rw [List.set_cons_succ, List.flatMap_cons, List.flatMap_cons, <- flat_set henc l j y y' i v (by simpa using h) hi he, List.set_append_right _ _ (by rw [henc, Nat.add_mul]; omega), henc]
    congr 2
    rw [Nat.add_mul]; omega
theorem OwnQ.putTok {w : World} {B g n cap j : Nat} {l : List Tok} {y : Tok} (h : OwnQ 76 6 Tok.cells w B (some ⟨g, 0, none⟩) n cap l) (hy : l[j]? = some y) (t : ByteArray) :
    OwnQ 76 6 Tok.cells (w.setCell ⟨g, j * 6 + 1, none⟩ (.string t)) B (some ⟨g, 0, none⟩) n cap (l.set j { y with norm := t }) := by
  refine ⟨by simpa using h.1, ?_⟩
  rw [<- flat_set tok_len l j y { y with norm := t } 1 (.string t) hy (by omega) rfl]
  exact (h.2.stored _ _).1
theorem Sq.okTok {S : Nat -> Prop} {w : World} {a : Option Addr} {n c : Nat} {l : List Tok} (h : Toks S w a n c l) (t : Tok) (ht : t ∈ l) : t.ok := by
  obtain ⟨j, hj, rfl⟩ := List.getElem_of_mem ht
  obtain ⟨x, b, off, h1, -, -, -, -, h2, -⟩ := h.tok (j := j) (by rw [h.len]; exact hj)
  rw [List.getElem?_eq_getElem hj] at h1
  cases h1; exact h2
theorem OwnG.keepLt {α : Type} {e1 e size : Nat} {enc : α -> List Value} {w w' : World} {B n cap : Nat} {a : Option Addr} {ps : List (Row × List α)} (h : OwnG e1 e size enc w B a n cap ps) (k : ∀ b, B <= b -> b < w.heap.size -> w'.heap[b]? = w.heap[b]?) : OwnG e1 e size enc w' B a n cap ps :=
  ⟨h.1.same fun x hx => k _ (h.1.lt x hx).1 (h.1.lt x hx).2, ⟨fun p hp => (h.2.1.1 p hp).same fun x hx => k _ ((h.2.1.1 p hp).lt x hx).1 ((h.2.1.1 p hp).lt x hx).2, h.2.1.2⟩, h.2.2⟩
theorem OwnQ.sqRows {α : Type} {R : Rel α} {S : Nat -> Prop} {k s e1 B n cap : Nat} {w : World} {a : Option Addr} {rs : List Row} {ll : List (List α)} (h : OwnQ e1 1 encR w B a n cap rs) (hn : n * 24 <= 140737488355328) (hS : ∀ x, a = some x -> S x.block) (hl : ll.length = rs.length)
    (hr : ∀ (j : Nat) (r : Row), rs[j]? = some r -> ∃ x, ll[j]? = some x /\ Sq R k s S w r.1 r.2.1 r.2.2 x) : Sq (rSl R k s) 1 24 S w a n cap ll := by
  refine ⟨by rw [h.len, hl], h.cap_le, hn, fun j x hj => ?_⟩
  obtain ⟨r, g, h1, -, rfl, -, h4, -, h5⟩ := h.at_ (j := j) (fun _ => rfl) (by rw [h.len, <- hl]; exact (List.getElem?_eq_some_iff.1 hj).1)
  obtain ⟨y, hy1, hy2⟩ := hr j r h1
  rw [hj] at hy1; cases hy1
  exact ⟨g, 0, encR r, rfl, hS _ rfl, h4, rfl, by rw [Nat.zero_add]; exact h5, r.1, r.2.1, r.2.2, rfl, hy2⟩
theorem apply_4 (S : Nat -> Prop) (v : CV) (x : Col) (o : Op) (s c : Nat) (w : World) (h : RdC S w v x) (F : Fits x o s c) (hk : o.kind = 4) (ho : o.ok) :
    Calls Tryz.prog 41 #[v.val, o.val, .agg #[.int .i64 (s : Int), .int .i64 (c : Int), .int .i64 (o.oth c)]] w (ApplyPost S x o s c w) := by
  have HAP : Hid (∀ (W : World) (B : Nat) (a : Option Addr) (n cap : Nat) (ps : List (Row × List Int)), OwnC W B a n cap ps -> B <= W.heap.size -> ps.map (·.2) = x.cols -> Calls Tryz.prog 80 #[.slice a n cap, o.val, .agg #[.int .i64 (s : Int), .int .i64 (c : Int), .int .i64 (o.oth c)]] W (AplPost x o s c W B)) :=
    fun W B a n cap ps hO hB hx => apl_4 W B a n cap ps x o s c hO hB hx hk
  have hT : Hid (opToks x o s = x.toks.set s ((x.tks s).set o.tok.toNat { x.tk s o.tok with norm := o.text })) := by show _ = _; unfold opToks; rw [if_pos hk]
  have HTK : Hid (s < x.toks.length /\ 0 <= o.tok /\ o.tok < ((x.tks s).length : Int)) := ⟨by rw [F.heads.len]; exact F.ks, F.t0, F.t1⟩
  have hsm : Hid (∀ r ∈ x.cols, 0 < r.length) := fun r hr => (cols_small F.valid hr).2.1
  have hcb : x.cols.length <= 32768 := cols_bound F.valid
  have HF := hiq F
  have HOX : Hid (o.text.size <= 140737488355328) := ho.2.2.2.2
  clear ho
  obtain ⟨sec, sa, sn, sc, ta, tn, tc, ca, cn, cc⟩ := v
  obtain ⟨hsec, hsz, h2, h3, h4⟩ := h
  dsimp only at hsec hsz h2 h3 h4
  unfold ApplyPost
  generalize Op.oth o c = po at *
  generalize hO : opAt x o s c = OA at *
  generalize hOC : opCols x o s c = OC at *
  obtain ⟨OV, hOV⟩ : ∃ OV, OV = o := ⟨_, rfl⟩
  rw [<- hOV] at hO hOC hT HAP
  obtain ⟨ok, og, ot, oo, ox⟩ := o
  dsimp only at hk
  subst hk
  change Calls _ _ #[.agg #[.string sec, .slice sa sn sc, .slice ta tn tc, .slice ca cn cc], .agg #[.int .i64 4, .string og, .int .i64 ot, .int .i64 oo, .string ox], .agg #[.int .i64 (s : Int), .int .i64 (c : Int), .int .i64 po]] _ _
  obtain ⟨hb0, hs1, gX, gO, gP, gR⟩ := box4 w #[.string sec, .slice sa sn sc, .slice ta tn tc, .slice ca cn cc] #[.int .i64 4, .string og, .int .i64 ot, .int .i64 oo, .string ox] #[.int .i64 (s : Int), .int .i64 (c : Int), .int .i64 po] #[.string ⟨#[]⟩, .slice none 0 0, .slice none 0 0, .slice none 0 0] 26 28 66 26
  have HCN := hiq h4.len
  have hcbn : cn <= 32768 := by rw [h4.len]; exact hcb
  have h4' := h4.below (rSl_ok rInt_ok) hb0
  obtain ⟨c0, c1, c2, c3, -⟩ := box_cells4 gX
  have HX := hiq (And.intro h2 h3)
  have HSE := hiq (And.intro hsec hsz)
  clear h2 h3 h4 F hsec hsz hcb
  go_enter Tryz.func41, Tryz.ntmps41
  go_wp2
  generalize (((w.alloc (.cells #[.string sec, .slice sa sn sc, .slice ta tn tc, .slice ca cn cc] 26)).alloc (.cells #[.int .i64 4, .string og, .int .i64 ot, .int .i64 oo, .string ox] 28)).alloc (.cells #[.int .i64 (s : Int), .int .i64 (c : Int), .int .i64 po] 66)).alloc (.cells #[.string ⟨#[]⟩, .slice none 0 0, .slice none 0 0, .slice none 0 0] 26) = W1 at *
  have hstart : OwnC W1 W1.heap.size none 0 0 [] := OwnG.nil _ _ _ _ _ _
  go_loopw [7, 13] (fun t i wr => ∃ (k : Nat) (a' : Option Addr) (cap' : Nat) (ps : List (Row × List Int)), i = .int .i64 k /\ k <= cn /\ t = .slice a' k cap' /\ Hid (OwnC wr W1.heap.size a' k cap' ps) /\ Hid (ps.map (·.2) = x.cols.take k) /\ Below W1.heap.size W1 wr) (fun _ i _ => cn - (intOf i).toNat)
  case atStart => exact ⟨0, none, 0, [], rfl, Nat.zero_le _, rfl, hstart, by show _ = _; simp, Below.refl _ _⟩
  case round =>
    clear hstart
    obtain ⟨k, a', cap', ps, rfl, hk, rfl, hO1, hm, hb⟩ := hrel
    by_cases hkl : k < cn
    · obtain ⟨r, b, off, a2, n2, k2, hu, hmem, ea, -, hbl, hr, d1⟩ := (h4'.below (rSl_ok rInt_ok) hb).row hkl
      subst ea
      have HCL := hiq (clone_int S a2 n2 k2 r wr hr (by rw [hr.len]; exact hsm.out r hmem))
      have hm2 : Hid (x.cols.take (k + 1) = x.cols.take k ++ [r]) := take_next hu
      have HI := Tryz.infoInts
      clear hu hmem hr hbl
      go_wp2_with fail
      refine HCL.out.mono ?_
      rintro e W2 ⟨a3, k3, rfl, ho3, hb3⟩
      have hb4 : Below wr.heap.size wr (W2.alloc (.cells #[.slice a3 n2 k3] 61)) := hb3.alloc hb3.size _
      have HO1 := hiq ((hO1.out.below hb4).1)
      have ho4 := hiq (ho3.alloc (.cells #[.slice a3 n2 k3] 61))
      have hbB := hb.trans (hb4.mono hb.size)
      have HV : Hid (∀ j u, (([(a3, n2, k3)] : List Row).flatMap encR)[j]? = some u -> (W2.alloc (.cells #[.slice a3 n2 k3] 61)).cell? ((⟨W2.heap.size, 0, none⟩ : Addr).add j) = some u) := fun j u hj => lit_cells (by exact hj)
      have hB9 : W1.heap.size <= (W2.alloc (.cells #[.slice a3 n2 k3] 61)).heap.size := hbB.size
      have hsW := hb.size
      go_wp2_with (at_builtin; refine wpList_appQ (l := ps.map (·.1)) (ys := [(a3, n2, k3)]) HI Tryz.underlying24 rfl (by omega) (fun _ => rfl) one_r rfl _ _ rfl rfl rfl HO1.out rfl HV.out (by unfold maxLen; omega) (by omega) hB9 hbB ?_; intro a5 c5 w5 ho5 hb5 hg5 hv5)
      have hP := hO1.out.push hb4 (p := ((a3, n2, k3), r)) ho4.out hsW ho5 hg5 hv5
      go_roundw
      case rel => exact ⟨k + 1, a5, c5, _, by go_num, by omega, rfl, hP, by show _ = _; rw [hm2.out, List.map_append, hm.out]; rfl, hb5⟩
      case measure => simp [intOf]; omega
    · obtain rfl : cn = k := by omega
      have hm3 : Hid (ps.map (·.2) = x.cols) := by show _ = _; rw [hm.out, HCN.out, List.take_length]
      have gO2 := (hb.block _ (by omega)).trans gO
      have gP2 := (hb.block _ (by omega)).trans gP
      obtain ⟨o0, o1, o2, o3, o4⟩ := box_cells5 gO2
      obtain ⟨p0, p1, p2, -⟩ := box_cells3 gP2
      clear hm c0 c1 c2 c3
      have HPb : Hid (W1.heap.size = w.heap.size + 4 /\ W1.heap[w.heap.size]? = some (.cells #[.string sec, .slice sa sn sc, .slice ta tn tc, .slice ca cn cc] 26 (0, 0)) /\ W1.cell? ⟨w.heap.size + 1, 0, none⟩ = some (.int .i64 4) /\ W1.heap[w.heap.size + 3]? = some (.cells #[.string ⟨#[]⟩, .slice none 0 0, .slice none 0 0, .slice none 0 0] 26 (0, 0))) := ⟨hs1, gX, (box_cells5 gO).1, gR⟩
      have HB0 := hiq hb0
      clear gX gO gP gR hs1 hb0 gO2 gP2
      go_wp2
      obtain ⟨X, Wf, hX, hS1, hS2⟩ := family (fun W => Below W1.heap.size wr W) wr (Below.refl _ _)
      have HS2 := hiq hS2
      have hq : ∀ (x : X) (b j : Nat) (u : Value), b < W1.heap.size -> wr.cell? ⟨b, j, none⟩ = some u -> (Wf x).cell? ⟨b, j, none⟩ = some u := fun x b j u hbb hc => by
        rw [World.cell?_of_block ((hS1 x).block b hbb)]; exact hc
      have hs4 : w.heap.size + 4 = W1.heap.size := HPb.out.1.symm
      have q0 := fun x => hq x _ _ _ (by omega) o0
      have q1 := fun x => hq x _ _ _ (by omega) o1
      have q2 := fun x => hq x _ _ _ (by omega) o2
      have q3 := fun x => hq x _ _ _ (by omega) o3
      have q4 := fun x => hq x _ _ _ (by omega) o4
      have q5 := fun x => hq x _ _ _ (by omega) p0
      have q6 := fun x => hq x _ _ _ (by omega) p1
      have q7 := fun x => hq x _ _ _ (by omega) p2
      clear hS1 hS2 hq
      have hd0 : Below W1.heap.size wr wr.drew := (Below.refl _ _).drew
      refine wp_region_reads (Wf := Wf) 9 [1, 2, 5, 6, 7] [0, 3, 4, 8] (by kernel_rfl) (by kernel_rfl) (fun _ _ d _ _ h => by cases d <;> exact h) (HS2.out _ hd0) ?_
      simp only [pickOps, List.filterMap_cons, List.filterMap_nil, List.getElem?_cons_zero, List.getElem?_cons_succ]
      repeat (refine wpReads_step (fun K hK => ?_); unfold rOp; go_simp; (refine hK _ ?_; clear hK K))
      clear q0 q1 q2 q3 q4 q5 q6 q7
      refine wpReads_nil (wpActs_cons ?_)
      have HK := hiq (kinds_any wr.drew)
      have hsz2 := hb.size
      go_wp2_with fail
      refine HK.out.mono ?_
      rintro e W5 ⟨rfl, hb5⟩
      have hd1 := hd0.trans (hb5.mono hsz2)
      have hO5 := (hO1.out.drewN 1).below hb5
      go_wp2_with fail
      refine ⟨HS2.out _ hd1, wpActs_cons ?_⟩
      have hix := kind_4 W5
      go_wp2_with fail
      clear hix
      refine ⟨HS2.out _ hd1, wpActs_cons ?_⟩
      have hif := kindA_4 W5
      go_wp2_with fail
      clear hif
      refine ⟨HS2.out _ hd1, wpActs_cons ?_⟩
      have HAL := HAP.out W5 W1.heap.size a' cn cap' ps hO5 (Nat.le_trans hsz2 (Nat.le_trans hd0.size hb5.size)) hm3.out
      rw [hOV] at HAL
      unfold AplPost at HAL
      have HALL := hiq HAL
      clear HK HAL hO5
      go_wp2_with fail
      refine HALL.out.mono ?_
      rintro e W6 ⟨a6, n6, c6, ps6, rfl, hO6, hm6, hb6⟩
      have hd2 := hd1.trans hb6
      go_wp2_with fail
      refine ⟨HS2.out _ hd2, wpActs_nil ?_⟩
      simp only [List.drop_succ_cons, List.drop_zero]
      have gX6 := ((hb.trans hd2).block w.heap.size (by omega)).trans HPb.out.2.1
      have gR6 := ((hb.trans hd2).block (w.heap.size + 3) (by omega)).trans HPb.out.2.2.2
      obtain ⟨c0, c1, c2, c3, cf⟩ := box_cells4 gX6
      have cf3 := cf 3
      -- behind the store of the columns
      have gX7 := heap_set_at (j := 3) gX6 (.slice a6 n6 c6)
      have gR7 : (W6.setCell ⟨w.heap.size, 3, none⟩ (.slice a6 n6 c6)).heap[w.heap.size + 3]? = some (.cells #[.string ⟨#[]⟩, .slice none 0 0, .slice none 0 0, .slice none 0 0] 26 (0, 0)) := by rw [Below.heap_setCell _ _ _ _ (by show w.heap.size + 3 ≠ w.heap.size; omega)]; exact gR6
      have o6 := (World.cell?_setCell_other W6 ⟨w.heap.size, 3, none⟩ ⟨w.heap.size + 1, 0, none⟩ (.slice a6 n6 c6) (by intro e; have e2 : w.heap.size = w.heap.size + 1 := congrArg Addr.block e; omega)).trans ((World.cell?_of_block (a := ⟨w.heap.size + 1, 0, none⟩) ((hb.trans hd2).block (w.heap.size + 1) (by omega))).trans HPb.out.2.2.1)
      obtain ⟨x0, x1, x2, x3, -⟩ := box_cells4 gX7
      obtain ⟨y0, y1, y2, y3, yf⟩ := box_cells4 gR7
      have yf0 := yf 0
      have yf1 := yf 1
      have yf2 := yf 2
      have yf3 := yf 3
      -- tokens
      obtain ⟨HTl, HTt0, HTt1⟩ := HTK.out
      have hgT := hd2
      have HW7 := hiq (And.intro hO6 (And.intro hm6 (And.intro hd2 (And.intro gX7 gR7))))
      have hs6 : W1.heap.size <= W6.heap.size := Nat.le_trans hb.size hd2.size
      have hb7 : Below w.heap.size w (W6.setCell ⟨w.heap.size, 3, none⟩ (.slice a6 n6 c6)) := (HB0.out.trans ((hb.trans hd2).mono HB0.out.size)).setCell (p := ⟨w.heap.size, 3, none⟩) (Nat.le_refl _) _
      have hk7 : KeepS (fun b => W1.heap.size <= b) W6 (W6.setCell ⟨w.heap.size, 3, none⟩ (.slice a6 n6 c6)) := KeepS.setCell W6 (by omega) _
      have hO7 := hiq (hO6.keepS hk7)
      have HCT := hiq (clone_tokss (fun b => S b /\ b < w.heap.size) ta tn tc x.toks _ ((HX.out.2.mono (rSl_ok rTok_ok) (fun b h1 h2 => ⟨h1, h2⟩)).below (rSl_ok rTok_ok) hb7) (by rw [HX.out.2.len]; omega))
      have s0' := (World.cell?_setCell_other W6 ⟨w.heap.size, 3, none⟩ ⟨w.heap.size + 1 + 1, 0, none⟩ (.slice a6 n6 c6) (by intro e; have e2 : w.heap.size = w.heap.size + 1 + 1 := congrArg Addr.block e; omega)).trans ((World.cell?_of_block (a := ⟨w.heap.size + 1 + 1, 0, none⟩) (hd2.block (w.heap.size + 1 + 1) (by omega))).trans p0)
      have t2' := (World.cell?_setCell_other W6 ⟨w.heap.size, 3, none⟩ ⟨w.heap.size + 1, 2, none⟩ (.slice a6 n6 c6) (by intro e; have e2 : w.heap.size = w.heap.size + 1 := congrArg Addr.block e; omega)).trans ((World.cell?_of_block (a := ⟨w.heap.size + 1, 2, none⟩) (hd2.block (w.heap.size + 1) (by omega))).trans o2)
      have t4' := (World.cell?_setCell_other W6 ⟨w.heap.size, 3, none⟩ ⟨w.heap.size + 1, 4, none⟩ (.slice a6 n6 c6) (by intro e; have e2 : w.heap.size = w.heap.size + 1 := congrArg Addr.block e; omega)).trans ((World.cell?_of_block (a := ⟨w.heap.size + 1, 4, none⟩) (hd2.block (w.heap.size + 1) (by omega))).trans o4)
      have hs7 : W1.heap.size <= (W6.setCell ⟨w.heap.size, 3, none⟩ (.slice a6 n6 c6)).heap.size := by simpa [World.setCell] using hs6
      have HB7 := hiq hb7
      clear gX6 gR6 yf hd2 hd1 hd0 hb5 hb6 hO6 hm6 HALL HS2 cf o0 o1 o2 o3 o4 p0 p1 p2 hk7 hb7 y0 y1 y2 y3 yf0 yf1 yf2 yf3
      go_wp2_with fail
      generalize W6.setCell ⟨w.heap.size, 3, none⟩ (.slice a6 n6 c6) = W7 at *
      refine HCT.out.mono ?_
      rintro e W8 ⟨ta2, tc2, rs, rfl, hoT, hrs, hb8⟩
      have gX8 := (hb8.block _ (by omega)).trans gX7
      have gR8 := (hb8.block _ (by omega)).trans gR7
      have gX9 := heap_set_at (j := 2) gX8 (.slice ta2 tn tc2)
      have gR9 : (W8.setCell ⟨w.heap.size, 2, none⟩ (.slice ta2 tn tc2)).heap[w.heap.size + 3]? = some (.cells #[.string ⟨#[]⟩, .slice none 0 0, .slice none 0 0, .slice none 0 0] 26 (0, 0)) := by rw [Below.heap_setCell _ _ _ _ (by show w.heap.size + 3 ≠ w.heap.size; omega)]; exact gR8
      obtain ⟨c0, c1, c2, c3, cf⟩ := box_cells4 gX8
      have cf2 := cf 2
      have hne : ∀ (b j : Nat), b ≠ w.heap.size -> (⟨w.heap.size, 2, none⟩ : Addr) ≠ ⟨b, j, none⟩ := by intro b j hb e; exact hb (congrArg Addr.block e).symm
      have s1' := (World.cell?_setCell_other W8 ⟨w.heap.size, 2, none⟩ _ (.slice ta2 tn tc2) (hne _ _ (by omega))).trans (clq hb8 s0')
      have t1' := (World.cell?_setCell_other W8 ⟨w.heap.size, 2, none⟩ _ (.slice ta2 tn tc2) (hne _ _ (by omega))).trans (clq hb8 t2')
      have t3' := (World.cell?_setCell_other W8 ⟨w.heap.size, 2, none⟩ _ (.slice ta2 tn tc2) (hne _ _ (by omega))).trans (clq hb8 t4')
      have hoT9 := hoT.setOther (g := w.heap.size) (j := 2) (fun y hy => by have := (hoT.lt y hy).1; omega) (.slice ta2 tn tc2)
      have hrl : rs.length = tn := hoT.len.symm
      obtain ⟨r, gT, hrs1, -, eT, hgT7, hgT8, -, hTat⟩ := hoT9.at_ (fun _ => rfl) (j := s) (by rw [HX.out.2.len]; exact HTl)
      subst eT
      have hTc := hTat 0 _ rfl
      rw [Nat.mul_one, Nat.add_zero] at hTc
      obtain ⟨xs, hxs, hrow⟩ := hrs s r hrs1
      have hxt : x.tks s = xs := by unfold Col.tks; rw [hxs]; rfl
      have hb9w : Below w.heap.size W7 (W8.setCell ⟨w.heap.size, 2, none⟩ (.slice (some ⟨gT, 0, none⟩) tn tc2)) := (hb8.mono (show w.heap.size <= W7.heap.size by omega)).setCell (p := ⟨w.heap.size, 2, none⟩) (Nat.le_refl _) _
      have hs9 : W7.heap.size <= (W8.setCell ⟨w.heap.size, 2, none⟩ (.slice (some ⟨gT, 0, none⟩) tn tc2)).heap.size := by simpa [World.setCell] using hb8.size
      have HK9 : Hid (∀ b, w.heap.size < b -> b < W7.heap.size -> (W8.setCell ⟨w.heap.size, 2, none⟩ (.slice (some ⟨gT, 0, none⟩) tn tc2)).heap[b]? = W7.heap[b]?) := fun b h1 h2 => by
        rw [Below.heap_setCell _ _ _ _ (by show b ≠ w.heap.size; omega)]; exact hb8.block b h2
      have HO9T := hiq hoT9
      have HRS := hiq hrs
      have HB9 := hiq hb9w
      obtain ⟨ra, rn, rk⟩ := r
      change World.cell? _ _ = some (.slice ra rn rk) at hTc
      dsimp only at hrow
      have HROW := hiq hrow
      have HXT := hiq (And.intro hxs hxt)
      have HGX := hiq (And.intro gX9 gR9)
      have hTl : s < tn := by rw [HX.out.2.len]; exact HTl
      have hTb : tn * 24 <= 140737488355328 := HX.out.2.bound
      obtain ⟨u0, u1, u2, u3, -⟩ := box_cells4 gX9
      clear HCT s0' t2' t4' x0 x1 x2 x3 gX7 gR7 gX8 gR8 gX9 gR9 hoT9 hoT hrs hb9w hne hrow hxs hTat cf c0 c1 c3 hb8 cf3
      go_wp2
      generalize W8.setCell ⟨w.heap.size, 2, none⟩ (.slice (some ⟨gT, 0, none⟩) tn tc2) = W9 at *
      obtain ⟨X, Wf, hX, hS1, hS2⟩ := family (fun W => Below W9.heap.size W9 W) W9 (Below.refl _ _)
      have HS2 := hiq hS2
      have q0 := fun x => clq (hS1 x) u2
      have q1 := fun x => clq (hS1 x) s1'
      have q2 := fun x => clq (hS1 x) hTc
      clear hS1 hS2
      have he0 : Below W9.heap.size W9 W9.drew := (Below.refl _ _).drew
      refine wp_region_reads (Wf := Wf) 11 [0, 1, 2, 3, 4, 5, 6, 7, 8, 9] [10] (by kernel_rfl) (by kernel_rfl) (fun _ _ d _ _ h => by cases d <;> exact h) (HS2.out _ he0) ?_
      simp only [pickOps, List.filterMap_cons, List.filterMap_nil, List.getElem?_cons_zero, List.getElem?_cons_succ]
      repeat (refine wpReads_step (fun K hK => ?_); unfold rOp; go_simp; (refine hK _ ?_; clear hK K))
      clear q0 q1 q2
      have hrn : rn = (x.tks s).length := by rw [HROW.out.len, HXT.out.2]
      have hrow9 := HROW.out.keep rTok_ok (KeepS.belowB HB9.out hs9 (fun b h => h.2))
      have HCR := hiq (clone_toks _ ra rn rk xs W9.drew (hrow9.below rTok_ok he0) (by omega))
      have HRN := hiq hrn
      clear hrn
      refine wpReads_nil (wpActs_cons ?_)
      go_wp2_with fail
      refine HCR.out.mono ?_
      rintro e W10 ⟨ra2, rk2, rfl, hoR, hb10⟩
      have he1 := he0.trans hb10
      go_wp2_with fail
      refine ⟨HS2.out _ he1, wpActs_nil ?_⟩
      simp only [List.drop_succ_cons, List.drop_zero]
      -- behind the store of the row
      have hgl : gT < W9.heap.size := hgT8
      have hle : W9.heap.size <= W10.heap.size := he1.size
      obtain ⟨gR, eR, hgR9, hgRs, -, -⟩ : ∃ g, ra2 = some ⟨g, 0, none⟩ /\ W9.heap.size <= g /\ g < W10.heap.size /\ True /\ True := by
        obtain ⟨y, g, -, -, e, q1, q2, -⟩ := hoR.at_ tok_len (j := 0) (by have := HRN.out; omega)
        exact ⟨g, e, q1, q2, trivial, trivial⟩
      subst eR
      have hoT10 := HO9T.out.below he1
      have fT := hoT10.frozenAt s
      have kTc := clq he1 hTc
      have hoT11 := hiq (hoT10.put1 one_row s ((some ⟨gR, 0, none⟩, rn, rk2) : Row) (.slice (some ⟨gR, 0, none⟩) rn rk2) rfl)
      have hoR11 := hiq (hoR.setOther (g := gT) (j := s) (fun y hy => by cases hy; show gR ≠ gT; omega) (.slice (some ⟨gR, 0, none⟩) rn rk2))
      have hne : ∀ (b j : Nat), b < W7.heap.size -> (⟨gT, s, none⟩ : Addr) ≠ ⟨b, j, none⟩ := by intro b j hb e; have e2 : gT = b := congrArg Addr.block e; omega
      have hTc11 : (W10.setCell ⟨gT, s, none⟩ (.slice (some ⟨gR, 0, none⟩) rn rk2)).cell? ⟨gT, s, none⟩ = some (.slice (some ⟨gR, 0, none⟩) rn rk2) := by
        obtain ⟨r2, g2, q1, -, e2, -, -, -, q3⟩ := hoT11.out.at_ (fun _ => rfl) (j := s) hTl
        cases e2
        have q4 := q3 0 _ rfl
        rw [Nat.mul_one, Nat.add_zero] at q4
        rw [q4]
        rw [List.getElem?_set_self (by rw [hrl]; exact hTl)] at q1
        cases q1; rfl
      have u2' := (World.cell?_setCell_other W10 ⟨gT, s, none⟩ _ (.slice (some ⟨gR, 0, none⟩) rn rk2) (hne _ _ (by omega))).trans (clq he1 u2)
      have s2' := (World.cell?_setCell_other W10 ⟨gT, s, none⟩ _ (.slice (some ⟨gR, 0, none⟩) rn rk2) (hne _ _ (by omega))).trans (clq he1 s1')
      have t2' := (World.cell?_setCell_other W10 ⟨gT, s, none⟩ _ (.slice (some ⟨gR, 0, none⟩) rn rk2) (hne _ _ (by omega))).trans (clq he1 t1')
      have t5' := (World.cell?_setCell_other W10 ⟨gT, s, none⟩ _ (.slice (some ⟨gR, 0, none⟩) rn rk2) (hne _ _ (by omega))).trans (clq he1 t3')
      obtain ⟨tn0, htk⟩ : ∃ tk : Nat, ot = (tk : Int) := ⟨ot.toNat, by have : (0 : Int) <= ot := HTt0; omega⟩
      have htr : tn0 < rn := by have h1 : ot < ((x.tks s).length : Int) := HTt1; have := HRN.out; omega
      obtain ⟨y, gy, hy, -, ey, -, -, hyf, hyc⟩ := hoR11.out.at_ tok_len (j := tn0) htr
      cases ey
      have hy1 := hyc 1 _ rfl
      have hyf1 := hyf (tn0 * 6 + 1)
      have hb11 : Below w.heap.size W7 (W10.setCell ⟨gT, s, none⟩ (.slice (some ⟨gR, 0, none⟩) rn rk2)) := (HB9.out.trans (he1.mono (by omega))).setCell (p := ⟨gT, s, none⟩) (by show w.heap.size <= gT; omega) _
      have hrb : rn * 80 <= 140737488355328 := hrow9.bound
      have HB11 := hiq hb11
      have HK11 : Hid (∀ b, w.heap.size < b -> b < W7.heap.size -> (W10.setCell ⟨gT, s, none⟩ (.slice (some ⟨gR, 0, none⟩) rn rk2)).heap[b]? = W7.heap[b]?) := fun b h1 h2 => by
        rw [Below.heap_setCell _ _ _ _ (by show b ≠ gT; omega), he1.block b (by omega)]; exact HK9.out b h1 h2
      have HX11 : Hid ((W10.setCell ⟨gT, s, none⟩ (.slice (some ⟨gR, 0, none⟩) rn rk2)).heap[w.heap.size]? = some (.cells #[.string sec, .slice sa sn sc, .slice (some ⟨gT, 0, none⟩) tn tc2, .slice a6 n6 c6] 26 (0, 0)) /\ (W10.setCell ⟨gT, s, none⟩ (.slice (some ⟨gR, 0, none⟩) rn rk2)).heap[w.heap.size + 3]? = some (.cells #[.string ⟨#[]⟩, .slice none 0 0, .slice none 0 0, .slice none 0 0] 26 (0, 0))) := by
        constructor
        · rw [Below.heap_setCell _ _ _ _ (by show w.heap.size ≠ gT; omega), he1.block _ (by omega)]; exact HGX.out.1
        · rw [Below.heap_setCell _ _ _ _ (by show w.heap.size + 3 ≠ gT; omega), he1.block _ (by omega)]; exact HGX.out.2
      have hs11 : W10.heap.size = (W10.setCell ⟨gT, s, none⟩ (.slice (some ⟨gR, 0, none⟩) rn rk2)).heap.size := by simp [World.setCell]
      obtain ⟨tb, htb⟩ : ∃ tb, tb = (tn0 : Int) := ⟨_, rfl⟩
      clear hne HRN hrow9 HCR he1 he0 hb10 hoR hoT10 HS2 u0 u1 u2 u3 s1' t1' t3' hTc
      subst htk
      go_wp2
      generalize W10.setCell ⟨gT, s, none⟩ (.slice (some ⟨gR, 0, none⟩) rn rk2) = W11 at *
      refine wp_region_head_drew 10 (by kernel_rfl) (by kernel_rfl) ?_
      simp only [List.take_succ_cons, List.take_zero, List.drop_succ_cons, List.drop_zero]
      repeat (go_big_quiet_step (fail))
      refine wpQuiet_nil ?_
      intro _ hw'
      obtain ⟨nq, rfl⟩ := hw'
      have hgRT : gR ≠ gT := by omega
      have hoR12 := (hoR11.out.drewN nq).putTok hy ox
      have hoT12 := (hoT11.out.drewN nq).setOther (g := gR) (j := tn0 * 6 + 1) (fun z hz => by cases hz; exact fun e => hgRT e.symm) (.string ox)
      have hx12 : ((W11.drewN nq).setCell ⟨gR, tn0 * 6 + 1, none⟩ (.string ox)).heap[w.heap.size]? = some (.cells #[.string sec, .slice sa sn sc, .slice (some ⟨gT, 0, none⟩) tn tc2, .slice a6 n6 c6] 26 (0, 0)) := by
        rw [Below.heap_setCell _ _ _ _ (by show w.heap.size ≠ gR; omega)]; exact HX11.out.1
      have hr12 : ((W11.drewN nq).setCell ⟨gR, tn0 * 6 + 1, none⟩ (.string ox)).heap[w.heap.size + 3]? = some (.cells #[.string ⟨#[]⟩, .slice none 0 0, .slice none 0 0, .slice none 0 0] 26 (0, 0)) := by
        rw [Below.heap_setCell _ _ _ _ (by show w.heap.size + 3 ≠ gR; omega)]; exact HX11.out.2
      obtain ⟨x0, x1, x2, x3, -⟩ := box_cells4 hx12
      obtain ⟨y0, y1, y2, y3, yf⟩ := box_cells4 hr12
      have yf0 := yf 0
      have yf1 := yf 1
      have yf2 := yf 2
      have yf3 := yf 3
      have hb12 : Below w.heap.size W7 ((W11.drewN nq).setCell ⟨gR, tn0 * 6 + 1, none⟩ (.string ox)) := (below_drewN HB11.out nq).setCell (p := ⟨gR, tn0 * 6 + 1, none⟩) (by show w.heap.size <= gR; omega) _
      have hk12 : ∀ b, w.heap.size < b -> b < W7.heap.size -> ((W11.drewN nq).setCell ⟨gR, tn0 * 6 + 1, none⟩ (.string ox)).heap[b]? = W7.heap[b]? := fun b h1 h2 => by
        rw [Below.heap_setCell _ _ _ _ (by show b ≠ gR; omega)]; exact HK11.out b h1 h2
      have hs12 : W11.heap.size = ((W11.drewN nq).setCell ⟨gR, tn0 * 6 + 1, none⟩ (.string ox)).heap.size := by simp [World.setCell]
      have HZ := hiq (And.intro hoR12 (And.intro hoT12 (And.intro hr12 (And.intro hb12 hk12))))
      clear hoR12 hoT12 hx12 hr12 hb12 hk12 yf hyc
      go_wp2
      generalize (W11.drewN nq).setCell ⟨gR, tn0 * 6 + 1, none⟩ (.string ox) = W12 at *
      obtain ⟨hoR12, hoT12, hr12, hb12, hk12⟩ := HZ.out
      obtain ⟨r0, r1, r2, r3, -⟩ := box_cells4 (put4_at hr12 (.string sec) (.slice sa sn sc) (.slice (some ⟨gT, 0, none⟩) tn tc2) (.slice a6 n6 c6))
      have hbf7 : Below w.heap.size W7 (put4 W12 (w.heap.size + 3) (.string sec) (.slice sa sn sc) (.slice (some ⟨gT, 0, none⟩) tn tc2) (.slice a6 n6 c6)) := put4_below hb12 (by omega) _ _ _ _
      have hbf := HB7.out.trans hbf7
      have hkf : KeepS (fun b => W7.heap.size <= b) W12 (put4 W12 (w.heap.size + 3) (.string sec) (.slice sa sn sc) (.slice (some ⟨gT, 0, none⟩) tn tc2) (.slice a6 n6 c6)) := put4_keep (by omega) _ _ _ _
      have hOf := hO7.out.keepLt (w' := put4 W12 (w.heap.size + 3) (.string sec) (.slice sa sn sc) (.slice (some ⟨gT, 0, none⟩) tn tc2) (.slice a6 n6 c6)) (fun b h1 h2 => by rw [put4_other (by omega)]; exact hk12 b (by omega) h2)
      have hoTf := hoT12.keepS hkf (fun z hz => by cases hz; show W7.heap.size <= gT; omega)
      have hoRf := hoR12.keepS hkf (fun z hz => by cases hz; show W7.heap.size <= gR; omega)
      change bodyPost _ _ _ _ _ (put4 W12 (w.heap.size + 3) (.string sec) (.slice sa sn sc) (.slice (some ⟨gT, 0, none⟩) tn tc2) (.slice a6 n6 c6))
      have hs7f : W7.heap.size <= (put4 W12 (w.heap.size + 3) (.string sec) (.slice sa sn sc) (.slice (some ⟨gT, 0, none⟩) tn tc2) (.slice a6 n6 c6)).heap.size := by
        rw [put4_size]; omega
      generalize put4 W12 (w.heap.size + 3) (.string sec) (.slice sa sn sc) (.slice (some ⟨gT, 0, none⟩) tn tc2) (.slice a6 n6 c6) = WF at *
      subst hOV
      refine bodyPost_ret (v := .agg #[.string sec, .slice sa sn sc, .slice (some ⟨gT, 0, none⟩) tn tc2, .slice a6 n6 c6]) (by simp [results, Tryz.results41, go_sem, r0, r1, r2, r3]) rfl ⟨⟨sec, sa, sn, sc, some ⟨gT, 0, none⟩, tn, tc2, a6, n6, c6⟩, rfl, ?_, hbf⟩
      rw [<- hO]
      refine apply_reads HF.out HSE.out.1 HSE.out.2 ((HX.out.1.below rStr_ok hbf).mono rStr_ok (fun b hb _ => .inl hb)) ?_ (fun b hb => .inr (Nat.le_trans HB0.out.size hb)) hOf HW7.out.2.1
      rw [hT.out]
      have hyt : x.tk s (tn0 : Int) = y := by unfold Col.tk; rw [HXT.out.2, Int.toNat_natCast, hy]; rfl
      change Tokss _ _ _ _ _ (x.toks.set s ((x.tks s).set (tn0 : Int).toNat { x.tk s (tn0 : Int) with norm := ox }))
      rw [hyt, HXT.out.2, Int.toNat_natCast]
      have hkS : KeepS (fun b => S b /\ b < w.heap.size) W7 WF := KeepS.belowB hbf7 hs7f (fun b h => h.2)
      refine hoTf.sqRows hTb (fun z hz => by cases hz; exact .inr (by show w.heap.size <= gT; omega)) (by rw [List.length_set, List.length_set, hrl, HX.out.2.len]) fun q r hq => ?_
      by_cases hqs : q = s
      · subst hqs
        rw [List.getElem?_set_self (by rw [hrl]; exact hTl)] at hq
        cases hq
        refine ⟨_, List.getElem?_set_self HTl, ?_⟩
        refine hoRf.sq tok_len hrb (fun z hz => by cases hz; exact .inr (by show w.heap.size <= gR; omega)) fun z hz => ⟨rfl, ?_⟩
        rcases List.mem_or_eq_of_mem_set hz with hz | rfl
        · exact (HROW.out.okTok z hz)
        · have := HROW.out.okTok y (List.mem_of_getElem? hy)
          exact ⟨this.1, HOX.out, this.2.2.1, this.2.2.2.1, this.2.2.2.2.1, this.2.2.2.2.2⟩
      · rw [List.getElem?_set_ne (Ne.symm hqs)] at hq ⊢
        obtain ⟨z, hz1, hz2⟩ := HRS.out q r hq
        exact ⟨z, hz1, (hz2.keep rTok_ok hkS).mono rTok_ok (fun b hb _ => .inl hb.1)⟩
end Go.Proofs.YtbdgmgddliploaaGreatDoor
