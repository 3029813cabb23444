/- Joined: EApl. -/
import Derived.Test.YtbdgmgddliploaaGreatDoorJ18
import Derived.Test.YtbdgmgddliploaaGreatDoorJ16
set_option linter.unusedVariables false
set_option linter.unusedSimpArgs false
set_option maxRecDepth 100000
set_option maxHeartbeats 16000000
namespace Go.Proofs.YtbdgmgddliploaaGreatDoor
open Go.RowKit

theorem OwnG.keepS {α : Type} {e1 e size : Nat} {enc : α -> List Value} {w w' : World} {B n cap : Nat} {a : Option Addr} {ps : List (Row × List α)} (h : OwnG e1 e size enc w B a n cap ps) (k : KeepS (fun b => B <= b) w w') : OwnG e1 e size enc w' B a n cap ps :=
  ⟨h.1.keepS k (fun x hx => (h.1.lt x hx).1), ⟨fun p hp => (h.2.1.1 p hp).keepS k (fun x hx => ((h.2.1.1 p hp).lt x hx).1), h.2.1.2⟩, h.2.2⟩
/-- One row more, in a block of its own. -/
theorem OwnG.push {α : Type} {e1 e size : Nat} {enc : α -> List Value} {w w1 w' : World} {B n cap c' : Nat} {a a' : Option Addr} {ps : List (Row × List α)} {p : Row × List α} (h : OwnG e1 e size enc w B a n cap ps) (hb : Below w.heap.size w w1) (hp : OwnQ e size enc w1 w.heap.size p.1.1 p.1.2.1 p.1.2.2 p.2) (hB : B <= w.heap.size)
    (ho : OwnQ e1 1 encR w' B a' (n + 1) c' (ps.map (·.1) ++ [p.1])) (hg : w1.grownBy w' (Value.slice a n cap).ownBlock) (hv : (Value.slice a' (n + 1) c').ownBlock = (Value.slice a n cap).ownBlock \/ (Value.slice a' (n + 1) c').ownBlock = some w1.heap.size) :
    OwnG e1 e size enc w' B a' (n + 1) c' (ps ++ [p]) := by
  have h1 := h.below hb
  refine OwnG.rebuilt (P := ps) (Q := []) (by simpa using h1) (hp.mono hB) ?_ ?_ (by simpa using ho) ?_ ?_
  · intro x y hx hy
    have := (hp.lt x hx).1; have := (h.1.lt y hy).2; omega
  · intro q hq x y hx hy
    have := (hp.lt y hy).1; have := (h.2.1.lt (by simpa using hq) x hx).2; omega
  · intro b hb1 hb2
    refine hg.block b hb1 fun e => ?_
    cases a with
    | none => cases e
    | some y => exact hb2 y rfl (Option.some.inj e)
  · intro x hx
    subst hx
    rcases hv with e | e
    · cases a with
      | none => cases e
      | some y => exact .inl ⟨y, rfl, Option.some.inj e⟩
    · exact .inr (Nat.le_of_eq (Option.some.inj e).symm)
theorem box4 (w : World) (C D E F : Array Value) (tc td te tf : TypeId) : Below w.heap.size w ((((w.alloc (.cells C tc)).alloc (.cells D td)).alloc (.cells E te)).alloc (.cells F tf)) /\ ((((w.alloc (.cells C tc)).alloc (.cells D td)).alloc (.cells E te)).alloc (.cells F tf)).heap.size = w.heap.size + 4 /\
    ((((w.alloc (.cells C tc)).alloc (.cells D td)).alloc (.cells E te)).alloc (.cells F tf)).heap[w.heap.size]? = some (.cells C tc (0, 0)) /\ ((((w.alloc (.cells C tc)).alloc (.cells D td)).alloc (.cells E te)).alloc (.cells F tf)).heap[w.heap.size + 1]? = some (.cells D td (0, 0)) /\
    ((((w.alloc (.cells C tc)).alloc (.cells D td)).alloc (.cells E te)).alloc (.cells F tf)).heap[w.heap.size + 2]? = some (.cells E te (0, 0)) /\ ((((w.alloc (.cells C tc)).alloc (.cells D td)).alloc (.cells E te)).alloc (.cells F tf)).heap[w.heap.size + 3]? = some (.cells F tf (0, 0)) := by
  obtain ⟨w1, h1⟩ : ∃ w1, w1 = w.alloc (.cells C tc) := ⟨_, rfl⟩
  have a1 := World.alloc_heap_new w (.cells C tc)
  rw [<- h1] at a1 ⊢
  have s1 : w1.heap.size = w.heap.size + 1 := by rw [h1]; simp
  obtain ⟨w2, h2⟩ : ∃ w2, w2 = w1.alloc (.cells D td) := ⟨_, rfl⟩
  have a2 := World.alloc_heap_new w1 (.cells D td)
  rw [<- h2] at a2 ⊢
  have s2 : w2.heap.size = w.heap.size + 2 := by rw [h2]; simp [s1]
  obtain ⟨w3, h3⟩ : ∃ w3, w3 = w2.alloc (.cells E te) := ⟨_, rfl⟩
  have a3 := World.alloc_heap_new w2 (.cells E te)
  rw [<- h3] at a3 ⊢
  have s3 : w3.heap.size = w.heap.size + 3 := by rw [h3]; simp [s2]
  have a4 := World.alloc_heap_new w3 (.cells F tf)
  have b1 : Below w.heap.size w w1 := by rw [h1]; exact (Below.refl _ _).alloc (Nat.le_refl _) _
  have b2 : Below w1.heap.size w1 w2 := by rw [h2]; exact (Below.refl _ _).alloc (Nat.le_refl _) _
  have b3 : Below w2.heap.size w2 w3 := by rw [h3]; exact (Below.refl _ _).alloc (Nat.le_refl _) _
  have b4 : Below w3.heap.size w3 (w3.alloc (.cells F tf)) := (Below.refl _ _).alloc (Nat.le_refl _) _
  rw [s1] at a2
  rw [s2] at a3
  rw [s3] at a4
  refine ⟨b1.trans ((b2.mono (by omega)).trans ((b3.mono (by omega)).trans (b4.mono (by omega)))), by simp [s3], ?_, ?_, ?_, a4⟩
  · rw [b4.block _ (by omega), b3.block _ (by omega), b2.block _ (by omega)]; exact a1
  · rw [b4.block _ (by omega), b3.block _ (by omega)]; exact a2
  · rw [b4.block _ (by omega)]; exact a3
theorem box_cells5 {W : World} {b : Nat} {c0 c1 c2 c3 c4 : Value} {t : TypeId} (h : W.heap[b]? = some (.cells #[c0, c1, c2, c3, c4] t (0, 0))) :
    W.cell? ⟨b, 0, none⟩ = some c0 /\ W.cell? ⟨b, 1, none⟩ = some c1 /\ W.cell? ⟨b, 2, none⟩ = some c2 /\ W.cell? ⟨b, 3, none⟩ = some c3 /\ W.cell? ⟨b, 4, none⟩ = some c4 :=
  ⟨by rw [Lib.cell_of_heap h]; rfl, by rw [Lib.cell_of_heap h]; rfl, by rw [Lib.cell_of_heap h]; rfl, by rw [Lib.cell_of_heap h]; rfl, by rw [Lib.cell_of_heap h]; rfl⟩
theorem take_next {α : Type} {l : List α} {k : Nat} {x : α} (h : l[k]? = some x) : l.take (k + 1) = l.take k ++ [x] := by
  rw [List.take_add_one, h]; rfl
def ApplyPost (S : Nat -> Prop) (x : Col) (o : Op) (s c : Nat) (w : World) (e : Ending) (w' : World) : Prop :=
  ∃ v' : CV, e = .returned v'.val /\ RdC (fun b => S b \/ w.heap.size <= b) w' v' (opAt x o s c) /\ Below w.heap.size w w'
/-- What its result reads as, where its parts do. -/
theorem apply_reads {x : Col} {o : Op} {s c : Nat} (F : Fits x o s c) {S' : Nat -> Prop} {w' : World} {sec : ByteArray} {sa ta ca : Option Addr} {sn sc tn tc cn cc B : Nat} {ps : List (Row × List Int)}
    (hsec : sec = x.sec) (hsz : sec.size <= 140737488355328) (h2 : Strs S' w' sa sn sc x.sigla) (h3 : Tokss S' w' ta tn tc (opToks x o s)) (hB : ∀ b, B <= b -> S' b) (h4 : OwnC w' B ca cn cc ps) (hm : ps.map (·.2) = opCols x o s c) :
    RdC S' w' ⟨sec, sa, sn, sc, ta, tn, tc, ca, cn, cc⟩ (opAt x o s c) := by
  have hv := valid_op F
  have hb := cols_bound hv
  have hc : (opAt x o s c).cols = ps.map (·.2) := hm.symm
  refine ⟨hsec, hsz, h2, h3, ?_⟩
  show Numss _ _ _ _ _ (opAt x o s c).cols
  rw [hc]
  refine h4.sq (fun _ => rfl) ?_ (fun b hb _ => hB b hb) fun p hp => ?_
  · rw [h4.len]; rw [hc, List.length_map] at hb; omega
  · have hs := cols_small hv (c := p.2) (by rw [hc]; exact List.mem_map.2 ⟨p, hp, rfl⟩)
    exact ⟨by omega, fun u hu => ⟨rfl, by have := hs.2.2 u hu; exact ⟨by omega, by omega⟩⟩⟩
theorem apply_1 (S : Nat -> Prop) (v : CV) (x : Col) (o : Op) (s c : Nat) (w : World) (h : RdC S w v x) (F : Fits x o s c) (hk : o.kind = 1) :
    Calls Tryz.prog 41 #[v.val, o.val, .agg #[.int .i64 (s : Int), .int .i64 (c : Int), .int .i64 (o.oth c)]] w (ApplyPost S x o s c w) := by
  have HAP : Hid (∀ (W : World) (B : Nat) (a : Option Addr) (n cap : Nat) (ps : List (Row × List Int)), OwnC W B a n cap ps -> B <= W.heap.size -> ps.map (·.2) = x.cols -> Calls Tryz.prog 74 #[.slice a n cap, o.val, .agg #[.int .i64 (s : Int), .int .i64 (c : Int), .int .i64 (o.oth c)]] W (AplPost x o s c W B)) :=
    fun W B a n cap ps hO hB hx => apl_1 W B a n cap ps x o s c hO hB hx F hk
  have hT : Hid (opToks x o s = x.toks) := by show _ = _; unfold opToks; rw [if_neg (by omega)]
  have hsm : Hid (∀ r ∈ x.cols, 0 < r.length) := fun r hr => (cols_small F.valid hr).2.1
  have hcb : x.cols.length <= 32768 := cols_bound F.valid
  have HF := hiq F
  obtain ⟨sec, sa, sn, sc, ta, tn, tc, ca, cn, cc⟩ := v
  obtain ⟨hsec, hsz, h2, h3, h4⟩ := h
  dsimp only at hsec hsz h2 h3 h4
  unfold ApplyPost
  generalize Op.oth o c = po at *
  generalize hO : opAt x o s c = OA at *
  generalize hOC : opCols x o s c = OC at *
  obtain ⟨OV, hOV⟩ : ∃ OV, OV = o := ⟨_, rfl⟩
  rw [<- hOV] at hO hOC hT HAP
  obtain ⟨ok, og, ot, oo, ox⟩ := o
  dsimp only at hk
  subst hk
  change Calls _ _ #[.agg #[.string sec, .slice sa sn sc, .slice ta tn tc, .slice ca cn cc], .agg #[.int .i64 1, .string og, .int .i64 ot, .int .i64 oo, .string ox], .agg #[.int .i64 (s : Int), .int .i64 (c : Int), .int .i64 po]] _ _
  obtain ⟨hb0, hs1, gX, gO, gP, gR⟩ := box4 w #[.string sec, .slice sa sn sc, .slice ta tn tc, .slice ca cn cc] #[.int .i64 1, .string og, .int .i64 ot, .int .i64 oo, .string ox] #[.int .i64 (s : Int), .int .i64 (c : Int), .int .i64 po] #[.string ⟨#[]⟩, .slice none 0 0, .slice none 0 0, .slice none 0 0] 26 28 66 26
  have HCN := hiq h4.len
  have hcbn : cn <= 32768 := by rw [h4.len]; exact hcb
  have h4' := h4.below (rSl_ok rInt_ok) hb0
  obtain ⟨c0, c1, c2, c3, -⟩ := box_cells4 gX
  have HX := hiq (And.intro h2 h3)
  have HSE := hiq (And.intro hsec hsz)
  clear h2 h3 h4 F hsec hsz hcb
  go_enter Tryz.func41, Tryz.ntmps41
  go_wp2
  generalize (((w.alloc (.cells #[.string sec, .slice sa sn sc, .slice ta tn tc, .slice ca cn cc] 26)).alloc (.cells #[.int .i64 1, .string og, .int .i64 ot, .int .i64 oo, .string ox] 28)).alloc (.cells #[.int .i64 (s : Int), .int .i64 (c : Int), .int .i64 po] 66)).alloc (.cells #[.string ⟨#[]⟩, .slice none 0 0, .slice none 0 0, .slice none 0 0] 26) = W1 at *
  have hstart : OwnC W1 W1.heap.size none 0 0 [] := OwnG.nil _ _ _ _ _ _
  go_loopw [7, 13] (fun t i wr => ∃ (k : Nat) (a' : Option Addr) (cap' : Nat) (ps : List (Row × List Int)), i = .int .i64 k /\ k <= cn /\ t = .slice a' k cap' /\ Hid (OwnC wr W1.heap.size a' k cap' ps) /\ Hid (ps.map (·.2) = x.cols.take k) /\ Below W1.heap.size W1 wr) (fun _ i _ => cn - (intOf i).toNat)
  case atStart => exact ⟨0, none, 0, [], rfl, Nat.zero_le _, rfl, hstart, by show _ = _; simp, Below.refl _ _⟩
  case round =>
    clear hstart
    obtain ⟨k, a', cap', ps, rfl, hk, rfl, hO1, hm, hb⟩ := hrel
    by_cases hkl : k < cn
    · obtain ⟨r, b, off, a2, n2, k2, hu, hmem, ea, -, hbl, hr, d1⟩ := (h4'.below (rSl_ok rInt_ok) hb).row hkl
      subst ea
      have HCL := hiq (clone_int S a2 n2 k2 r wr hr (by rw [hr.len]; exact hsm.out r hmem))
      have hm2 : Hid (x.cols.take (k + 1) = x.cols.take k ++ [r]) := take_next hu
      have HI := Tryz.infoInts
      clear hu hmem hr hbl
      go_wp2_with fail
      refine HCL.out.mono ?_
      rintro e W2 ⟨a3, k3, rfl, ho3, hb3⟩
      have hb4 : Below wr.heap.size wr (W2.alloc (.cells #[.slice a3 n2 k3] 61)) := hb3.alloc hb3.size _
      have HO1 := hiq ((hO1.out.below hb4).1)
      have ho4 := hiq (ho3.alloc (.cells #[.slice a3 n2 k3] 61))
      have hbB := hb.trans (hb4.mono hb.size)
      have HV : Hid (∀ j u, (([(a3, n2, k3)] : List Row).flatMap encR)[j]? = some u -> (W2.alloc (.cells #[.slice a3 n2 k3] 61)).cell? ((⟨W2.heap.size, 0, none⟩ : Addr).add j) = some u) := fun j u hj => lit_cells (by exact hj)
      have hB9 : W1.heap.size <= (W2.alloc (.cells #[.slice a3 n2 k3] 61)).heap.size := hbB.size
      have hsW := hb.size
      go_wp2_with (at_builtin; refine wpList_appQ (l := ps.map (·.1)) (ys := [(a3, n2, k3)]) HI Tryz.underlying24 rfl (by omega) (fun _ => rfl) one_r rfl _ _ rfl rfl rfl HO1.out rfl HV.out (by unfold maxLen; omega) (by omega) hB9 hbB ?_; intro a5 c5 w5 ho5 hb5 hg5 hv5)
      have hP := hO1.out.push hb4 (p := ((a3, n2, k3), r)) ho4.out hsW ho5 hg5 hv5
      go_roundw
      case rel => exact ⟨k + 1, a5, c5, _, by go_num, by omega, rfl, hP, by show _ = _; rw [hm2.out, List.map_append, hm.out]; rfl, hb5⟩
      case measure => simp [intOf]; omega
    · obtain rfl : cn = k := by omega
      have hm3 : Hid (ps.map (·.2) = x.cols) := by show _ = _; rw [hm.out, HCN.out, List.take_length]
      have gO2 := (hb.block _ (by omega)).trans gO
      have gP2 := (hb.block _ (by omega)).trans gP
      obtain ⟨o0, o1, o2, o3, o4⟩ := box_cells5 gO2
      obtain ⟨p0, p1, p2, -⟩ := box_cells3 gP2
      clear hm c0 c1 c2 c3
      have HPb : Hid (W1.heap.size = w.heap.size + 4 /\ W1.heap[w.heap.size]? = some (.cells #[.string sec, .slice sa sn sc, .slice ta tn tc, .slice ca cn cc] 26 (0, 0)) /\ W1.cell? ⟨w.heap.size + 1, 0, none⟩ = some (.int .i64 1) /\ W1.heap[w.heap.size + 3]? = some (.cells #[.string ⟨#[]⟩, .slice none 0 0, .slice none 0 0, .slice none 0 0] 26 (0, 0))) := ⟨hs1, gX, (box_cells5 gO).1, gR⟩
      have HB0 := hiq hb0
      clear gX gO gP gR hs1 hb0 gO2 gP2
      go_wp2
      obtain ⟨X, Wf, hX, hS1, hS2⟩ := family (fun W => Below W1.heap.size wr W) wr (Below.refl _ _)
      have HS2 := hiq hS2
      have hq : ∀ (x : X) (b j : Nat) (u : Value), b < W1.heap.size -> wr.cell? ⟨b, j, none⟩ = some u -> (Wf x).cell? ⟨b, j, none⟩ = some u := fun x b j u hbb hc => by
        rw [World.cell?_of_block ((hS1 x).block b hbb)]; exact hc
      have hs4 : w.heap.size + 4 = W1.heap.size := HPb.out.1.symm
      have q0 := fun x => hq x _ _ _ (by omega) o0
      have q1 := fun x => hq x _ _ _ (by omega) o1
      have q2 := fun x => hq x _ _ _ (by omega) o2
      have q3 := fun x => hq x _ _ _ (by omega) o3
      have q4 := fun x => hq x _ _ _ (by omega) o4
      have q5 := fun x => hq x _ _ _ (by omega) p0
      have q6 := fun x => hq x _ _ _ (by omega) p1
      have q7 := fun x => hq x _ _ _ (by omega) p2
      clear hS1 hS2 hq
      have hd0 : Below W1.heap.size wr wr.drew := (Below.refl _ _).drew
      refine wp_region_reads (Wf := Wf) 9 [1, 2, 5, 6, 7] [0, 3, 4, 8] (by kernel_rfl) (by kernel_rfl) (fun _ _ d _ _ h => by cases d <;> exact h) (HS2.out _ hd0) ?_
      simp only [pickOps, List.filterMap_cons, List.filterMap_nil, List.getElem?_cons_zero, List.getElem?_cons_succ]
      repeat (refine wpReads_step (fun K hK => ?_); unfold rOp; go_simp; (refine hK _ ?_; clear hK K))
      clear q0 q1 q2 q3 q4 q5 q6 q7
      refine wpReads_nil (wpActs_cons ?_)
      have HK := hiq (kinds_any wr.drew)
      have hsz2 := hb.size
      go_wp2_with fail
      refine HK.out.mono ?_
      rintro e W5 ⟨rfl, hb5⟩
      have hd1 := hd0.trans (hb5.mono hsz2)
      have hO5 := (hO1.out.drewN 1).below hb5
      go_wp2_with fail
      refine ⟨HS2.out _ hd1, wpActs_cons ?_⟩
      have hix := kind_1 W5
      go_wp2_with fail
      clear hix
      refine ⟨HS2.out _ hd1, wpActs_cons ?_⟩
      have hif := kindA_1 W5
      go_wp2_with fail
      clear hif
      refine ⟨HS2.out _ hd1, wpActs_cons ?_⟩
      have HAL := HAP.out W5 W1.heap.size a' cn cap' ps hO5 (Nat.le_trans hsz2 (Nat.le_trans hd0.size hb5.size)) hm3.out
      rw [hOV] at HAL
      unfold AplPost at HAL
      have HALL := hiq HAL
      clear HK HAL hO5
      go_wp2_with fail
      refine HALL.out.mono ?_
      rintro e W6 ⟨a6, n6, c6, ps6, rfl, hO6, hm6, hb6⟩
      have hd2 := hd1.trans hb6
      go_wp2_with fail
      refine ⟨HS2.out _ hd2, wpActs_nil ?_⟩
      simp only [List.drop_succ_cons, List.drop_zero]
      have gX6 := ((hb.trans hd2).block w.heap.size (by omega)).trans HPb.out.2.1
      have gR6 := ((hb.trans hd2).block (w.heap.size + 3) (by omega)).trans HPb.out.2.2.2
      obtain ⟨c0, c1, c2, c3, cf⟩ := box_cells4 gX6
      have cf3 := cf 3
      -- behind the store of the columns
      have gX7 := heap_set_at (j := 3) gX6 (.slice a6 n6 c6)
      have gR7 : (W6.setCell ⟨w.heap.size, 3, none⟩ (.slice a6 n6 c6)).heap[w.heap.size + 3]? = some (.cells #[.string ⟨#[]⟩, .slice none 0 0, .slice none 0 0, .slice none 0 0] 26 (0, 0)) := by rw [Below.heap_setCell _ _ _ _ (by show w.heap.size + 3 ≠ w.heap.size; omega)]; exact gR6
      have o6 := (World.cell?_setCell_other W6 ⟨w.heap.size, 3, none⟩ ⟨w.heap.size + 1, 0, none⟩ (.slice a6 n6 c6) (by intro e; have e2 : w.heap.size = w.heap.size + 1 := congrArg Addr.block e; omega)).trans ((World.cell?_of_block (a := ⟨w.heap.size + 1, 0, none⟩) ((hb.trans hd2).block (w.heap.size + 1) (by omega))).trans HPb.out.2.2.1)
      obtain ⟨x0, x1, x2, x3, -⟩ := box_cells4 gX7
      obtain ⟨y0, y1, y2, y3, yf⟩ := box_cells4 gR7
      have yf0 := yf 0
      have yf1 := yf 1
      have yf2 := yf 2
      have yf3 := yf 3
      have HW7 := hiq (And.intro hO6 (And.intro hm6 (And.intro hd2 (And.intro gX6 gR7))))
      clear gX6 gX7 gR6 gR7 yf hd2 hd1 hd0 hb5 hb6 hO6 hm6 HALL HS2 cf o0 o1 o2 o3 o4 p0 p1 p2
      go_wp2
      obtain ⟨hO6, hm6, hd2, gX6, gR7⟩ := HW7.out
      obtain ⟨r0, r1, r2, r3, -⟩ := box_cells4 (put4_at gR7 (.string sec) (.slice sa sn sc) (.slice ta tn tc) (.slice a6 n6 c6))
      have hbf : Below w.heap.size w (put4 (W6.setCell ⟨w.heap.size, 3, none⟩ (.slice a6 n6 c6)) (w.heap.size + 3) (.string sec) (.slice sa sn sc) (.slice ta tn tc) (.slice a6 n6 c6)) :=
        put4_below ((HB0.out.trans ((hb.trans hd2).mono HB0.out.size)).setCell (p := ⟨w.heap.size, 3, none⟩) (Nat.le_refl _) _) (by omega) _ _ _ _
      have hkf : KeepS (fun b => W1.heap.size <= b) W6 (put4 (W6.setCell ⟨w.heap.size, 3, none⟩ (.slice a6 n6 c6)) (w.heap.size + 3) (.string sec) (.slice sa sn sc) (.slice ta tn tc) (.slice a6 n6 c6)) :=
        (KeepS.setCell W6 (by omega) _).trans (put4_keep (by omega) _ _ _ _)
      change bodyPost _ _ _ _ _ (put4 (W6.setCell ⟨w.heap.size, 3, none⟩ (.slice a6 n6 c6)) (w.heap.size + 3) (.string sec) (.slice sa sn sc) (.slice ta tn tc) (.slice a6 n6 c6))
      have hOf := hO6.keepS hkf
      generalize put4 (W6.setCell ⟨w.heap.size, 3, none⟩ (.slice a6 n6 c6)) (w.heap.size + 3) (.string sec) (.slice sa sn sc) (.slice ta tn tc) (.slice a6 n6 c6) = WF at *
      subst hOV
      refine bodyPost_ret (v := .agg #[.string sec, .slice sa sn sc, .slice ta tn tc, .slice a6 n6 c6]) (by simp [results, Tryz.results41, go_sem, r0, r1, r2, r3]) rfl ⟨⟨sec, sa, sn, sc, ta, tn, tc, a6, n6, c6⟩, rfl, ?_, hbf⟩
      rw [<- hO]
      refine apply_reads HF.out HSE.out.1 HSE.out.2 ((HX.out.1.below rStr_ok hbf).mono rStr_ok (fun b hb _ => .inl hb)) ?_ (fun b hb => .inr (Nat.le_trans HB0.out.size hb)) hOf hm6
      rw [hT.out]
      exact (HX.out.2.below (rSl_ok rTok_ok) hbf).mono (rSl_ok rTok_ok) (fun b hb _ => .inl hb)
theorem apply_2 (S : Nat -> Prop) (v : CV) (x : Col) (o : Op) (s c : Nat) (w : World) (h : RdC S w v x) (F : Fits x o s c) (hk : o.kind = 2) :
    Calls Tryz.prog 41 #[v.val, o.val, .agg #[.int .i64 (s : Int), .int .i64 (c : Int), .int .i64 (o.oth c)]] w (ApplyPost S x o s c w) := by
  have HAP : Hid (∀ (W : World) (B : Nat) (a : Option Addr) (n cap : Nat) (ps : List (Row × List Int)), OwnC W B a n cap ps -> B <= W.heap.size -> ps.map (·.2) = x.cols -> Calls Tryz.prog 76 #[.slice a n cap, o.val, .agg #[.int .i64 (s : Int), .int .i64 (c : Int), .int .i64 (o.oth c)]] W (AplPost x o s c W B)) :=
    fun W B a n cap ps hO hB hx => apl_2 W B a n cap ps x o s c hO hB hx F hk
  have hT : Hid (opToks x o s = x.toks) := by show _ = _; unfold opToks; rw [if_neg (by omega)]
  have hsm : Hid (∀ r ∈ x.cols, 0 < r.length) := fun r hr => (cols_small F.valid hr).2.1
  have hcb : x.cols.length <= 32768 := cols_bound F.valid
  have HF := hiq F
  obtain ⟨sec, sa, sn, sc, ta, tn, tc, ca, cn, cc⟩ := v
  obtain ⟨hsec, hsz, h2, h3, h4⟩ := h
  dsimp only at hsec hsz h2 h3 h4
  unfold ApplyPost
  generalize Op.oth o c = po at *
  generalize hO : opAt x o s c = OA at *
  generalize hOC : opCols x o s c = OC at *
  obtain ⟨OV, hOV⟩ : ∃ OV, OV = o := ⟨_, rfl⟩
  rw [<- hOV] at hO hOC hT HAP
  obtain ⟨ok, og, ot, oo, ox⟩ := o
  dsimp only at hk
  subst hk
  change Calls _ _ #[.agg #[.string sec, .slice sa sn sc, .slice ta tn tc, .slice ca cn cc], .agg #[.int .i64 2, .string og, .int .i64 ot, .int .i64 oo, .string ox], .agg #[.int .i64 (s : Int), .int .i64 (c : Int), .int .i64 po]] _ _
  obtain ⟨hb0, hs1, gX, gO, gP, gR⟩ := box4 w #[.string sec, .slice sa sn sc, .slice ta tn tc, .slice ca cn cc] #[.int .i64 2, .string og, .int .i64 ot, .int .i64 oo, .string ox] #[.int .i64 (s : Int), .int .i64 (c : Int), .int .i64 po] #[.string ⟨#[]⟩, .slice none 0 0, .slice none 0 0, .slice none 0 0] 26 28 66 26
  have HCN := hiq h4.len
  have hcbn : cn <= 32768 := by rw [h4.len]; exact hcb
  have h4' := h4.below (rSl_ok rInt_ok) hb0
  obtain ⟨c0, c1, c2, c3, -⟩ := box_cells4 gX
  have HX := hiq (And.intro h2 h3)
  have HSE := hiq (And.intro hsec hsz)
  clear h2 h3 h4 F hsec hsz hcb
  go_enter Tryz.func41, Tryz.ntmps41
  go_wp2
  generalize (((w.alloc (.cells #[.string sec, .slice sa sn sc, .slice ta tn tc, .slice ca cn cc] 26)).alloc (.cells #[.int .i64 2, .string og, .int .i64 ot, .int .i64 oo, .string ox] 28)).alloc (.cells #[.int .i64 (s : Int), .int .i64 (c : Int), .int .i64 po] 66)).alloc (.cells #[.string ⟨#[]⟩, .slice none 0 0, .slice none 0 0, .slice none 0 0] 26) = W1 at *
  have hstart : OwnC W1 W1.heap.size none 0 0 [] := OwnG.nil _ _ _ _ _ _
  go_loopw [7, 13] (fun t i wr => ∃ (k : Nat) (a' : Option Addr) (cap' : Nat) (ps : List (Row × List Int)), i = .int .i64 k /\ k <= cn /\ t = .slice a' k cap' /\ Hid (OwnC wr W1.heap.size a' k cap' ps) /\ Hid (ps.map (·.2) = x.cols.take k) /\ Below W1.heap.size W1 wr) (fun _ i _ => cn - (intOf i).toNat)
  case atStart => exact ⟨0, none, 0, [], rfl, Nat.zero_le _, rfl, hstart, by show _ = _; simp, Below.refl _ _⟩
  case round =>
    clear hstart
    obtain ⟨k, a', cap', ps, rfl, hk, rfl, hO1, hm, hb⟩ := hrel
    by_cases hkl : k < cn
    · obtain ⟨r, b, off, a2, n2, k2, hu, hmem, ea, -, hbl, hr, d1⟩ := (h4'.below (rSl_ok rInt_ok) hb).row hkl
      subst ea
      have HCL := hiq (clone_int S a2 n2 k2 r wr hr (by rw [hr.len]; exact hsm.out r hmem))
      have hm2 : Hid (x.cols.take (k + 1) = x.cols.take k ++ [r]) := take_next hu
      have HI := Tryz.infoInts
      clear hu hmem hr hbl
      go_wp2_with fail
      refine HCL.out.mono ?_
      rintro e W2 ⟨a3, k3, rfl, ho3, hb3⟩
      have hb4 : Below wr.heap.size wr (W2.alloc (.cells #[.slice a3 n2 k3] 61)) := hb3.alloc hb3.size _
      have HO1 := hiq ((hO1.out.below hb4).1)
      have ho4 := hiq (ho3.alloc (.cells #[.slice a3 n2 k3] 61))
      have hbB := hb.trans (hb4.mono hb.size)
      have HV : Hid (∀ j u, (([(a3, n2, k3)] : List Row).flatMap encR)[j]? = some u -> (W2.alloc (.cells #[.slice a3 n2 k3] 61)).cell? ((⟨W2.heap.size, 0, none⟩ : Addr).add j) = some u) := fun j u hj => lit_cells (by exact hj)
      have hB9 : W1.heap.size <= (W2.alloc (.cells #[.slice a3 n2 k3] 61)).heap.size := hbB.size
      have hsW := hb.size
      go_wp2_with (at_builtin; refine wpList_appQ (l := ps.map (·.1)) (ys := [(a3, n2, k3)]) HI Tryz.underlying24 rfl (by omega) (fun _ => rfl) one_r rfl _ _ rfl rfl rfl HO1.out rfl HV.out (by unfold maxLen; omega) (by omega) hB9 hbB ?_; intro a5 c5 w5 ho5 hb5 hg5 hv5)
      have hP := hO1.out.push hb4 (p := ((a3, n2, k3), r)) ho4.out hsW ho5 hg5 hv5
      go_roundw
      case rel => exact ⟨k + 1, a5, c5, _, by go_num, by omega, rfl, hP, by show _ = _; rw [hm2.out, List.map_append, hm.out]; rfl, hb5⟩
      case measure => simp [intOf]; omega
    · obtain rfl : cn = k := by omega
      have hm3 : Hid (ps.map (·.2) = x.cols) := by show _ = _; rw [hm.out, HCN.out, List.take_length]
      have gO2 := (hb.block _ (by omega)).trans gO
      have gP2 := (hb.block _ (by omega)).trans gP
      obtain ⟨o0, o1, o2, o3, o4⟩ := box_cells5 gO2
      obtain ⟨p0, p1, p2, -⟩ := box_cells3 gP2
      clear hm c0 c1 c2 c3
      have HPb : Hid (W1.heap.size = w.heap.size + 4 /\ W1.heap[w.heap.size]? = some (.cells #[.string sec, .slice sa sn sc, .slice ta tn tc, .slice ca cn cc] 26 (0, 0)) /\ W1.cell? ⟨w.heap.size + 1, 0, none⟩ = some (.int .i64 2) /\ W1.heap[w.heap.size + 3]? = some (.cells #[.string ⟨#[]⟩, .slice none 0 0, .slice none 0 0, .slice none 0 0] 26 (0, 0))) := ⟨hs1, gX, (box_cells5 gO).1, gR⟩
      have HB0 := hiq hb0
      clear gX gO gP gR hs1 hb0 gO2 gP2
      go_wp2
      obtain ⟨X, Wf, hX, hS1, hS2⟩ := family (fun W => Below W1.heap.size wr W) wr (Below.refl _ _)
      have HS2 := hiq hS2
      have hq : ∀ (x : X) (b j : Nat) (u : Value), b < W1.heap.size -> wr.cell? ⟨b, j, none⟩ = some u -> (Wf x).cell? ⟨b, j, none⟩ = some u := fun x b j u hbb hc => by
        rw [World.cell?_of_block ((hS1 x).block b hbb)]; exact hc
      have hs4 : w.heap.size + 4 = W1.heap.size := HPb.out.1.symm
      have q0 := fun x => hq x _ _ _ (by omega) o0
      have q1 := fun x => hq x _ _ _ (by omega) o1
      have q2 := fun x => hq x _ _ _ (by omega) o2
      have q3 := fun x => hq x _ _ _ (by omega) o3
      have q4 := fun x => hq x _ _ _ (by omega) o4
      have q5 := fun x => hq x _ _ _ (by omega) p0
      have q6 := fun x => hq x _ _ _ (by omega) p1
      have q7 := fun x => hq x _ _ _ (by omega) p2
      clear hS1 hS2 hq
      have hd0 : Below W1.heap.size wr wr.drew := (Below.refl _ _).drew
      refine wp_region_reads (Wf := Wf) 9 [1, 2, 5, 6, 7] [0, 3, 4, 8] (by kernel_rfl) (by kernel_rfl) (fun _ _ d _ _ h => by cases d <;> exact h) (HS2.out _ hd0) ?_
      simp only [pickOps, List.filterMap_cons, List.filterMap_nil, List.getElem?_cons_zero, List.getElem?_cons_succ]
      repeat (refine wpReads_step (fun K hK => ?_); unfold rOp; go_simp; (refine hK _ ?_; clear hK K))
      clear q0 q1 q2 q3 q4 q5 q6 q7
      refine wpReads_nil (wpActs_cons ?_)
      have HK := hiq (kinds_any wr.drew)
      have hsz2 := hb.size
      go_wp2_with fail
      refine HK.out.mono ?_
      rintro e W5 ⟨rfl, hb5⟩
      have hd1 := hd0.trans (hb5.mono hsz2)
      have hO5 := (hO1.out.drewN 1).below hb5
      go_wp2_with fail
      refine ⟨HS2.out _ hd1, wpActs_cons ?_⟩
      have hix := kind_2 W5
      go_wp2_with fail
      clear hix
      refine ⟨HS2.out _ hd1, wpActs_cons ?_⟩
      have hif := kindA_2 W5
      go_wp2_with fail
      clear hif
      refine ⟨HS2.out _ hd1, wpActs_cons ?_⟩
      have HAL := HAP.out W5 W1.heap.size a' cn cap' ps hO5 (Nat.le_trans hsz2 (Nat.le_trans hd0.size hb5.size)) hm3.out
      rw [hOV] at HAL
      unfold AplPost at HAL
      have HALL := hiq HAL
      clear HK HAL hO5
      go_wp2_with fail
      refine HALL.out.mono ?_
      rintro e W6 ⟨a6, n6, c6, ps6, rfl, hO6, hm6, hb6⟩
      have hd2 := hd1.trans hb6
      go_wp2_with fail
      refine ⟨HS2.out _ hd2, wpActs_nil ?_⟩
      simp only [List.drop_succ_cons, List.drop_zero]
      have gX6 := ((hb.trans hd2).block w.heap.size (by omega)).trans HPb.out.2.1
      have gR6 := ((hb.trans hd2).block (w.heap.size + 3) (by omega)).trans HPb.out.2.2.2
      obtain ⟨c0, c1, c2, c3, cf⟩ := box_cells4 gX6
      have cf3 := cf 3
      -- behind the store of the columns
      have gX7 := heap_set_at (j := 3) gX6 (.slice a6 n6 c6)
      have gR7 : (W6.setCell ⟨w.heap.size, 3, none⟩ (.slice a6 n6 c6)).heap[w.heap.size + 3]? = some (.cells #[.string ⟨#[]⟩, .slice none 0 0, .slice none 0 0, .slice none 0 0] 26 (0, 0)) := by rw [Below.heap_setCell _ _ _ _ (by show w.heap.size + 3 ≠ w.heap.size; omega)]; exact gR6
      have o6 := (World.cell?_setCell_other W6 ⟨w.heap.size, 3, none⟩ ⟨w.heap.size + 1, 0, none⟩ (.slice a6 n6 c6) (by intro e; have e2 : w.heap.size = w.heap.size + 1 := congrArg Addr.block e; omega)).trans ((World.cell?_of_block (a := ⟨w.heap.size + 1, 0, none⟩) ((hb.trans hd2).block (w.heap.size + 1) (by omega))).trans HPb.out.2.2.1)
      obtain ⟨x0, x1, x2, x3, -⟩ := box_cells4 gX7
      obtain ⟨y0, y1, y2, y3, yf⟩ := box_cells4 gR7
      have yf0 := yf 0
      have yf1 := yf 1
      have yf2 := yf 2
      have yf3 := yf 3
      have HW7 := hiq (And.intro hO6 (And.intro hm6 (And.intro hd2 (And.intro gX6 gR7))))
      clear gX6 gX7 gR6 gR7 yf hd2 hd1 hd0 hb5 hb6 hO6 hm6 HALL HS2 cf o0 o1 o2 o3 o4 p0 p1 p2
      go_wp2
      obtain ⟨hO6, hm6, hd2, gX6, gR7⟩ := HW7.out
      obtain ⟨r0, r1, r2, r3, -⟩ := box_cells4 (put4_at gR7 (.string sec) (.slice sa sn sc) (.slice ta tn tc) (.slice a6 n6 c6))
      have hbf : Below w.heap.size w (put4 (W6.setCell ⟨w.heap.size, 3, none⟩ (.slice a6 n6 c6)) (w.heap.size + 3) (.string sec) (.slice sa sn sc) (.slice ta tn tc) (.slice a6 n6 c6)) :=
        put4_below ((HB0.out.trans ((hb.trans hd2).mono HB0.out.size)).setCell (p := ⟨w.heap.size, 3, none⟩) (Nat.le_refl _) _) (by omega) _ _ _ _
      have hkf : KeepS (fun b => W1.heap.size <= b) W6 (put4 (W6.setCell ⟨w.heap.size, 3, none⟩ (.slice a6 n6 c6)) (w.heap.size + 3) (.string sec) (.slice sa sn sc) (.slice ta tn tc) (.slice a6 n6 c6)) :=
        (KeepS.setCell W6 (by omega) _).trans (put4_keep (by omega) _ _ _ _)
      change bodyPost _ _ _ _ _ (put4 (W6.setCell ⟨w.heap.size, 3, none⟩ (.slice a6 n6 c6)) (w.heap.size + 3) (.string sec) (.slice sa sn sc) (.slice ta tn tc) (.slice a6 n6 c6))
      have hOf := hO6.keepS hkf
      generalize put4 (W6.setCell ⟨w.heap.size, 3, none⟩ (.slice a6 n6 c6)) (w.heap.size + 3) (.string sec) (.slice sa sn sc) (.slice ta tn tc) (.slice a6 n6 c6) = WF at *
      subst hOV
      refine bodyPost_ret (v := .agg #[.string sec, .slice sa sn sc, .slice ta tn tc, .slice a6 n6 c6]) (by simp [results, Tryz.results41, go_sem, r0, r1, r2, r3]) rfl ⟨⟨sec, sa, sn, sc, ta, tn, tc, a6, n6, c6⟩, rfl, ?_, hbf⟩
      rw [<- hO]
      refine apply_reads HF.out HSE.out.1 HSE.out.2 ((HX.out.1.below rStr_ok hbf).mono rStr_ok (fun b hb _ => .inl hb)) ?_ (fun b hb => .inr (Nat.le_trans HB0.out.size hb)) hOf hm6
      rw [hT.out]
      exact (HX.out.2.below (rSl_ok rTok_ok) hbf).mono (rSl_ok rTok_ok) (fun b hb _ => .inl hb)
theorem apply_3 (S : Nat -> Prop) (v : CV) (x : Col) (o : Op) (s c : Nat) (w : World) (h : RdC S w v x) (F : Fits x o s c) (hk : o.kind = 3) :
    Calls Tryz.prog 41 #[v.val, o.val, .agg #[.int .i64 (s : Int), .int .i64 (c : Int), .int .i64 (o.oth c)]] w (ApplyPost S x o s c w) := by
  have HAP : Hid (∀ (W : World) (B : Nat) (a : Option Addr) (n cap : Nat) (ps : List (Row × List Int)), OwnC W B a n cap ps -> B <= W.heap.size -> ps.map (·.2) = x.cols -> Calls Tryz.prog 78 #[.slice a n cap, o.val, .agg #[.int .i64 (s : Int), .int .i64 (c : Int), .int .i64 (o.oth c)]] W (AplPost x o s c W B)) :=
    fun W B a n cap ps hO hB hx => apl_3 W B a n cap ps x o s c hO hB hx F hk
  have hT : Hid (opToks x o s = x.toks) := by show _ = _; unfold opToks; rw [if_neg (by omega)]
  have hsm : Hid (∀ r ∈ x.cols, 0 < r.length) := fun r hr => (cols_small F.valid hr).2.1
  have hcb : x.cols.length <= 32768 := cols_bound F.valid
  have HF := hiq F
  obtain ⟨sec, sa, sn, sc, ta, tn, tc, ca, cn, cc⟩ := v
  obtain ⟨hsec, hsz, h2, h3, h4⟩ := h
  dsimp only at hsec hsz h2 h3 h4
  unfold ApplyPost
  generalize Op.oth o c = po at *
  generalize hO : opAt x o s c = OA at *
  generalize hOC : opCols x o s c = OC at *
  obtain ⟨OV, hOV⟩ : ∃ OV, OV = o := ⟨_, rfl⟩
  rw [<- hOV] at hO hOC hT HAP
  obtain ⟨ok, og, ot, oo, ox⟩ := o
  dsimp only at hk
  subst hk
  change Calls _ _ #[.agg #[.string sec, .slice sa sn sc, .slice ta tn tc, .slice ca cn cc], .agg #[.int .i64 3, .string og, .int .i64 ot, .int .i64 oo, .string ox], .agg #[.int .i64 (s : Int), .int .i64 (c : Int), .int .i64 po]] _ _
  obtain ⟨hb0, hs1, gX, gO, gP, gR⟩ := box4 w #[.string sec, .slice sa sn sc, .slice ta tn tc, .slice ca cn cc] #[.int .i64 3, .string og, .int .i64 ot, .int .i64 oo, .string ox] #[.int .i64 (s : Int), .int .i64 (c : Int), .int .i64 po] #[.string ⟨#[]⟩, .slice none 0 0, .slice none 0 0, .slice none 0 0] 26 28 66 26
  have HCN := hiq h4.len
  have hcbn : cn <= 32768 := by rw [h4.len]; exact hcb
  have h4' := h4.below (rSl_ok rInt_ok) hb0
  obtain ⟨c0, c1, c2, c3, -⟩ := box_cells4 gX
  have HX := hiq (And.intro h2 h3)
  have HSE := hiq (And.intro hsec hsz)
  clear h2 h3 h4 F hsec hsz hcb
  go_enter Tryz.func41, Tryz.ntmps41
  go_wp2
  generalize (((w.alloc (.cells #[.string sec, .slice sa sn sc, .slice ta tn tc, .slice ca cn cc] 26)).alloc (.cells #[.int .i64 3, .string og, .int .i64 ot, .int .i64 oo, .string ox] 28)).alloc (.cells #[.int .i64 (s : Int), .int .i64 (c : Int), .int .i64 po] 66)).alloc (.cells #[.string ⟨#[]⟩, .slice none 0 0, .slice none 0 0, .slice none 0 0] 26) = W1 at *
  have hstart : OwnC W1 W1.heap.size none 0 0 [] := OwnG.nil _ _ _ _ _ _
  go_loopw [7, 13] (fun t i wr => ∃ (k : Nat) (a' : Option Addr) (cap' : Nat) (ps : List (Row × List Int)), i = .int .i64 k /\ k <= cn /\ t = .slice a' k cap' /\ Hid (OwnC wr W1.heap.size a' k cap' ps) /\ Hid (ps.map (·.2) = x.cols.take k) /\ Below W1.heap.size W1 wr) (fun _ i _ => cn - (intOf i).toNat)
  case atStart => exact ⟨0, none, 0, [], rfl, Nat.zero_le _, rfl, hstart, by show _ = _; simp, Below.refl _ _⟩
  case round =>
    clear hstart
    obtain ⟨k, a', cap', ps, rfl, hk, rfl, hO1, hm, hb⟩ := hrel
    by_cases hkl : k < cn
    · obtain ⟨r, b, off, a2, n2, k2, hu, hmem, ea, -, hbl, hr, d1⟩ := (h4'.below (rSl_ok rInt_ok) hb).row hkl
      subst ea
      have HCL := hiq (clone_int S a2 n2 k2 r wr hr (by rw [hr.len]; exact hsm.out r hmem))
      have hm2 : Hid (x.cols.take (k + 1) = x.cols.take k ++ [r]) := take_next hu
      have HI := Tryz.infoInts
      clear hu hmem hr hbl
      go_wp2_with fail
      refine HCL.out.mono ?_
      rintro e W2 ⟨a3, k3, rfl, ho3, hb3⟩
      have hb4 : Below wr.heap.size wr (W2.alloc (.cells #[.slice a3 n2 k3] 61)) := hb3.alloc hb3.size _
      have HO1 := hiq ((hO1.out.below hb4).1)
      have ho4 := hiq (ho3.alloc (.cells #[.slice a3 n2 k3] 61))
      have hbB := hb.trans (hb4.mono hb.size)
      have HV : Hid (∀ j u, (([(a3, n2, k3)] : List Row).flatMap encR)[j]? = some u -> (W2.alloc (.cells #[.slice a3 n2 k3] 61)).cell? ((⟨W2.heap.size, 0, none⟩ : Addr).add j) = some u) := fun j u hj => lit_cells (by exact hj)
      have hB9 : W1.heap.size <= (W2.alloc (.cells #[.slice a3 n2 k3] 61)).heap.size := hbB.size
      have hsW := hb.size
      go_wp2_with (at_builtin; refine wpList_appQ (l := ps.map (·.1)) (ys := [(a3, n2, k3)]) HI Tryz.underlying24 rfl (by omega) (fun _ => rfl) one_r rfl _ _ rfl rfl rfl HO1.out rfl HV.out (by unfold maxLen; omega) (by omega) hB9 hbB ?_; intro a5 c5 w5 ho5 hb5 hg5 hv5)
      have hP := hO1.out.push hb4 (p := ((a3, n2, k3), r)) ho4.out hsW ho5 hg5 hv5
      go_roundw
      case rel => exact ⟨k + 1, a5, c5, _, by go_num, by omega, rfl, hP, by show _ = _; rw [hm2.out, List.map_append, hm.out]; rfl, hb5⟩
      case measure => simp [intOf]; omega
    · obtain rfl : cn = k := by omega
      have hm3 : Hid (ps.map (·.2) = x.cols) := by show _ = _; rw [hm.out, HCN.out, List.take_length]
      have gO2 := (hb.block _ (by omega)).trans gO
      have gP2 := (hb.block _ (by omega)).trans gP
      obtain ⟨o0, o1, o2, o3, o4⟩ := box_cells5 gO2
      obtain ⟨p0, p1, p2, -⟩ := box_cells3 gP2
      clear hm c0 c1 c2 c3
      have HPb : Hid (W1.heap.size = w.heap.size + 4 /\ W1.heap[w.heap.size]? = some (.cells #[.string sec, .slice sa sn sc, .slice ta tn tc, .slice ca cn cc] 26 (0, 0)) /\ W1.cell? ⟨w.heap.size + 1, 0, none⟩ = some (.int .i64 3) /\ W1.heap[w.heap.size + 3]? = some (.cells #[.string ⟨#[]⟩, .slice none 0 0, .slice none 0 0, .slice none 0 0] 26 (0, 0))) := ⟨hs1, gX, (box_cells5 gO).1, gR⟩
      have HB0 := hiq hb0
      clear gX gO gP gR hs1 hb0 gO2 gP2
      go_wp2
      obtain ⟨X, Wf, hX, hS1, hS2⟩ := family (fun W => Below W1.heap.size wr W) wr (Below.refl _ _)
      have HS2 := hiq hS2
      have hq : ∀ (x : X) (b j : Nat) (u : Value), b < W1.heap.size -> wr.cell? ⟨b, j, none⟩ = some u -> (Wf x).cell? ⟨b, j, none⟩ = some u := fun x b j u hbb hc => by
        rw [World.cell?_of_block ((hS1 x).block b hbb)]; exact hc
      have hs4 : w.heap.size + 4 = W1.heap.size := HPb.out.1.symm
      have q0 := fun x => hq x _ _ _ (by omega) o0
      have q1 := fun x => hq x _ _ _ (by omega) o1
      have q2 := fun x => hq x _ _ _ (by omega) o2
      have q3 := fun x => hq x _ _ _ (by omega) o3
      have q4 := fun x => hq x _ _ _ (by omega) o4
      have q5 := fun x => hq x _ _ _ (by omega) p0
      have q6 := fun x => hq x _ _ _ (by omega) p1
      have q7 := fun x => hq x _ _ _ (by omega) p2
      clear hS1 hS2 hq
      have hd0 : Below W1.heap.size wr wr.drew := (Below.refl _ _).drew
      refine wp_region_reads (Wf := Wf) 9 [1, 2, 5, 6, 7] [0, 3, 4, 8] (by kernel_rfl) (by kernel_rfl) (fun _ _ d _ _ h => by cases d <;> exact h) (HS2.out _ hd0) ?_
      simp only [pickOps, List.filterMap_cons, List.filterMap_nil, List.getElem?_cons_zero, List.getElem?_cons_succ]
      repeat (refine wpReads_step (fun K hK => ?_); unfold rOp; go_simp; (refine hK _ ?_; clear hK K))
      clear q0 q1 q2 q3 q4 q5 q6 q7
      refine wpReads_nil (wpActs_cons ?_)
      have HK := hiq (kinds_any wr.drew)
      have hsz2 := hb.size
      go_wp2_with fail
      refine HK.out.mono ?_
      rintro e W5 ⟨rfl, hb5⟩
      have hd1 := hd0.trans (hb5.mono hsz2)
      have hO5 := (hO1.out.drewN 1).below hb5
      go_wp2_with fail
      refine ⟨HS2.out _ hd1, wpActs_cons ?_⟩
      have hix := kind_3 W5
      go_wp2_with fail
      clear hix
      refine ⟨HS2.out _ hd1, wpActs_cons ?_⟩
      have hif := kindA_3 W5
      go_wp2_with fail
      clear hif
      refine ⟨HS2.out _ hd1, wpActs_cons ?_⟩
      have HAL := HAP.out W5 W1.heap.size a' cn cap' ps hO5 (Nat.le_trans hsz2 (Nat.le_trans hd0.size hb5.size)) hm3.out
      rw [hOV] at HAL
      unfold AplPost at HAL
      have HALL := hiq HAL
      clear HK HAL hO5
      go_wp2_with fail
      refine HALL.out.mono ?_
      rintro e W6 ⟨a6, n6, c6, ps6, rfl, hO6, hm6, hb6⟩
      have hd2 := hd1.trans hb6
      go_wp2_with fail
      refine ⟨HS2.out _ hd2, wpActs_nil ?_⟩
      simp only [List.drop_succ_cons, List.drop_zero]
      have gX6 := ((hb.trans hd2).block w.heap.size (by omega)).trans HPb.out.2.1
      have gR6 := ((hb.trans hd2).block (w.heap.size + 3) (by omega)).trans HPb.out.2.2.2
      obtain ⟨c0, c1, c2, c3, cf⟩ := box_cells4 gX6
      have cf3 := cf 3
      -- behind the store of the columns
      have gX7 := heap_set_at (j := 3) gX6 (.slice a6 n6 c6)
      have gR7 : (W6.setCell ⟨w.heap.size, 3, none⟩ (.slice a6 n6 c6)).heap[w.heap.size + 3]? = some (.cells #[.string ⟨#[]⟩, .slice none 0 0, .slice none 0 0, .slice none 0 0] 26 (0, 0)) := by rw [Below.heap_setCell _ _ _ _ (by show w.heap.size + 3 ≠ w.heap.size; omega)]; exact gR6
      have o6 := (World.cell?_setCell_other W6 ⟨w.heap.size, 3, none⟩ ⟨w.heap.size + 1, 0, none⟩ (.slice a6 n6 c6) (by intro e; have e2 : w.heap.size = w.heap.size + 1 := congrArg Addr.block e; omega)).trans ((World.cell?_of_block (a := ⟨w.heap.size + 1, 0, none⟩) ((hb.trans hd2).block (w.heap.size + 1) (by omega))).trans HPb.out.2.2.1)
      obtain ⟨x0, x1, x2, x3, -⟩ := box_cells4 gX7
      obtain ⟨y0, y1, y2, y3, yf⟩ := box_cells4 gR7
      have yf0 := yf 0
      have yf1 := yf 1
      have yf2 := yf 2
      have yf3 := yf 3
      have HW7 := hiq (And.intro hO6 (And.intro hm6 (And.intro hd2 (And.intro gX6 gR7))))
      clear gX6 gX7 gR6 gR7 yf hd2 hd1 hd0 hb5 hb6 hO6 hm6 HALL HS2 cf o0 o1 o2 o3 o4 p0 p1 p2
      go_wp2
      obtain ⟨hO6, hm6, hd2, gX6, gR7⟩ := HW7.out
      obtain ⟨r0, r1, r2, r3, -⟩ := box_cells4 (put4_at gR7 (.string sec) (.slice sa sn sc) (.slice ta tn tc) (.slice a6 n6 c6))
      have hbf : Below w.heap.size w (put4 (W6.setCell ⟨w.heap.size, 3, none⟩ (.slice a6 n6 c6)) (w.heap.size + 3) (.string sec) (.slice sa sn sc) (.slice ta tn tc) (.slice a6 n6 c6)) :=
        put4_below ((HB0.out.trans ((hb.trans hd2).mono HB0.out.size)).setCell (p := ⟨w.heap.size, 3, none⟩) (Nat.le_refl _) _) (by omega) _ _ _ _
      have hkf : KeepS (fun b => W1.heap.size <= b) W6 (put4 (W6.setCell ⟨w.heap.size, 3, none⟩ (.slice a6 n6 c6)) (w.heap.size + 3) (.string sec) (.slice sa sn sc) (.slice ta tn tc) (.slice a6 n6 c6)) :=
        (KeepS.setCell W6 (by omega) _).trans (put4_keep (by omega) _ _ _ _)
      change bodyPost _ _ _ _ _ (put4 (W6.setCell ⟨w.heap.size, 3, none⟩ (.slice a6 n6 c6)) (w.heap.size + 3) (.string sec) (.slice sa sn sc) (.slice ta tn tc) (.slice a6 n6 c6))
      have hOf := hO6.keepS hkf
      generalize put4 (W6.setCell ⟨w.heap.size, 3, none⟩ (.slice a6 n6 c6)) (w.heap.size + 3) (.string sec) (.slice sa sn sc) (.slice ta tn tc) (.slice a6 n6 c6) = WF at *
      subst hOV
      refine bodyPost_ret (v := .agg #[.string sec, .slice sa sn sc, .slice ta tn tc, .slice a6 n6 c6]) (by simp [results, Tryz.results41, go_sem, r0, r1, r2, r3]) rfl ⟨⟨sec, sa, sn, sc, ta, tn, tc, a6, n6, c6⟩, rfl, ?_, hbf⟩
      rw [<- hO]
      refine apply_reads HF.out HSE.out.1 HSE.out.2 ((HX.out.1.below rStr_ok hbf).mono rStr_ok (fun b hb _ => .inl hb)) ?_ (fun b hb => .inr (Nat.le_trans HB0.out.size hb)) hOf hm6
      rw [hT.out]
      exact (HX.out.2.below (rSl_ok rTok_ok) hbf).mono (rSl_ok rTok_ok) (fun b hb _ => .inl hb)
end Go.Proofs.YtbdgmgddliploaaGreatDoor
