/- tokencost.Column. -/
import Derived.Test.YtaelfjlmkgimhaaGreatDoorPPrs
set_option linter.unusedVariables false
set_option linter.unusedSimpArgs false
namespace Go.Proofs.YtaelfjlmkgimhaaGreatDoor
open Go.RowKit Go.Shelf
attribute [local go_sem] Oper.semAt_some

/-- The entry of a column: a token that is there. -/
def entT (l : List Tok) (th : List Bool) (i : Nat) : Option Tok := if th[i]? = some true then l[i]? else none
/-- What two entries of a column cost. -/
def coO (c : Cst) : Option Tok → Option Tok → Nat
  | some x, some y => pT c x y
  | some x, none => gT c x
  | none, some y => gT c y
  | none, none => 0
theorem coO_le {c : Cst} (h : c.ok) (x y : Option Tok) : coO c x y ≤ 1000 := by
  cases x <;> cases y
  · exact Nat.zero_le _
  · exact gT_le h _
  · exact gT_le h _
  · exact pT_le h _ _
def colS (c : Cst) (l : List Tok) (th : List Bool) (ps : List (Nat × Nat)) : Nat := (ps.map fun x => coO c (entT l th x.1) (entT l th x.2)).sum
/-- What a column costs. -/
def colF (c : Cst) (l : List Tok) (th : List Bool) : Nat := colS c l th (prL l.length)
theorem colS_le {c : Cst} (h : c.ok) (l : List Tok) (th : List Bool) : ∀ ps, colS c l th ps ≤ 1000 * ps.length
  | [] => Nat.zero_le _
  | x :: ps => by
    have := colS_le h l th ps
    have := coO_le h (entT l th x.1) (entT l th x.2)
    unfold colS at *
    rw [List.map_cons, List.sum_cons, List.length_cons]; omega
theorem colS_app (c : Cst) (l : List Tok) (th : List Bool) (ps : List (Nat × Nat)) (x : Nat × Nat) : colS c l th (ps ++ [x]) = colS c l th ps + coO c (entT l th x.1) (entT l th x.2) := by
  unfold colS; simp
theorem colF_two (c : Cst) (x y : Tok) (p q : Bool) : colF c [x, y] [p, q] = coO c (if p = true then some x else none) (if q = true then some y else none) := by
  show colS c [x, y] [p, q] [(0, 1)] = _
  unfold colS entT
  simp
theorem boxes3 (w : World) (A B C : Array Value) (ta tb tc : TypeId) : Below w.heap.size w (((w.alloc (.cells A ta)).alloc (.cells B tb)).alloc (.cells C tc)) ∧ (((w.alloc (.cells A ta)).alloc (.cells B tb)).alloc (.cells C tc)).heap.size = w.heap.size + 3 ∧
    AtC (((w.alloc (.cells A ta)).alloc (.cells B tb)).alloc (.cells C tc)) w.heap.size 0 A.toList ∧ AtC (((w.alloc (.cells A ta)).alloc (.cells B tb)).alloc (.cells C tc)) (w.heap.size + 1) 0 B.toList ∧ AtC (((w.alloc (.cells A ta)).alloc (.cells B tb)).alloc (.cells C tc)) (w.heap.size + 2) 0 C.toList := by
  have h1 := atC_new w A ta
  have h2 := atC_new (w.alloc (.cells A ta)) B tb
  have h3 := atC_new ((w.alloc (.cells A ta)).alloc (.cells B tb)) C tc
  have e1 : Below (w.alloc (.cells A ta)).heap.size (w.alloc (.cells A ta)) (((w.alloc (.cells A ta)).alloc (.cells B tb)).alloc (.cells C tc)) := ((Below.refl _ _).alloc (Nat.le_refl _) _).alloc (by simp) _
  have e2 : Below ((w.alloc (.cells A ta)).alloc (.cells B tb)).heap.size ((w.alloc (.cells A ta)).alloc (.cells B tb)) (((w.alloc (.cells A ta)).alloc (.cells B tb)).alloc (.cells C tc)) := (Below.refl _ _).alloc (Nat.le_refl _) _
  have z1 : (w.alloc (.cells A ta)).heap.size = w.heap.size + 1 := by simp
  have z2 : ((w.alloc (.cells A ta)).alloc (.cells B tb)).heap.size = w.heap.size + 2 := by simp
  rw [z1] at h2 e1
  rw [z2] at h3 e2
  exact ⟨(((Below.refl _ _).alloc (Nat.le_refl _) _).alloc (by simp) _).alloc (by simp; omega) _, by simp, h1.below (by omega) e1, h2.below (by omega) e2, h3⟩
set_option maxRecDepth 100000 in
set_option maxHeartbeats 8000000 in
theorem column_any (S : Nat → Prop) (c : Cst) (l : List Tok) (th : List Bool) (a b : Option Addr) (n cp cq : Nat) (w : World) (h : Toks S w a n cp l) (hf : Flgs S w b n cq th) (hn : n ≤ 32) (hc : c.ok)
    (hv : ∀ (j : Nat) (t : Tok), l[j]? = some t → th[j]? = some true → t.err = 0) (hE : Env w) :
    Calls Tryz.prog 64 #[c.val, .slice a n cp, .slice b n cq] w fun e w' => e = .returned (.tuple #[.int .i64 (colF c l th : Nat), .int .i64 0]) ∧ Below w.heap.size w w' := by
  have HC := Lib.hid (fun W => ccheck_any c W hc)
  have HV := Lib.hid hv
  have HE := Lib.hid hE
  have HOK := Lib.hid hc
  have HL := Lib.hid h
  have HFL := Lib.hid hf
  clear hc hv hE h hf
  obtain ⟨cg, cn, cl, cm⟩ := c
  dsimp only [Cst.val, Cst.arr] at HC ⊢
  obtain ⟨hb0, hs0, x0, x1, x2⟩ := boxes3 w #[.int .i64 cg, .int .i64 cn, .int .i64 cl, .int .i64 cm] #[.slice a n cp] #[.slice b n cq] 23 37 101
  generalize hWA : (((w.alloc (.cells #[.int .i64 cg, .int .i64 cn, .int .i64 cl, .int .i64 cm] 23)).alloc (.cells #[.slice a n cp] 37)).alloc (.cells #[.slice b n cq] 101)) = W0 at *
  have HB0 := Lib.hid hb0
  have HX := Lib.hid (And.intro x0 (And.intro x1 x2))
  have k0 := x0 0 _ rfl
  have k1 := x0 1 _ rfl
  have k2 := x0 2 _ rfl
  have k3 := x0 3 _ rfl
  clear hb0 x0 x1 x2
  refine (callsIn_wide (n := 10)).1 ?_
  refine callsIn_of_wp_marks Tryz.func64 rfl trivial ?_ rfl
  simp only [Tryz.ntmps64, List.size_toArray, List.length_cons, List.length_nil, Nat.reduceAdd, Nat.reduceSub, Array.replicate_succ, Array.replicate_zero, List.push_toArray, List.append_toArray, List.nil_append, List.cons_append]
  gi_wp2_with (fail)
  refine ⟨trivial, ?_⟩
  refine (callsIn_wide.2 (HC.out _)).mono ?_
  rintro e w1 ⟨rfl, hb1⟩
  have HB1 := Lib.hid hb1
  have k1 := (HX.out.2.1.below (by omega) hb1) 0 _ rfl
  have k2 := (HX.out.2.2.below (by omega) hb1) 0 _ rfl
  clear k0 k3 hb1
  have HN := Lib.hid HL.out.len
  have HNF := Lib.hid HFL.out.len
  gi_wp2_with (fail)
  gi_loopw [26] (fun i wr => ∃ j : Nat, i = .int .i64 j ∧ j ≤ n ∧ Hid (Below W0.heap.size W0 wr)) (fun i _ => n - (intOf i).toNat)
  case atStart => exact ⟨0, rfl, Nat.zero_le _, HB1.out⟩
  case round =>
    clear k1 k2 HB1
    obtain ⟨j, rfl, hj, hbr⟩ := hrel
    have k0 := (HX.out.1.below (by omega) hbr.out) 0 _ rfl
    have k1 := (HX.out.2.1.below (by omega) hbr.out) 0 _ rfl
    have k2 := (HX.out.2.2.below (by omega) hbr.out) 0 _ rfl
    have hbw := HB0.out.trans (hbr.out.mono HB0.out.size)
    by_cases hjn : j < n
    · obtain ⟨t, bt, off, hu, -, ea, -, hbl, -, ⟨c0, c1, c2, c3, c4, c5⟩⟩ := (HL.out.below rTok_ok hbw).tok hjn
      obtain ⟨f, bf, offf, hfu, -, eb, -, hbf, f0⟩ := (HFL.out.below rBool_ok hbw).flg hjn
      have HT := Lib.hid (fun (hf1 : f = true) W (hW : Below w.heap.size w W) => vtok_any t W (HV.out j t hu (by rw [hfu, hf1])) (HE.out.below hW))
      have HBW := Lib.hid hbw
      clear hu hfu hbw
      obtain ⟨tx, nm, pg, ln, fl, na⟩ := t
      dsimp only [Tok.val] at c0 c1 c2 c3 c4 c5 HT
      have hb2 : Below wr.heap.size wr (wr.alloc (.cells #[.string tx, .string nm, .string pg, .int .i64 ln, .int .i64 fl, .string na] 47)) := (Below.refl _ _).alloc (Nat.le_refl _) _
      have k2' := (hb2.cell (p := ⟨w.heap.size + 2, 0, none⟩) (by have := hbr.out.size; show w.heap.size + 2 < wr.heap.size; omega)).trans k2
      subst ea
      subst eb
      have f0' := (hb2.cell (p := ⟨bf, offf + j, none⟩) hbf).trans f0
      have HB2 := Lib.hid hb2
      clear hb2
      cases f with
      | false =>
        clear HT
        gi_wp2_with (fail)
        refine ⟨trivial, ?_⟩
        gi_wp2_with (fail)
        go_roundw
        case rel => exact ⟨j + 1, by go_num, by omega, hbr.out.trans (HB2.out.mono hbr.out.size)⟩
        case measure => simp [intOf]; omega
      | true =>
        have HT2 := Lib.hid (HT.out rfl)
        clear HT
        gi_wp2_with (fail)
        refine ⟨trivial, ?_⟩
        refine (callsIn_wide.2 (HT2.out _ (HBW.out.trans (HB2.out.mono HBW.out.size)))).mono ?_
        rintro e w3 ⟨rfl, hb3⟩
        have HB3 := Lib.hid (HB2.out.trans (hb3.mono HB2.out.size))
        clear hb3
        gi_wp2_with (fail)
        go_roundw
        case rel => exact ⟨j + 1, by go_num, by omega, hbr.out.trans (HB3.out.mono hbr.out.size)⟩
        case measure => simp [intOf]; omega
    · obtain ⟨W1, hW1⟩ : ∃ W1, W1 = wr := ⟨_, rfl⟩
      clear k0
      have hb2 : Below wr.heap.size wr (wr.alloc (.cells #[.int .i64 0] 3)) := (Below.refl _ _).alloc (Nat.le_refl _) _
      have k1' := (hb2.cell (p := ⟨w.heap.size + 1, 0, none⟩) (by have := hbr.out.size; show w.heap.size + 1 < wr.heap.size; omega)).trans k1
      have HB2 := Lib.hid hb2
      clear hb2 k2 HE HC
      gi_wp2_with (fail)
      refine ⟨trivial, ?_⟩
      refine (prs_in _ _ n).mono ?_
      rintro e w3 ⟨rfl, rfl⟩
      gi_wp2
      obtain ⟨WL, hWL⟩ : ∃ WL, WL = (wr.alloc (.cells #[.int .i64 0] 3)).alloc (.cells #[.int .i64 (n : Int)] 3) := ⟨_, rfl⟩
      have gS : WL.heap[wr.heap.size]? = some (.cells #[.int .i64 0] 3 (0, 0)) := by
        rw [hWL, Below.heap_alloc _ _ _ (by simp)]; exact World.alloc_heap_new _ _
      have gN : WL.heap[wr.heap.size + 1]? = some (.cells #[.int .i64 (n : Int)] 3 (0, 0)) := by
        have e1 := World.alloc_heap_new (wr.alloc (.cells #[.int .i64 0] 3)) (.cells #[.int .i64 (n : Int)] 3)
        rw [← hWL] at e1; simpa using e1
      have hbL : Below wr.heap.size wr WL := by rw [hWL]; exact HB2.out.alloc HB2.out.size _
      have hsL : WL.heap.size = wr.heap.size + 2 := by rw [hWL]; simp
      rw [← hWL]
      have hb0L : Below W0.heap.size W0 WL := hbr.out.trans (hbL.mono hbr.out.size)
      have hsz0 := hbr.out.size
      generalize hSB : wr.heap.size = sb at *
      clear hWL hbL k1 k1' HB2
      refine iter_loop (α := Pr n) (n := 10) (by omega) rfl (enters_of Tryz.func101 (by kernel_rfl) rfl) (prs_stops (10 - 1) (fun _ _ => True) (sb + 1) n WL (by omega) (one_box gN).1) (fun _ _ => trivial) (fun _ => trivial) (fun _ _ _ _ _ _ _ _ => trivial) (fun _ => rfl)
        (fun pre W => W.heap[sb]? = some (.cells #[.int .i64 (colS ⟨cg, cn, cl, cm⟩ l th (pre.map (·.1)) : Nat)] 3 (0, 0)) ∧ Below W0.heap.size W0 W ∧ WL.heap.size ≤ W.heap.size) (fun _ _ _ => False) ?hI ?hIx ⟨gS, hb0L, Nat.le_refl _⟩ ?round ?done ?stop
      case hI =>
        rintro pre W W' row ⟨g1, g2, g3⟩ hg hr
        exact ⟨cells_own g1 hg hr, g2.grown hg g2.size (fun r e => by have := (hr r e).1; omega), Nat.le_trans g3 hg.size⟩
      case hIx => rintro c' pre W W' row h; exact h.elim
      case round =>
        rintro lv ⟨⟨i, k⟩, hx⟩ W K hK
        dsimp only [prEnc] at hK ⊢
        gi_wp2
        refine ⟨by first | trivial | rfl, hK _ ?_⟩
        clear hK W K
        rintro lv2 pre W ⟨g1, g2, g3⟩ hlt
        have hik := prL_mem hx
        dsimp only at hik
        have hbW := HB0.out.trans (g2.mono HB0.out.size)
        have k0 := (HX.out.1.below (by omega) g2) 0 _ rfl
        have k3 := (HX.out.1.below (by omega) g2) 1 _ rfl
        have k4 := (HX.out.1.below (by omega) g2) 2 _ rfl
        have k5 := (HX.out.1.below (by omega) g2) 3 _ rfl
        have k1 := (HX.out.2.1.below (by omega) g2) 0 _ rfl
        have k2 := (HX.out.2.2.below (by omega) g2) 0 _ rfl
        have hin : i < n := by omega
        have hkn : k < n := by omega
        obtain ⟨s, bt, off, hu, -, ea, -, hbl, hsk, ⟨c0, c1, c2, c3, c4, c5⟩⟩ := (HL.out.below rTok_ok hbW).tok hin
        obtain ⟨t, bt2, off2, hu2, -, ea2, -, -, htk, ⟨d0, d1, d2, d3, d4, d5⟩⟩ := (HL.out.below rTok_ok hbW).tok hkn
        obtain ⟨f, bf, offf, hfu, -, eb, -, hbf, f0⟩ := (HFL.out.below rBool_ok hbW).flg hin
        obtain ⟨f2, bf2, offf2, hfu2, -, eb2, -, -, f1⟩ := (HFL.out.below rBool_ok hbW).flg hkn
        subst ea
        cases ea2
        subst eb
        cases eb2
        have s0 := (one_box g1).1
        have s1 := (one_box g1).2
        have hst : Hid (colS ⟨cg, cn, cl, cm⟩ l th (((pre ++ [(⟨(i, k), hx⟩ : Pr n)]).map (·.1))) = colS ⟨cg, cn, cl, cm⟩ l th (pre.map (·.1)) + coO ⟨cg, cn, cl, cm⟩ (if f = true then some s else none) (if f2 = true then some t else none)) := by
          show _ = _
          rw [List.map_append, List.map_singleton, colS_app]
          unfold entT
          simp only [hu, hu2, hfu, hfu2, Option.some.injEq]
        have hle : colS ⟨cg, cn, cl, cm⟩ l th (pre.map (·.1)) ≤ 1000 * 100000 := by
          have e1 := colS_le HOK.out l th (pre.map (·.1))
          rw [List.length_map] at e1
          have e2 : (prS n).length ≤ 1024 := by
            rw [prS_len]
            have key : ∀ q : Fin 33, (prL q.val).length ≤ 1024 := by decide +kernel
            exact key ⟨n, by omega⟩
          omega
        have hcl := coO_le HOK.out (if f = true then some s else none) (if f2 = true then some t else none)
        have HG := Lib.hid (And.intro g1 (And.intro g2 g3))
        have HSz := Lib.hid (And.intro hsL hsz0)
        have ok1 : Hid (f = true → s.err = 0) := fun e => HV.out i s hu (by rw [hfu, e])
        have ok2 : Hid (f2 = true → t.err = 0) := fun e => HV.out k t hu2 (by rw [hfu2, e])
        clear hu hu2 hfu hfu2 g1 g2 g3 hlt hbW
        generalize colS ⟨cg, cn, cl, cm⟩ l th (pre.map (·.1)) = V at *
        obtain ⟨R, hR⟩ : ∃ R, R = coO ⟨cg, cn, cl, cm⟩ (if f = true then some s else none) (if f2 = true then some t else none) := ⟨_, rfl⟩
        rw [← hR] at hst hcl
        have hVw : IntKind.i64.wrap ((V : Int) + (R : Int)) = ((V + R : Nat) : Int) := by rw [IntKind.wrap_i64]; omega
        cases f with
        | true =>
          cases f2 with
          | true =>
            have HP := Lib.hid (fun W => pair_any cg cn cl cm s.text s.norm s.page s.name t.text t.norm t.page t.name s.line s.flags t.line t.flags W HOK.out (vt_small (ok1.out rfl)).2.2.1 (vt_small (ok1.out rfl)).2.2.2 (vt_small (ok2.out rfl)).2.2.1 (vt_small (ok2.out rfl)).2.2.2 (by have := (vt_small (ok1.out rfl)).2.1; omega) (by have := (vt_small (ok2.out rfl)).2.1; omega))
            rw [pT_int HOK.out] at HP
            have hRP : R = pT ⟨cg, cn, cl, cm⟩ s t := by rw [hR]; rfl
            rw [← hRP] at HP
            clear hR hRP ok1 ok2 hsk htk
            obtain ⟨tx, nm, pg, ln, fl, na⟩ := s
            obtain ⟨tx2, nm2, pg2, ln2, fl2, na2⟩ := t
            dsimp only at c0 c1 c2 c3 c4 c5 d0 d1 d2 d3 d4 d5 HP
            gi_wp2
            obtain ⟨X, Wf, hX, hS1, hS2⟩ := family (fun V => Below W.heap.size W V) W (Below.refl _ _)
            have HS2 := Lib.hid hS2
            have q_s0 := fun x => cell_later (hS1 x) s0
            have q_k0 := fun x => cell_later (hS1 x) k0
            have q_k3 := fun x => cell_later (hS1 x) k3
            have q_k4 := fun x => cell_later (hS1 x) k4
            have q_k5 := fun x => cell_later (hS1 x) k5
            have q_k1 := fun x => cell_later (hS1 x) k1
            have q_c0 := fun x => cell_later (hS1 x) c0
            have q_c1 := fun x => cell_later (hS1 x) c1
            have q_c2 := fun x => cell_later (hS1 x) c2
            have q_c3 := fun x => cell_later (hS1 x) c3
            have q_c4 := fun x => cell_later (hS1 x) c4
            have q_c5 := fun x => cell_later (hS1 x) c5
            have q_d0 := fun x => cell_later (hS1 x) d0
            have q_d1 := fun x => cell_later (hS1 x) d1
            have q_d2 := fun x => cell_later (hS1 x) d2
            have q_d3 := fun x => cell_later (hS1 x) d3
            have q_d4 := fun x => cell_later (hS1 x) d4
            have q_d5 := fun x => cell_later (hS1 x) d5
            clear hS1 hS2
            have hd0 : Below W.heap.size W W.drew := (Below.refl _ _).drew
            refine wpIn_region_round (by kernel_rfl) (by kernel_rfl) (fun _ _ h => h) (wpAny_tree (Wf := Wf) 12 (.read 0 (.read 1 (.read 2 (.read 3 (.read 4 (.read 5 (.read 6 (.read 7 (.read 8 (.read 9 (.act 10 (.read 11 .fin)))))))))))) (by kernel_rfl) (fun _ _ d _ _ h => by cases d <;> exact h) (HS2.out _ hd0) ?_)
            refine wpTree_read _ rfl (fun K hK => ?_); unfold rOp; go_simp; (refine hK _ ?_; clear hK K)
            refine wpTree_read _ rfl (fun K hK => ?_); unfold rOp; go_simp; (refine hK _ ?_; clear hK K)
            refine wpTree_read _ rfl (fun K hK => ?_); unfold rOp; go_simp; (refine hK _ ?_; clear hK K)
            refine wpTree_read _ rfl (fun K hK => ?_); unfold rOp; go_simp; (refine hK _ ?_; clear hK K)
            refine wpTree_read _ rfl (fun K hK => ?_); unfold rOp; go_simp; (refine hK _ ?_; clear hK K)
            refine wpTree_read _ rfl (fun K hK => ?_); unfold rOp; go_simp; (refine hK _ ?_; clear hK K)
            refine wpTree_read _ rfl (fun K hK => ?_); unfold rOp; go_simp; (refine hK _ ?_; clear hK K)
            refine wpTree_read _ rfl (fun K hK => ?_); unfold rOp; go_simp; (refine hK _ ?_; clear hK K)
            refine wpTree_read _ rfl (fun K hK => ?_); unfold rOp; go_simp; (refine hK _ ?_; clear hK K)
            refine wpTree_read _ rfl (fun K hK => ?_); unfold rOp; go_simp; (refine hK _ ?_; clear hK K)
            refine wpTree_act _ rfl ?_
            go_wp2_with (go_at_call 88; refine (HP.out _).mono ?_; rintro e w4 ⟨rfl, hb4⟩)
            refine ⟨HS2.out _ (hd0.trans (hb4.mono hd0.size)), ?_⟩
            refine wpTree_read _ rfl (fun K hK => ?_); unfold rOp; go_simp; (refine hK _ ?_; clear hK K)
            refine wpTree_fin ?_
            have hbe := hd0.trans (hb4.mono hd0.size)
            obtain ⟨g1, g2, g3⟩ := HG.out
            obtain ⟨hsL, hsz0⟩ := HSz.out
            have gf := (hbe.block sb (by omega)).trans g1
            have sc := (one_box gf).1
            have sf := (one_box gf).2
            have gE := Lib.hid (one_set gf (.int .i64 ((V + R : Nat) : Int)))
            have hE1 := Lib.hid (keepsFrom_setc (B := WL.heap.size) (keepsFrom_below hbe) (b := sb) (j := 0) (by omega) (.int .i64 ((V + R : Nat) : Int)))
            have hE2 := Lib.hid (below_setc (g2.trans (hbe.mono g2.size)) hsz0 0 (.int .i64 ((V + R : Nat) : Int)))
            have hE3 : Hid (WL.heap.size ≤ w4.heap.size) := Nat.le_trans g3 hbe.size
            clear hbe hb4 hd0 HS2 g1 g2 g3 gf hsL hsz0 s0 s1 k0 k3 k4 k5 k1 c0 c1 c2 c3 c4 c5 d0 d1 d2 d3 d4 d5 q_s0 q_k0 q_k3 q_k4 q_k5 q_k1 q_c0 q_c1 q_c2 q_c3 q_c4 q_c5 q_d0 q_d1 q_d2 q_d3 q_d4 q_d5
            go_wp2_with (fail)
            exact ⟨hE1.out, trivial, by rw [hst.out]; exact gE.out, hE2.out, by simpa [World.setCell] using hE3.out⟩
          | false =>
            have HP := Lib.hid (fun W => tgap_any cg cn cl cm s.text s.norm s.page s.name s.line s.flags W HOK.out.1 (vt_small (ok1.out rfl)).2.2.1 (vt_small (ok1.out rfl)).2.2.2)
            rw [gT_int (c := ⟨cg, cn, cl, cm⟩) HOK.out] at HP
            have hRP : R = gT ⟨cg, cn, cl, cm⟩ s := by rw [hR]; rfl
            rw [← hRP] at HP
            clear hR hRP ok1 ok2 hsk htk
            obtain ⟨tx, nm, pg, ln, fl, na⟩ := s
            obtain ⟨tx2, nm2, pg2, ln2, fl2, na2⟩ := t
            dsimp only at c0 c1 c2 c3 c4 c5 d0 d1 d2 d3 d4 d5 HP
            gi_wp2
            obtain ⟨X, Wf, hX, hS1, hS2⟩ := family (fun V => Below W.heap.size W V) W (Below.refl _ _)
            have HS2 := Lib.hid hS2
            have q_s0 := fun x => cell_later (hS1 x) s0
            have q_k0 := fun x => cell_later (hS1 x) k0
            have q_k3 := fun x => cell_later (hS1 x) k3
            have q_k4 := fun x => cell_later (hS1 x) k4
            have q_k5 := fun x => cell_later (hS1 x) k5
            have q_k1 := fun x => cell_later (hS1 x) k1
            have q_c0 := fun x => cell_later (hS1 x) c0
            have q_c1 := fun x => cell_later (hS1 x) c1
            have q_c2 := fun x => cell_later (hS1 x) c2
            have q_c3 := fun x => cell_later (hS1 x) c3
            have q_c4 := fun x => cell_later (hS1 x) c4
            have q_c5 := fun x => cell_later (hS1 x) c5
            clear hS1 hS2
            have hd0 : Below W.heap.size W W.drew := (Below.refl _ _).drew
            refine wpIn_region_round (by kernel_rfl) (by kernel_rfl) (fun _ _ h => h) (wpAny_tree (Wf := Wf) 8 (.read 0 (.read 1 (.read 2 (.read 3 (.read 4 (.read 5 (.act 6 (.read 7 .fin)))))))) (by kernel_rfl) (fun _ _ d _ _ h => by cases d <;> exact h) (HS2.out _ hd0) ?_)
            refine wpTree_read _ rfl (fun K hK => ?_); unfold rOp; go_simp; (refine hK _ ?_; clear hK K)
            refine wpTree_read _ rfl (fun K hK => ?_); unfold rOp; go_simp; (refine hK _ ?_; clear hK K)
            refine wpTree_read _ rfl (fun K hK => ?_); unfold rOp; go_simp; (refine hK _ ?_; clear hK K)
            refine wpTree_read _ rfl (fun K hK => ?_); unfold rOp; go_simp; (refine hK _ ?_; clear hK K)
            refine wpTree_read _ rfl (fun K hK => ?_); unfold rOp; go_simp; (refine hK _ ?_; clear hK K)
            refine wpTree_read _ rfl (fun K hK => ?_); unfold rOp; go_simp; (refine hK _ ?_; clear hK K)
            refine wpTree_act _ rfl ?_
            go_wp2_with (go_at_call 81; refine (HP.out _).mono ?_; rintro e w4 ⟨rfl, hb4⟩)
            refine ⟨HS2.out _ (hd0.trans (hb4.mono hd0.size)), ?_⟩
            refine wpTree_read _ rfl (fun K hK => ?_); unfold rOp; go_simp; (refine hK _ ?_; clear hK K)
            refine wpTree_fin ?_
            have hbe := hd0.trans (hb4.mono hd0.size)
            obtain ⟨g1, g2, g3⟩ := HG.out
            obtain ⟨hsL, hsz0⟩ := HSz.out
            have gf := (hbe.block sb (by omega)).trans g1
            have sc := (one_box gf).1
            have sf := (one_box gf).2
            have gE := Lib.hid (one_set gf (.int .i64 ((V + R : Nat) : Int)))
            have hE1 := Lib.hid (keepsFrom_setc (B := WL.heap.size) (keepsFrom_below hbe) (b := sb) (j := 0) (by omega) (.int .i64 ((V + R : Nat) : Int)))
            have hE2 := Lib.hid (below_setc (g2.trans (hbe.mono g2.size)) hsz0 0 (.int .i64 ((V + R : Nat) : Int)))
            have hE3 : Hid (WL.heap.size ≤ w4.heap.size) := Nat.le_trans g3 hbe.size
            clear hbe hb4 hd0 HS2 g1 g2 g3 gf hsL hsz0 s0 s1 k0 k3 k4 k5 k1 c0 c1 c2 c3 c4 c5 d0 d1 d2 d3 d4 d5 q_s0 q_k0 q_k3 q_k4 q_k5 q_k1 q_c0 q_c1 q_c2 q_c3 q_c4 q_c5
            go_wp2_with (fail)
            exact ⟨hE1.out, trivial, by rw [hst.out]; exact gE.out, hE2.out, by simpa [World.setCell] using hE3.out⟩
        | false =>
          cases f2 with
          | true =>
            have HP := Lib.hid (fun W => tgap_any cg cn cl cm t.text t.norm t.page t.name t.line t.flags W HOK.out.1 (vt_small (ok2.out rfl)).2.2.1 (vt_small (ok2.out rfl)).2.2.2)
            rw [gT_int (c := ⟨cg, cn, cl, cm⟩) HOK.out] at HP
            have hRP : R = gT ⟨cg, cn, cl, cm⟩ t := by rw [hR]; rfl
            rw [← hRP] at HP
            clear hR hRP ok1 ok2 hsk htk
            obtain ⟨tx, nm, pg, ln, fl, na⟩ := s
            obtain ⟨tx2, nm2, pg2, ln2, fl2, na2⟩ := t
            dsimp only at c0 c1 c2 c3 c4 c5 d0 d1 d2 d3 d4 d5 HP
            gi_wp2
            obtain ⟨X, Wf, hX, hS1, hS2⟩ := family (fun V => Below W.heap.size W V) W (Below.refl _ _)
            have HS2 := Lib.hid hS2
            have q_s0 := fun x => cell_later (hS1 x) s0
            have q_k0 := fun x => cell_later (hS1 x) k0
            have q_k3 := fun x => cell_later (hS1 x) k3
            have q_k4 := fun x => cell_later (hS1 x) k4
            have q_k5 := fun x => cell_later (hS1 x) k5
            have q_k1 := fun x => cell_later (hS1 x) k1
            have q_d0 := fun x => cell_later (hS1 x) d0
            have q_d1 := fun x => cell_later (hS1 x) d1
            have q_d2 := fun x => cell_later (hS1 x) d2
            have q_d3 := fun x => cell_later (hS1 x) d3
            have q_d4 := fun x => cell_later (hS1 x) d4
            have q_d5 := fun x => cell_later (hS1 x) d5
            clear hS1 hS2
            have hd0 : Below W.heap.size W W.drew := (Below.refl _ _).drew
            refine wpIn_region_round (by kernel_rfl) (by kernel_rfl) (fun _ _ h => h) (wpAny_tree (Wf := Wf) 8 (.read 0 (.read 1 (.read 2 (.read 3 (.read 4 (.read 5 (.act 6 (.read 7 .fin)))))))) (by kernel_rfl) (fun _ _ d _ _ h => by cases d <;> exact h) (HS2.out _ hd0) ?_)
            refine wpTree_read _ rfl (fun K hK => ?_); unfold rOp; go_simp; (refine hK _ ?_; clear hK K)
            refine wpTree_read _ rfl (fun K hK => ?_); unfold rOp; go_simp; (refine hK _ ?_; clear hK K)
            refine wpTree_read _ rfl (fun K hK => ?_); unfold rOp; go_simp; (refine hK _ ?_; clear hK K)
            refine wpTree_read _ rfl (fun K hK => ?_); unfold rOp; go_simp; (refine hK _ ?_; clear hK K)
            refine wpTree_read _ rfl (fun K hK => ?_); unfold rOp; go_simp; (refine hK _ ?_; clear hK K)
            refine wpTree_read _ rfl (fun K hK => ?_); unfold rOp; go_simp; (refine hK _ ?_; clear hK K)
            refine wpTree_act _ rfl ?_
            go_wp2_with (go_at_call 81; refine (HP.out _).mono ?_; rintro e w4 ⟨rfl, hb4⟩)
            refine ⟨HS2.out _ (hd0.trans (hb4.mono hd0.size)), ?_⟩
            refine wpTree_read _ rfl (fun K hK => ?_); unfold rOp; go_simp; (refine hK _ ?_; clear hK K)
            refine wpTree_fin ?_
            have hbe := hd0.trans (hb4.mono hd0.size)
            obtain ⟨g1, g2, g3⟩ := HG.out
            obtain ⟨hsL, hsz0⟩ := HSz.out
            have gf := (hbe.block sb (by omega)).trans g1
            have sc := (one_box gf).1
            have sf := (one_box gf).2
            have gE := Lib.hid (one_set gf (.int .i64 ((V + R : Nat) : Int)))
            have hE1 := Lib.hid (keepsFrom_setc (B := WL.heap.size) (keepsFrom_below hbe) (b := sb) (j := 0) (by omega) (.int .i64 ((V + R : Nat) : Int)))
            have hE2 := Lib.hid (below_setc (g2.trans (hbe.mono g2.size)) hsz0 0 (.int .i64 ((V + R : Nat) : Int)))
            have hE3 : Hid (WL.heap.size ≤ w4.heap.size) := Nat.le_trans g3 hbe.size
            clear hbe hb4 hd0 HS2 g1 g2 g3 gf hsL hsz0 s0 s1 k0 k3 k4 k5 k1 c0 c1 c2 c3 c4 c5 d0 d1 d2 d3 d4 d5 q_s0 q_k0 q_k3 q_k4 q_k5 q_k1 q_d0 q_d1 q_d2 q_d3 q_d4 q_d5
            go_wp2_with (fail)
            exact ⟨hE1.out, trivial, by rw [hst.out]; exact gE.out, hE2.out, by simpa [World.setCell] using hE3.out⟩
          | false =>
            have hRP : R = 0 := by rw [hR]; rfl
            subst hRP
            clear hR ok1 ok2 hsk htk k0 k3 k4 k5 c0 c1 c2 c3 c4 c5 d0 d1 d2 d3 d4 d5
            gi_wp2
            obtain ⟨g1, g2, g3⟩ := HG.out
            exact ⟨KeepsFrom.refl _ _, trivial, by rw [hst.out]; exact g1, g2, g3⟩
      case done =>
        rintro D ys W hD rfl ⟨g1, g2, g3⟩ hd
        rw [show (prS n).map (·.1) = prL l.length by rw [← HN.out]; exact List.attach_map_subtype_val _] at g1
        have s0 := (one_box g1).1
        have HG := Lib.hid (And.intro (HB0.out.trans (g2.mono HB0.out.size)) hd)
        have hs2 : w.heap.size ≤ WL.heap.size := by have := hs0; omega
        clear g1 g2 g3 hd
        gi_wp2
        refine leaves_marks (hi := WL.heap.size) (by simp) (Φ := fun W => Below w.heap.size w W) ?_ ?_ _ _ (Marks.one hD HG.out.2) HG.out.1
        · rintro W D h3 hD hd
          exact below_putObj h3 (by omega) hd _
        · rintro W h3
          exact ⟨_, by simp [results, Tryz.results64, go_sem]; rfl, rfl, h3⟩
      case stop => rintro D c' pre W hD hp h; exact h.elim
end Go.Proofs.YtaelfjlmkgimhaaGreatDoor
