/- Joined: ERDs. -/
import Derived.Test.YtbdgmgddliploaaGreatDoorJ30
import Derived.Test.YtbdgmgddliploaaGreatDoorJ32
set_option linter.unusedVariables false
set_option linter.unusedSimpArgs false
set_option maxRecDepth 100000
set_option maxHeartbeats 16000000
namespace Go.Proofs.YtbdgmgddliploaaGreatDoor
open Go.RowKit

theorem decimal_ref : ∀ (n : Nat), n <= 9223372036854775807 -> ∀ w : World, Calls Tryz.prog 49 #[.int .i64 (n : Int)] w fun e w' => e = .returned (.string ⟨(Lib.decDigits n).toArray⟩) /\ Below w.heap.size w w' := by
  intro n
  induction n using Nat.strongRecOn with
  | _ n ih =>
    intro hn w
    by_cases h : n < 10
    · have HD := hiq (digit_at h)
      generalize (⟨(Lib.decDigits n).toArray⟩ : ByteArray) = D at *
      clear ih
      go_enter Tryz.func49, Tryz.ntmps49
      go_wp2
      go_ret
      exact ⟨by rw [HD.out]; first | done | rfl, Below.refl _ _⟩
    · have HQ : Hid (∀ W : World, Calls Tryz.prog 49 #[.int .i64 ((n / 10 : Nat) : Int)] W fun e w' => e = .returned (.string ⟨(Lib.decDigits (n / 10)).toArray⟩) /\ Below W.heap.size W w') := fun W => ih (n / 10) (by omega) (by omega) W
      have HR : Hid (∀ W : World, Calls Tryz.prog 49 #[.int .i64 ((n % 10 : Nat) : Int)] W fun e w' => e = .returned (.string ⟨(Lib.decDigits (n % 10)).toArray⟩) /\ Below W.heap.size W w') := fun W => ih (n % 10) (by omega) (by omega) W
      have hl1 : (Lib.decDigits (n / 10)).length <= 20 := by rw [Lib.decDigits_length]; exact Lib.nDigits_le20 _ (by omega)
      have hl2 : (Lib.decDigits (n % 10)).length <= 20 := by rw [Lib.decDigits_length]; exact Lib.nDigits_le20 _ (by omega)
      have HD : Hid ((⟨(Lib.decDigits (n / 10)).toArray⟩ : ByteArray) ++ (⟨(Lib.decDigits (n % 10)).toArray⟩ : ByteArray) = ⟨(Lib.decDigits n).toArray⟩) := by rw [decDigits_split h]; exact ba_add _ _
      have hq : Int.tdiv (n : Int) 10 = ((n / 10 : Nat) : Int) := by first | exact (Int.ofNat_tdiv n 10).symm | exact (Int.natCast_tdiv n 10).symm | (rw [Int.tdiv_eq_ediv_of_nonneg (by omega)]; omega)
      have hr : Int.tmod (n : Int) 10 = ((n % 10 : Nat) : Int) := by first | exact (Int.ofNat_tmod n 10).symm | exact (Int.natCast_tmod n 10).symm | (rw [Int.tmod_eq_emod_of_nonneg (by omega)]; omega)
      clear ih
      generalize (⟨(Lib.decDigits n).toArray⟩ : ByteArray) = D at *
      generalize Lib.decDigits (n / 10) = A at *
      generalize Lib.decDigits (n % 10) = B at *
      go_enter Tryz.func49, Tryz.ntmps49
      go_wp2_with fail
      refine (HQ.out _).mono ?_
      rintro e w1 ⟨rfl, hb1⟩
      go_wp2_with fail
      refine (HR.out _).mono ?_
      rintro e w2 ⟨rfl, hb2⟩
      go_wp2
      go_ret
      exact ⟨by rw [<- HD.out]; first | done | rfl, hb1.trans (hb2.mono hb1.size)⟩
theorem rdescr_1 (S : Nat -> Prop) (v : CV) (x : Col) (o : Op) (s c : Nat) (w : World) (h : RdC S w v x) (hm : Sml x) (ho : o.ok) (hx : o.text.size <= 1000000) (hg : o.sig.size <= 1000000) (F : Fits x o s c) (hk : o.kind = 1) :
    Calls Tryz.prog 17 #[v.val, o.val] w fun e w' => e = .returned (.tuple #[.string (descr x o), .int .i64 0]) /\ Below w.heap.size w w' := by
  have HF : Hid (∀ W, Below w.heap.size w W -> Calls Tryz.prog 19 #[v.val, o.val] W fun e w' => e = .returned (.int .i64 0) /\ Below W.heap.size W w') := fun W hb => by
    have := rcheck_ref S v x o W (h.below hb) hm
    rw [F.zero] at this; exact this
  have HS : Hid (∀ W, Below w.heap.size w W -> Calls Tryz.prog 43 #[v.val, .string o.sig] W fun e w' => e = .returned (.int .i64 (s : Int)) /\ Below W.heap.size W w') := fun W hb => by
    have := source_ref S v x o.sig W (h.below hb)
    rw [F.src] at this; exact this
  have hs := F.ks
  have ht0 := F.t0
  have ht1 := F.t1
  have hDD := hiq (descr_fits F)
  have hot63 := ho.2.2.1
  generalize descr x o = D at *
  obtain ⟨sec, sa, sn, sc, ta, tn, tc, ca, cn, cc⟩ := v
  obtain ⟨ok, og, ot, oo, ox⟩ := o
  have hln : x.toks.length = x.sigla.length := F.heads.len
  obtain ⟨-, -, h2, h3, h4⟩ := h
  dsimp only at h2 h3 h4 ht0 ht1 hx hg hk hDD hot63 
  subst hk
  change Calls _ _ #[.agg #[.string sec, .slice sa sn sc, .slice ta tn tc, .slice ca cn cc], .agg #[.int .i64 1, .string og, .int .i64 ot, .int .i64 oo, .string ox]] _ _
  change Hid (∀ W, _ -> Calls _ _ #[.agg #[.string sec, .slice sa sn sc, .slice ta tn tc, .slice ca cn cc], .agg #[.int .i64 1, .string og, .int .i64 ot, .int .i64 oo, .string ox]] _ _) at HF
  change Hid (∀ W, _ -> Calls _ _ #[.agg #[.string sec, .slice sa sn sc, .slice ta tn tc, .slice ca cn cc], .string og] _ _) at HS
  obtain ⟨hb, hC, hO⟩ := box2 w #[.string sec, .slice sa sn sc, .slice ta tn tc, .slice ca cn cc] #[.int .i64 1, .string og, .int .i64 ot, .int .i64 oo, .string ox] 26 28
  have c0 := hC 0 _ rfl
  have c1 := hC 1 _ rfl
  have c2 := hC 2 _ rfl
  have c3 := hC 3 _ rfl
  have o0 := hO 0 _ rfl
  have o1 := hO 1 _ rfl
  have o2 := hO 2 _ rfl
  have o3 := hO 3 _ rfl
  have o4 := hO 4 _ rfl
  obtain ⟨tk, rfl⟩ : ∃ tk : Nat, ot = (tk : Int) := ⟨ot.toNat, by omega⟩
  obtain ⟨r, bo, off, a1, n1, c1', hu, hmem, rfl, -, hbl, hr, d1⟩ := h3.row (j := s) (by rw [h3.len, hln]; exact hs)
  have htr : x.tks s = r := by unfold Col.tks; rw [hu]; rfl
  rw [htr] at ht1
  obtain ⟨t, b2, off2, hu2, hmem2, rfl, -, hbl2, -, ⟨e0, e1, e2, e3, e4, e5⟩⟩ := hr.tok (j := tk) (by rw [hr.len]; omega)
  have htk : x.tk s (tk : Int) = t := by unfold Col.tk; rw [htr, Int.toNat_natCast, hu2]; rfl
  have htx : t.text.size <= 1000000 := (hm.tok r (List.mem_of_getElem? hu) t hmem2).1
  rw [htk] at hDD
  have hsn : s < tn := by rw [h3.len, hln]; exact hs
  have htn : tk < n1 := by rw [hr.len]; omega
  have htb := h3.bound
  have hrb := hr.bound
  obtain ⟨tx, nm, pg, ln, fl, na⟩ := t
  dsimp only at e0 hDD htx
  have HDC : Hid (∀ W : World, Calls Tryz.prog 49 #[.int .i64 (tk : Int)] W fun e w' => e = .returned (.string ⟨(Lib.decDigits tk).toArray⟩) /\ Below W.heap.size W w') := decimal_ref tk (by have := hot63.2; omega)
  have hwk : IntKind.i64.wrap (0 : Int) = 0 := by decide
  have hdl : (Lib.decDigits tk).length <= 20 := by rw [Lib.decDigits_length]; exact Lib.nDigits_le20 tk (by have := hot63.2; omega)
  have HSD := hiq (hDD.out.trans (said_12 (by decide) (by decide) og tx ox tk oo))
  unfold saidB at HSD
  change Hid (_ = (⟨#[106, 111, 105, 110]⟩ : ByteArray) ++ _ ++ _ ++ _ ++ _ ++ _ ++ _) at HSD
  clear hDD
  replace d1 := clq hb d1; replace e0 := clq hb e0
  clear hC hO h2 h3 h4 hu hmem hu2 hmem2 htr htk hr ht1 hs e1 e2 e3 e4 e5 F hln hm ho hot63
  generalize Lib.decDigits tk = DG at *
  have z1 : ¬ 9223372036854775807 < 5 + og.size := by omega
  have z2 : ¬ 9223372036854775807 < 5 + og.size + 1 := by omega
  have z3 : ¬ 9223372036854775807 < 5 + og.size + 1 + DG.length := by omega
  have z4 : ¬ 9223372036854775807 < 5 + og.size + 1 + DG.length + 1 := by omega
  have z5 : ¬ 9223372036854775807 < 5 + og.size + 1 + DG.length + 1 + tx.size := by omega
  go_enter Tryz.func17, Tryz.ntmps17
  have HFF := hiq (HF.out _ hb)
  clear HF
  go_wp2_with fail
  generalize (w.alloc (.cells #[.string sec, .slice sa sn sc, .slice (some ⟨bo, off, none⟩) tn tc, .slice ca cn cc] 26)).alloc (.cells #[.int .i64 1, .string og, .int .i64 (tk : Int), .int .i64 oo, .string ox] 28) = W1 at *
  refine HFF.out.mono ?_
  rintro e W2 ⟨rfl, hb2⟩
  replace c0 := clq hb2 c0; replace c1 := clq hb2 c1; replace c2 := clq hb2 c2; replace c3 := clq hb2 c3; replace o0 := clq hb2 o0; replace o1 := clq hb2 o1; replace o2 := clq hb2 o2; replace o3 := clq hb2 o3; replace o4 := clq hb2 o4; replace d1 := clq hb2 d1; replace e0 := clq hb2 e0
  replace hb := hb.trans (hb2.mono hb.size)
  clear HFF hb2
  go_wp2_with fail
  obtain ⟨X, Wf, hX, hS1, hS2⟩ := family (fun V => Below W2.heap.size W2 V) W2 (Below.refl _ _)
  have HS2q := hiq hS2
  have q_c0 := fun x => clq (hS1 x) c0
  have q_c1 := fun x => clq (hS1 x) c1
  have q_c2 := fun x => clq (hS1 x) c2
  have q_c3 := fun x => clq (hS1 x) c3
  have q_o0 := fun x => clq (hS1 x) o0
  have q_o1 := fun x => clq (hS1 x) o1
  have q_o2 := fun x => clq (hS1 x) o2
  have q_o3 := fun x => clq (hS1 x) o3
  have q_o4 := fun x => clq (hS1 x) o4
  have q_d1 := fun x => clq (hS1 x) d1
  have q_e0 := fun x => clq (hS1 x) e0
  clear hS1 hS2
  have hd0 : Below W2.heap.size W2 W2.drew := (Below.refl _ _).drew
  refine wp_region_tree (Wf := Wf) 30 (.read 1 (.read 2 (.read 3 (.read 7 (.read 8 (.read 11 (.read 12 (.read 16 (.read 17 (.read 18 (.read 19 (.read 20 (.read 24 (.read 25 (.two 0 (.read 4 (.two 5 (.read 6 (.read 9 (.read 10 (.act 13 (.read 14 (.read 15 (.act 21 (.read 22 (.read 23 (.read 26 (.read 27 (.read 28 (.read 29 .fin))))))))))))) 13 (.two 5 (.read 6 (.read 9 (.read 10 (.read 14 (.read 15 (.act 21 (.read 22 (.read 23 (.read 26 (.read 27 (.read 28 (.read 29 .fin)))))))))))) 21 (.read 22 (.read 23 (.read 26 (.read 27 (.read 28 (.act 5 (.read 6 (.read 9 (.read 10 (.read 14 (.read 15 (.read 29 .fin))))))))))))))) 13 (.two 0 (.read 4 (.two 5 (.read 6 (.read 9 (.read 10 (.read 14 (.read 15 (.act 21 (.read 22 (.read 23 (.read 26 (.read 27 (.read 28 (.read 29 .fin)))))))))))) 21 (.read 22 (.read 23 (.read 26 (.read 27 (.read 28 (.act 5 (.read 6 (.read 9 (.read 10 (.read 14 (.read 15 (.read 29 .fin)))))))))))))) 21 (.read 22 (.read 23 (.read 26 (.read 27 (.read 28 (.act 0 (.read 4 (.act 5 (.read 6 (.read 9 (.read 10 (.read 14 (.read 15 (.read 29 .fin)))))))))))))))))))))))))))))) (by kernel_rfl) (by kernel_rfl) (fun _ _ d _ _ h => by cases d <;> exact h) (HS2q.out _ hd0) ?_
  refine wpTree_read (k := 1) _ rfl (fun K hK => ?_); unfold rOp; go_simp; (refine hK _ ?_; clear hK K)
  refine wpTree_read (k := 2) _ rfl (fun K hK => ?_); unfold rOp; go_simp; (refine hK _ ?_; clear hK K)
  refine wpTree_read (k := 3) _ rfl (fun K hK => ?_); unfold rOp; go_simp; (refine hK _ ?_; clear hK K)
  refine wpTree_read (k := 7) _ rfl (fun K hK => ?_); unfold rOp; go_simp; (refine hK _ ?_; clear hK K)
  refine wpTree_read (k := 8) _ rfl (fun K hK => ?_); unfold rOp; go_simp; (refine hK _ ?_; clear hK K)
  refine wpTree_read (k := 11) _ rfl (fun K hK => ?_); unfold rOp; go_simp; (refine hK _ ?_; clear hK K)
  refine wpTree_read (k := 12) _ rfl (fun K hK => ?_); unfold rOp; go_simp; (refine hK _ ?_; clear hK K)
  refine wpTree_read (k := 16) _ rfl (fun K hK => ?_); unfold rOp; go_simp; (refine hK _ ?_; clear hK K)
  refine wpTree_read (k := 17) _ rfl (fun K hK => ?_); unfold rOp; go_simp; (refine hK _ ?_; clear hK K)
  refine wpTree_read (k := 18) _ rfl (fun K hK => ?_); unfold rOp; go_simp; (refine hK _ ?_; clear hK K)
  refine wpTree_read (k := 19) _ rfl (fun K hK => ?_); unfold rOp; go_simp; (refine hK _ ?_; clear hK K)
  refine wpTree_read (k := 20) _ rfl (fun K hK => ?_); unfold rOp; go_simp; (refine hK _ ?_; clear hK K)
  refine wpTree_read (k := 24) _ rfl (fun K hK => ?_); unfold rOp; go_simp; (refine hK _ ?_; clear hK K)
  refine wpTree_read (k := 25) _ rfl (fun K hK => ?_); unfold rOp; go_simp; (refine hK _ ?_; clear hK K)
  have hd := hd0
  clear hd0
  generalize W2.drew = V at *
  repeat' first
    | refine wpTree_two ?_ ?_
    | (refine wpTree_read (k := 4) _ rfl (fun K hK => ?_); unfold rOp; go_simp; (refine hK _ ?_; clear hK K))
    | (refine wpTree_read (k := 6) _ rfl (fun K hK => ?_); unfold rOp; go_simp; (refine hK _ ?_; clear hK K))
    | (refine wpTree_read (k := 9) _ rfl (fun K hK => ?_); unfold rOp; go_simp; (refine hK _ ?_; clear hK K))
    | (refine wpTree_read (k := 10) _ rfl (fun K hK => ?_); unfold rOp; go_simp; (refine hK _ ?_; clear hK K))
    | (refine wpTree_read (k := 14) _ rfl (fun K hK => ?_); unfold rOp; go_simp; (refine hK _ ?_; clear hK K))
    | (refine wpTree_read (k := 15) _ rfl (fun K hK => ?_); unfold rOp; go_simp; (refine hK _ ?_; clear hK K))
    | (refine wpTree_read (k := 22) _ rfl (fun K hK => ?_); unfold rOp; go_simp; (refine hK _ ?_; clear hK K))
    | (refine wpTree_read (k := 23) _ rfl (fun K hK => ?_); unfold rOp; go_simp; (refine hK _ ?_; clear hK K))
    | (refine wpTree_read (k := 26) _ rfl (fun K hK => ?_); unfold rOp; go_simp; (refine hK _ ?_; clear hK K))
    | (refine wpTree_read (k := 27) _ rfl (fun K hK => ?_); unfold rOp; go_simp; (refine hK _ ?_; clear hK K))
    | (refine wpTree_read (k := 28) _ rfl (fun K hK => ?_); unfold rOp; go_simp; (refine hK _ ?_; clear hK K))
    | (refine wpTree_read (k := 29) _ rfl (fun K hK => ?_); unfold rOp; go_simp; (refine hK _ ?_; clear hK K))
    | (refine wpTree_act (k := 0) _ rfl ?_
       have hst : Below V.heap.size V (V.alloc (.cells #[.string ⟨#[106, 111, 105, 110]⟩, .string ⟨#[115, 112, 108, 105, 116]⟩, .string ⟨#[115, 104, 105, 102, 116]⟩, .string ⟨#[114, 101, 103, 117, 108, 97, 114, 105, 122, 101]⟩] 9)) := (Below.refl _ _).alloc (Nat.le_refl _) _
       have hL := (box_cells4 (World.alloc_heap_new V (.cells #[.string ⟨#[106, 111, 105, 110]⟩, .string ⟨#[115, 112, 108, 105, 116]⟩, .string ⟨#[115, 104, 105, 102, 116]⟩, .string ⟨#[114, 101, 103, 117, 108, 97, 114, 105, 122, 101]⟩] 9))).1
       replace hd := hd.trans (hst.mono hd.size)
       clear hst
       go_wp2_with fail
       generalize V.heap.size = bF at *
       generalize V.alloc (.cells #[.string ⟨#[106, 111, 105, 110]⟩, .string ⟨#[115, 112, 108, 105, 116]⟩, .string ⟨#[115, 104, 105, 102, 116]⟩, .string ⟨#[114, 101, 103, 117, 108, 97, 114, 105, 122, 101]⟩] 9) = V at *
       refine ⟨HS2q.out _ hd, ?_⟩)
    | (refine wpTree_act (k := 5) _ rfl ?_
       go_wp2_with fail
       refine ⟨HS2q.out _ hd, ?_⟩)
    | (refine wpTree_act (k := 13) _ rfl ?_
       have HQ := hiq (HDC.out V)
       go_wp2_with fail
       refine HQ.out.mono ?_
       clear HQ
       rintro e V2 ⟨rfl, hst⟩
       replace hd := hd.trans (hst.mono hd.size)
       try replace hL := clq hst hL
       clear hst
       generalize V2 = V at *
       go_wp2_with fail
       refine ⟨HS2q.out _ hd, ?_⟩)
    | (refine wpTree_act (k := 21) _ rfl ?_
       have HQ := hiq (HS.out V (hb.trans (hd.mono hb.size)))
       go_wp2_with fail
       refine HQ.out.mono ?_
       clear HQ
       rintro e V2 ⟨rfl, hst⟩
       replace hd := hd.trans (hst.mono hd.size)
       try replace hL := clq hst hL
       clear hst
       generalize V2 = V at *
       go_wp2_with fail
       refine ⟨HS2q.out _ hd, ?_⟩)
  all_goals refine wpTree_fin ?_
  all_goals
    clear hL HS2q hX
    replace o0 := clq hd o0; replace o1 := clq hd o1; replace o2 := clq hd o2; replace o3 := clq hd o3; replace o4 := clq hd o4
    replace hb := hb.trans (hd.mono hb.size)
    go_wp2
    exact bodyPost_ret (results_tmp2 rfl _ _ _) rfl ⟨by rw [HSD.out]; first | done | rfl, hb⟩
theorem rdescr_2 (S : Nat -> Prop) (v : CV) (x : Col) (o : Op) (s c : Nat) (w : World) (h : RdC S w v x) (hm : Sml x) (ho : o.ok) (hx : o.text.size <= 1000000) (hg : o.sig.size <= 1000000) (F : Fits x o s c) (hk : o.kind = 2) :
    Calls Tryz.prog 17 #[v.val, o.val] w fun e w' => e = .returned (.tuple #[.string (descr x o), .int .i64 0]) /\ Below w.heap.size w w' := by
  have HF : Hid (∀ W, Below w.heap.size w W -> Calls Tryz.prog 19 #[v.val, o.val] W fun e w' => e = .returned (.int .i64 0) /\ Below W.heap.size W w') := fun W hb => by
    have := rcheck_ref S v x o W (h.below hb) hm
    rw [F.zero] at this; exact this
  have HS : Hid (∀ W, Below w.heap.size w W -> Calls Tryz.prog 43 #[v.val, .string o.sig] W fun e w' => e = .returned (.int .i64 (s : Int)) /\ Below W.heap.size W w') := fun W hb => by
    have := source_ref S v x o.sig W (h.below hb)
    rw [F.src] at this; exact this
  have hs := F.ks
  have ht0 := F.t0
  have ht1 := F.t1
  have hDD := hiq (descr_fits F)
  have hot63 := ho.2.2.1
  generalize descr x o = D at *
  obtain ⟨sec, sa, sn, sc, ta, tn, tc, ca, cn, cc⟩ := v
  obtain ⟨ok, og, ot, oo, ox⟩ := o
  have hln : x.toks.length = x.sigla.length := F.heads.len
  obtain ⟨-, -, h2, h3, h4⟩ := h
  dsimp only at h2 h3 h4 ht0 ht1 hx hg hk hDD hot63 
  subst hk
  change Calls _ _ #[.agg #[.string sec, .slice sa sn sc, .slice ta tn tc, .slice ca cn cc], .agg #[.int .i64 2, .string og, .int .i64 ot, .int .i64 oo, .string ox]] _ _
  change Hid (∀ W, _ -> Calls _ _ #[.agg #[.string sec, .slice sa sn sc, .slice ta tn tc, .slice ca cn cc], .agg #[.int .i64 2, .string og, .int .i64 ot, .int .i64 oo, .string ox]] _ _) at HF
  change Hid (∀ W, _ -> Calls _ _ #[.agg #[.string sec, .slice sa sn sc, .slice ta tn tc, .slice ca cn cc], .string og] _ _) at HS
  obtain ⟨hb, hC, hO⟩ := box2 w #[.string sec, .slice sa sn sc, .slice ta tn tc, .slice ca cn cc] #[.int .i64 2, .string og, .int .i64 ot, .int .i64 oo, .string ox] 26 28
  have c0 := hC 0 _ rfl
  have c1 := hC 1 _ rfl
  have c2 := hC 2 _ rfl
  have c3 := hC 3 _ rfl
  have o0 := hO 0 _ rfl
  have o1 := hO 1 _ rfl
  have o2 := hO 2 _ rfl
  have o3 := hO 3 _ rfl
  have o4 := hO 4 _ rfl
  obtain ⟨tk, rfl⟩ : ∃ tk : Nat, ot = (tk : Int) := ⟨ot.toNat, by omega⟩
  obtain ⟨r, bo, off, a1, n1, c1', hu, hmem, rfl, -, hbl, hr, d1⟩ := h3.row (j := s) (by rw [h3.len, hln]; exact hs)
  have htr : x.tks s = r := by unfold Col.tks; rw [hu]; rfl
  rw [htr] at ht1
  obtain ⟨t, b2, off2, hu2, hmem2, rfl, -, hbl2, -, ⟨e0, e1, e2, e3, e4, e5⟩⟩ := hr.tok (j := tk) (by rw [hr.len]; omega)
  have htk : x.tk s (tk : Int) = t := by unfold Col.tk; rw [htr, Int.toNat_natCast, hu2]; rfl
  have htx : t.text.size <= 1000000 := (hm.tok r (List.mem_of_getElem? hu) t hmem2).1
  rw [htk] at hDD
  have hsn : s < tn := by rw [h3.len, hln]; exact hs
  have htn : tk < n1 := by rw [hr.len]; omega
  have htb := h3.bound
  have hrb := hr.bound
  obtain ⟨tx, nm, pg, ln, fl, na⟩ := t
  dsimp only at e0 hDD htx
  have HDC : Hid (∀ W : World, Calls Tryz.prog 49 #[.int .i64 (tk : Int)] W fun e w' => e = .returned (.string ⟨(Lib.decDigits tk).toArray⟩) /\ Below W.heap.size W w') := decimal_ref tk (by have := hot63.2; omega)
  have hwk : IntKind.i64.wrap (1 : Int) = 1 := by decide
  have hdl : (Lib.decDigits tk).length <= 20 := by rw [Lib.decDigits_length]; exact Lib.nDigits_le20 tk (by have := hot63.2; omega)
  have HSD := hiq (hDD.out.trans (said_12 (by decide) (by decide) og tx ox tk oo))
  unfold saidB at HSD
  change Hid (_ = (⟨#[115, 112, 108, 105, 116]⟩ : ByteArray) ++ _ ++ _ ++ _ ++ _ ++ _ ++ _) at HSD
  clear hDD
  replace d1 := clq hb d1; replace e0 := clq hb e0
  clear hC hO h2 h3 h4 hu hmem hu2 hmem2 htr htk hr ht1 hs e1 e2 e3 e4 e5 F hln hm ho hot63
  generalize Lib.decDigits tk = DG at *
  have z1 : ¬ 9223372036854775807 < 6 + og.size := by omega
  have z2 : ¬ 9223372036854775807 < 6 + og.size + 1 := by omega
  have z3 : ¬ 9223372036854775807 < 6 + og.size + 1 + DG.length := by omega
  have z4 : ¬ 9223372036854775807 < 6 + og.size + 1 + DG.length + 1 := by omega
  have z5 : ¬ 9223372036854775807 < 6 + og.size + 1 + DG.length + 1 + tx.size := by omega
  go_enter Tryz.func17, Tryz.ntmps17
  have HFF := hiq (HF.out _ hb)
  clear HF
  go_wp2_with fail
  generalize (w.alloc (.cells #[.string sec, .slice sa sn sc, .slice (some ⟨bo, off, none⟩) tn tc, .slice ca cn cc] 26)).alloc (.cells #[.int .i64 2, .string og, .int .i64 (tk : Int), .int .i64 oo, .string ox] 28) = W1 at *
  refine HFF.out.mono ?_
  rintro e W2 ⟨rfl, hb2⟩
  replace c0 := clq hb2 c0; replace c1 := clq hb2 c1; replace c2 := clq hb2 c2; replace c3 := clq hb2 c3; replace o0 := clq hb2 o0; replace o1 := clq hb2 o1; replace o2 := clq hb2 o2; replace o3 := clq hb2 o3; replace o4 := clq hb2 o4; replace d1 := clq hb2 d1; replace e0 := clq hb2 e0
  replace hb := hb.trans (hb2.mono hb.size)
  clear HFF hb2
  go_wp2_with fail
  obtain ⟨X, Wf, hX, hS1, hS2⟩ := family (fun V => Below W2.heap.size W2 V) W2 (Below.refl _ _)
  have HS2q := hiq hS2
  have q_c0 := fun x => clq (hS1 x) c0
  have q_c1 := fun x => clq (hS1 x) c1
  have q_c2 := fun x => clq (hS1 x) c2
  have q_c3 := fun x => clq (hS1 x) c3
  have q_o0 := fun x => clq (hS1 x) o0
  have q_o1 := fun x => clq (hS1 x) o1
  have q_o2 := fun x => clq (hS1 x) o2
  have q_o3 := fun x => clq (hS1 x) o3
  have q_o4 := fun x => clq (hS1 x) o4
  have q_d1 := fun x => clq (hS1 x) d1
  have q_e0 := fun x => clq (hS1 x) e0
  clear hS1 hS2
  have hd0 : Below W2.heap.size W2 W2.drew := (Below.refl _ _).drew
  refine wp_region_tree (Wf := Wf) 30 (.read 1 (.read 2 (.read 3 (.read 7 (.read 8 (.read 11 (.read 12 (.read 16 (.read 17 (.read 18 (.read 19 (.read 20 (.read 24 (.read 25 (.two 0 (.read 4 (.two 5 (.read 6 (.read 9 (.read 10 (.act 13 (.read 14 (.read 15 (.act 21 (.read 22 (.read 23 (.read 26 (.read 27 (.read 28 (.read 29 .fin))))))))))))) 13 (.two 5 (.read 6 (.read 9 (.read 10 (.read 14 (.read 15 (.act 21 (.read 22 (.read 23 (.read 26 (.read 27 (.read 28 (.read 29 .fin)))))))))))) 21 (.read 22 (.read 23 (.read 26 (.read 27 (.read 28 (.act 5 (.read 6 (.read 9 (.read 10 (.read 14 (.read 15 (.read 29 .fin))))))))))))))) 13 (.two 0 (.read 4 (.two 5 (.read 6 (.read 9 (.read 10 (.read 14 (.read 15 (.act 21 (.read 22 (.read 23 (.read 26 (.read 27 (.read 28 (.read 29 .fin)))))))))))) 21 (.read 22 (.read 23 (.read 26 (.read 27 (.read 28 (.act 5 (.read 6 (.read 9 (.read 10 (.read 14 (.read 15 (.read 29 .fin)))))))))))))) 21 (.read 22 (.read 23 (.read 26 (.read 27 (.read 28 (.act 0 (.read 4 (.act 5 (.read 6 (.read 9 (.read 10 (.read 14 (.read 15 (.read 29 .fin)))))))))))))))))))))))))))))) (by kernel_rfl) (by kernel_rfl) (fun _ _ d _ _ h => by cases d <;> exact h) (HS2q.out _ hd0) ?_
  refine wpTree_read (k := 1) _ rfl (fun K hK => ?_); unfold rOp; go_simp; (refine hK _ ?_; clear hK K)
  refine wpTree_read (k := 2) _ rfl (fun K hK => ?_); unfold rOp; go_simp; (refine hK _ ?_; clear hK K)
  refine wpTree_read (k := 3) _ rfl (fun K hK => ?_); unfold rOp; go_simp; (refine hK _ ?_; clear hK K)
  refine wpTree_read (k := 7) _ rfl (fun K hK => ?_); unfold rOp; go_simp; (refine hK _ ?_; clear hK K)
  refine wpTree_read (k := 8) _ rfl (fun K hK => ?_); unfold rOp; go_simp; (refine hK _ ?_; clear hK K)
  refine wpTree_read (k := 11) _ rfl (fun K hK => ?_); unfold rOp; go_simp; (refine hK _ ?_; clear hK K)
  refine wpTree_read (k := 12) _ rfl (fun K hK => ?_); unfold rOp; go_simp; (refine hK _ ?_; clear hK K)
  refine wpTree_read (k := 16) _ rfl (fun K hK => ?_); unfold rOp; go_simp; (refine hK _ ?_; clear hK K)
  refine wpTree_read (k := 17) _ rfl (fun K hK => ?_); unfold rOp; go_simp; (refine hK _ ?_; clear hK K)
  refine wpTree_read (k := 18) _ rfl (fun K hK => ?_); unfold rOp; go_simp; (refine hK _ ?_; clear hK K)
  refine wpTree_read (k := 19) _ rfl (fun K hK => ?_); unfold rOp; go_simp; (refine hK _ ?_; clear hK K)
  refine wpTree_read (k := 20) _ rfl (fun K hK => ?_); unfold rOp; go_simp; (refine hK _ ?_; clear hK K)
  refine wpTree_read (k := 24) _ rfl (fun K hK => ?_); unfold rOp; go_simp; (refine hK _ ?_; clear hK K)
  refine wpTree_read (k := 25) _ rfl (fun K hK => ?_); unfold rOp; go_simp; (refine hK _ ?_; clear hK K)
  have hd := hd0
  clear hd0
  generalize W2.drew = V at *
  repeat' first
    | refine wpTree_two ?_ ?_
    | (refine wpTree_read (k := 4) _ rfl (fun K hK => ?_); unfold rOp; go_simp; (refine hK _ ?_; clear hK K))
    | (refine wpTree_read (k := 6) _ rfl (fun K hK => ?_); unfold rOp; go_simp; (refine hK _ ?_; clear hK K))
    | (refine wpTree_read (k := 9) _ rfl (fun K hK => ?_); unfold rOp; go_simp; (refine hK _ ?_; clear hK K))
    | (refine wpTree_read (k := 10) _ rfl (fun K hK => ?_); unfold rOp; go_simp; (refine hK _ ?_; clear hK K))
    | (refine wpTree_read (k := 14) _ rfl (fun K hK => ?_); unfold rOp; go_simp; (refine hK _ ?_; clear hK K))
    | (refine wpTree_read (k := 15) _ rfl (fun K hK => ?_); unfold rOp; go_simp; (refine hK _ ?_; clear hK K))
    | (refine wpTree_read (k := 22) _ rfl (fun K hK => ?_); unfold rOp; go_simp; (refine hK _ ?_; clear hK K))
    | (refine wpTree_read (k := 23) _ rfl (fun K hK => ?_); unfold rOp; go_simp; (refine hK _ ?_; clear hK K))
    | (refine wpTree_read (k := 26) _ rfl (fun K hK => ?_); unfold rOp; go_simp; (refine hK _ ?_; clear hK K))
    | (refine wpTree_read (k := 27) _ rfl (fun K hK => ?_); unfold rOp; go_simp; (refine hK _ ?_; clear hK K))
    | (refine wpTree_read (k := 28) _ rfl (fun K hK => ?_); unfold rOp; go_simp; (refine hK _ ?_; clear hK K))
    | (refine wpTree_read (k := 29) _ rfl (fun K hK => ?_); unfold rOp; go_simp; (refine hK _ ?_; clear hK K))
    | (refine wpTree_act (k := 0) _ rfl ?_
       have hst : Below V.heap.size V (V.alloc (.cells #[.string ⟨#[106, 111, 105, 110]⟩, .string ⟨#[115, 112, 108, 105, 116]⟩, .string ⟨#[115, 104, 105, 102, 116]⟩, .string ⟨#[114, 101, 103, 117, 108, 97, 114, 105, 122, 101]⟩] 9)) := (Below.refl _ _).alloc (Nat.le_refl _) _
       have hL := (box_cells4 (World.alloc_heap_new V (.cells #[.string ⟨#[106, 111, 105, 110]⟩, .string ⟨#[115, 112, 108, 105, 116]⟩, .string ⟨#[115, 104, 105, 102, 116]⟩, .string ⟨#[114, 101, 103, 117, 108, 97, 114, 105, 122, 101]⟩] 9))).2.1
       replace hd := hd.trans (hst.mono hd.size)
       clear hst
       go_wp2_with fail
       generalize V.heap.size = bF at *
       generalize V.alloc (.cells #[.string ⟨#[106, 111, 105, 110]⟩, .string ⟨#[115, 112, 108, 105, 116]⟩, .string ⟨#[115, 104, 105, 102, 116]⟩, .string ⟨#[114, 101, 103, 117, 108, 97, 114, 105, 122, 101]⟩] 9) = V at *
       refine ⟨HS2q.out _ hd, ?_⟩)
    | (refine wpTree_act (k := 5) _ rfl ?_
       go_wp2_with fail
       refine ⟨HS2q.out _ hd, ?_⟩)
    | (refine wpTree_act (k := 13) _ rfl ?_
       have HQ := hiq (HDC.out V)
       go_wp2_with fail
       refine HQ.out.mono ?_
       clear HQ
       rintro e V2 ⟨rfl, hst⟩
       replace hd := hd.trans (hst.mono hd.size)
       try replace hL := clq hst hL
       clear hst
       generalize V2 = V at *
       go_wp2_with fail
       refine ⟨HS2q.out _ hd, ?_⟩)
    | (refine wpTree_act (k := 21) _ rfl ?_
       have HQ := hiq (HS.out V (hb.trans (hd.mono hb.size)))
       go_wp2_with fail
       refine HQ.out.mono ?_
       clear HQ
       rintro e V2 ⟨rfl, hst⟩
       replace hd := hd.trans (hst.mono hd.size)
       try replace hL := clq hst hL
       clear hst
       generalize V2 = V at *
       go_wp2_with fail
       refine ⟨HS2q.out _ hd, ?_⟩)
  all_goals refine wpTree_fin ?_
  all_goals
    clear hL HS2q hX
    replace o0 := clq hd o0; replace o1 := clq hd o1; replace o2 := clq hd o2; replace o3 := clq hd o3; replace o4 := clq hd o4
    replace hb := hb.trans (hd.mono hb.size)
    go_wp2
    exact bodyPost_ret (results_tmp2 rfl _ _ _) rfl ⟨by rw [HSD.out]; first | done | rfl, hb⟩
theorem rdescr_3 (S : Nat -> Prop) (v : CV) (x : Col) (o : Op) (s c : Nat) (w : World) (h : RdC S w v x) (hm : Sml x) (ho : o.ok) (hx : o.text.size <= 1000000) (hg : o.sig.size <= 1000000) (F : Fits x o s c) (hk : o.kind = 3) :
    Calls Tryz.prog 17 #[v.val, o.val] w fun e w' => e = .returned (.tuple #[.string (descr x o), .int .i64 0]) /\ Below w.heap.size w w' := by
  have HF : Hid (∀ W, Below w.heap.size w W -> Calls Tryz.prog 19 #[v.val, o.val] W fun e w' => e = .returned (.int .i64 0) /\ Below W.heap.size W w') := fun W hb => by
    have := rcheck_ref S v x o W (h.below hb) hm
    rw [F.zero] at this; exact this
  have HS : Hid (∀ W, Below w.heap.size w W -> Calls Tryz.prog 43 #[v.val, .string o.sig] W fun e w' => e = .returned (.int .i64 (s : Int)) /\ Below W.heap.size W w') := fun W hb => by
    have := source_ref S v x o.sig W (h.below hb)
    rw [F.src] at this; exact this
  have hs := F.ks
  have ht0 := F.t0
  have ht1 := F.t1
  have hDD := hiq (descr_fits F)
  have hot63 := ho.2.2.1
  generalize descr x o = D at *
  have ho1 : o.other = -1 \/ o.other = 1 := by
    have h1 := F.err
    unfold kindErr at h1
    rw [hk] at h1
    rw [if_neg (by decide), if_neg (by decide), if_pos rfl] at h1
    split at h1
    · cases h1
    · omega
  obtain ⟨sec, sa, sn, sc, ta, tn, tc, ca, cn, cc⟩ := v
  obtain ⟨ok, og, ot, oo, ox⟩ := o
  have hln : x.toks.length = x.sigla.length := F.heads.len
  obtain ⟨-, -, h2, h3, h4⟩ := h
  dsimp only at h2 h3 h4 ht0 ht1 hx hg hk hDD hot63 ho1
  subst hk
  change Calls _ _ #[.agg #[.string sec, .slice sa sn sc, .slice ta tn tc, .slice ca cn cc], .agg #[.int .i64 3, .string og, .int .i64 ot, .int .i64 oo, .string ox]] _ _
  change Hid (∀ W, _ -> Calls _ _ #[.agg #[.string sec, .slice sa sn sc, .slice ta tn tc, .slice ca cn cc], .agg #[.int .i64 3, .string og, .int .i64 ot, .int .i64 oo, .string ox]] _ _) at HF
  change Hid (∀ W, _ -> Calls _ _ #[.agg #[.string sec, .slice sa sn sc, .slice ta tn tc, .slice ca cn cc], .string og] _ _) at HS
  obtain ⟨hb, hC, hO⟩ := box2 w #[.string sec, .slice sa sn sc, .slice ta tn tc, .slice ca cn cc] #[.int .i64 3, .string og, .int .i64 ot, .int .i64 oo, .string ox] 26 28
  have c0 := hC 0 _ rfl
  have c1 := hC 1 _ rfl
  have c2 := hC 2 _ rfl
  have c3 := hC 3 _ rfl
  have o0 := hO 0 _ rfl
  have o1 := hO 1 _ rfl
  have o2 := hO 2 _ rfl
  have o3 := hO 3 _ rfl
  have o4 := hO 4 _ rfl
  obtain ⟨tk, rfl⟩ : ∃ tk : Nat, ot = (tk : Int) := ⟨ot.toNat, by omega⟩
  obtain ⟨r, bo, off, a1, n1, c1', hu, hmem, rfl, -, hbl, hr, d1⟩ := h3.row (j := s) (by rw [h3.len, hln]; exact hs)
  have htr : x.tks s = r := by unfold Col.tks; rw [hu]; rfl
  rw [htr] at ht1
  obtain ⟨t, b2, off2, hu2, hmem2, rfl, -, hbl2, -, ⟨e0, e1, e2, e3, e4, e5⟩⟩ := hr.tok (j := tk) (by rw [hr.len]; omega)
  have htk : x.tk s (tk : Int) = t := by unfold Col.tk; rw [htr, Int.toNat_natCast, hu2]; rfl
  have htx : t.text.size <= 1000000 := (hm.tok r (List.mem_of_getElem? hu) t hmem2).1
  rw [htk] at hDD
  have hsn : s < tn := by rw [h3.len, hln]; exact hs
  have htn : tk < n1 := by rw [hr.len]; omega
  have htb := h3.bound
  have hrb := hr.bound
  obtain ⟨tx, nm, pg, ln, fl, na⟩ := t
  dsimp only at e0 hDD htx
  have HDC : Hid (∀ W : World, Calls Tryz.prog 49 #[.int .i64 (tk : Int)] W fun e w' => e = .returned (.string ⟨(Lib.decDigits tk).toArray⟩) /\ Below W.heap.size W w') := decimal_ref tk (by have := hot63.2; omega)
  have hwk : IntKind.i64.wrap (2 : Int) = 2 := by decide
  have hdl : (Lib.decDigits tk).length <= 20 := by rw [Lib.decDigits_length]; exact Lib.nDigits_le20 tk (by have := hot63.2; omega)
  rcases ho1 with rfl | rfl
  · have HSD := hiq (hDD.out.trans (said_3a og tx ox tk))
    unfold saidB at HSD
    change Hid (_ = (⟨#[115, 104, 105, 102, 116]⟩ : ByteArray) ++ _ ++ _ ++ _ ++ _ ++ _ ++ _ ++ _) at HSD
    clear hDD
    replace d1 := clq hb d1; replace e0 := clq hb e0
    clear hC hO h2 h3 h4 hu hmem hu2 hmem2 htr htk hr ht1 hs e1 e2 e3 e4 e5 F hln hm ho hot63
    generalize Lib.decDigits tk = DG at *
    have z1 : ¬ 9223372036854775807 < 6 + og.size := by omega
    have z2 : ¬ 9223372036854775807 < 6 + og.size + 1 := by omega
    have z3 : ¬ 9223372036854775807 < 6 + og.size + 1 + DG.length := by omega
    have z4 : ¬ 9223372036854775807 < 6 + og.size + 1 + DG.length + 1 := by omega
    have z5 : ¬ 9223372036854775807 < 6 + og.size + 1 + DG.length + 1 + tx.size := by omega
    go_enter Tryz.func17, Tryz.ntmps17
    have HFF := hiq (HF.out _ hb)
    clear HF
    go_wp2_with fail
    generalize (w.alloc (.cells #[.string sec, .slice sa sn sc, .slice (some ⟨bo, off, none⟩) tn tc, .slice ca cn cc] 26)).alloc (.cells #[.int .i64 3, .string og, .int .i64 (tk : Int), .int .i64 (-1), .string ox] 28) = W1 at *
    refine HFF.out.mono ?_
    rintro e W2 ⟨rfl, hb2⟩
    replace c0 := clq hb2 c0; replace c1 := clq hb2 c1; replace c2 := clq hb2 c2; replace c3 := clq hb2 c3; replace o0 := clq hb2 o0; replace o1 := clq hb2 o1; replace o2 := clq hb2 o2; replace o3 := clq hb2 o3; replace o4 := clq hb2 o4; replace d1 := clq hb2 d1; replace e0 := clq hb2 e0
    replace hb := hb.trans (hb2.mono hb.size)
    clear HFF hb2
    go_wp2_with fail
    obtain ⟨X, Wf, hX, hS1, hS2⟩ := family (fun V => Below W2.heap.size W2 V) W2 (Below.refl _ _)
    have HS2q := hiq hS2
    have q_c0 := fun x => clq (hS1 x) c0
    have q_c1 := fun x => clq (hS1 x) c1
    have q_c2 := fun x => clq (hS1 x) c2
    have q_c3 := fun x => clq (hS1 x) c3
    have q_o0 := fun x => clq (hS1 x) o0
    have q_o1 := fun x => clq (hS1 x) o1
    have q_o2 := fun x => clq (hS1 x) o2
    have q_o3 := fun x => clq (hS1 x) o3
    have q_o4 := fun x => clq (hS1 x) o4
    have q_d1 := fun x => clq (hS1 x) d1
    have q_e0 := fun x => clq (hS1 x) e0
    clear hS1 hS2
    have hd0 : Below W2.heap.size W2 W2.drew := (Below.refl _ _).drew
    refine wp_region_tree (Wf := Wf) 30 (.read 1 (.read 2 (.read 3 (.read 7 (.read 8 (.read 11 (.read 12 (.read 16 (.read 17 (.read 18 (.read 19 (.read 20 (.read 24 (.read 25 (.two 0 (.read 4 (.two 5 (.read 6 (.read 9 (.read 10 (.act 13 (.read 14 (.read 15 (.act 21 (.read 22 (.read 23 (.read 26 (.read 27 (.read 28 (.read 29 .fin))))))))))))) 13 (.two 5 (.read 6 (.read 9 (.read 10 (.read 14 (.read 15 (.act 21 (.read 22 (.read 23 (.read 26 (.read 27 (.read 28 (.read 29 .fin)))))))))))) 21 (.read 22 (.read 23 (.read 26 (.read 27 (.read 28 (.act 5 (.read 6 (.read 9 (.read 10 (.read 14 (.read 15 (.read 29 .fin))))))))))))))) 13 (.two 0 (.read 4 (.two 5 (.read 6 (.read 9 (.read 10 (.read 14 (.read 15 (.act 21 (.read 22 (.read 23 (.read 26 (.read 27 (.read 28 (.read 29 .fin)))))))))))) 21 (.read 22 (.read 23 (.read 26 (.read 27 (.read 28 (.act 5 (.read 6 (.read 9 (.read 10 (.read 14 (.read 15 (.read 29 .fin)))))))))))))) 21 (.read 22 (.read 23 (.read 26 (.read 27 (.read 28 (.act 0 (.read 4 (.act 5 (.read 6 (.read 9 (.read 10 (.read 14 (.read 15 (.read 29 .fin)))))))))))))))))))))))))))))) (by kernel_rfl) (by kernel_rfl) (fun _ _ d _ _ h => by cases d <;> exact h) (HS2q.out _ hd0) ?_
    refine wpTree_read (k := 1) _ rfl (fun K hK => ?_); unfold rOp; go_simp; (refine hK _ ?_; clear hK K)
    refine wpTree_read (k := 2) _ rfl (fun K hK => ?_); unfold rOp; go_simp; (refine hK _ ?_; clear hK K)
    refine wpTree_read (k := 3) _ rfl (fun K hK => ?_); unfold rOp; go_simp; (refine hK _ ?_; clear hK K)
    refine wpTree_read (k := 7) _ rfl (fun K hK => ?_); unfold rOp; go_simp; (refine hK _ ?_; clear hK K)
    refine wpTree_read (k := 8) _ rfl (fun K hK => ?_); unfold rOp; go_simp; (refine hK _ ?_; clear hK K)
    refine wpTree_read (k := 11) _ rfl (fun K hK => ?_); unfold rOp; go_simp; (refine hK _ ?_; clear hK K)
    refine wpTree_read (k := 12) _ rfl (fun K hK => ?_); unfold rOp; go_simp; (refine hK _ ?_; clear hK K)
    refine wpTree_read (k := 16) _ rfl (fun K hK => ?_); unfold rOp; go_simp; (refine hK _ ?_; clear hK K)
    refine wpTree_read (k := 17) _ rfl (fun K hK => ?_); unfold rOp; go_simp; (refine hK _ ?_; clear hK K)
    refine wpTree_read (k := 18) _ rfl (fun K hK => ?_); unfold rOp; go_simp; (refine hK _ ?_; clear hK K)
    refine wpTree_read (k := 19) _ rfl (fun K hK => ?_); unfold rOp; go_simp; (refine hK _ ?_; clear hK K)
    refine wpTree_read (k := 20) _ rfl (fun K hK => ?_); unfold rOp; go_simp; (refine hK _ ?_; clear hK K)
    refine wpTree_read (k := 24) _ rfl (fun K hK => ?_); unfold rOp; go_simp; (refine hK _ ?_; clear hK K)
    refine wpTree_read (k := 25) _ rfl (fun K hK => ?_); unfold rOp; go_simp; (refine hK _ ?_; clear hK K)
    have hd := hd0
    clear hd0
    generalize W2.drew = V at *
    repeat' first
      | refine wpTree_two ?_ ?_
      | (refine wpTree_read (k := 4) _ rfl (fun K hK => ?_); unfold rOp; go_simp; (refine hK _ ?_; clear hK K))
      | (refine wpTree_read (k := 6) _ rfl (fun K hK => ?_); unfold rOp; go_simp; (refine hK _ ?_; clear hK K))
      | (refine wpTree_read (k := 9) _ rfl (fun K hK => ?_); unfold rOp; go_simp; (refine hK _ ?_; clear hK K))
      | (refine wpTree_read (k := 10) _ rfl (fun K hK => ?_); unfold rOp; go_simp; (refine hK _ ?_; clear hK K))
      | (refine wpTree_read (k := 14) _ rfl (fun K hK => ?_); unfold rOp; go_simp; (refine hK _ ?_; clear hK K))
      | (refine wpTree_read (k := 15) _ rfl (fun K hK => ?_); unfold rOp; go_simp; (refine hK _ ?_; clear hK K))
      | (refine wpTree_read (k := 22) _ rfl (fun K hK => ?_); unfold rOp; go_simp; (refine hK _ ?_; clear hK K))
      | (refine wpTree_read (k := 23) _ rfl (fun K hK => ?_); unfold rOp; go_simp; (refine hK _ ?_; clear hK K))
      | (refine wpTree_read (k := 26) _ rfl (fun K hK => ?_); unfold rOp; go_simp; (refine hK _ ?_; clear hK K))
      | (refine wpTree_read (k := 27) _ rfl (fun K hK => ?_); unfold rOp; go_simp; (refine hK _ ?_; clear hK K))
      | (refine wpTree_read (k := 28) _ rfl (fun K hK => ?_); unfold rOp; go_simp; (refine hK _ ?_; clear hK K))
      | (refine wpTree_read (k := 29) _ rfl (fun K hK => ?_); unfold rOp; go_simp; (refine hK _ ?_; clear hK K))
      | (refine wpTree_act (k := 0) _ rfl ?_
         have hst : Below V.heap.size V (V.alloc (.cells #[.string ⟨#[106, 111, 105, 110]⟩, .string ⟨#[115, 112, 108, 105, 116]⟩, .string ⟨#[115, 104, 105, 102, 116]⟩, .string ⟨#[114, 101, 103, 117, 108, 97, 114, 105, 122, 101]⟩] 9)) := (Below.refl _ _).alloc (Nat.le_refl _) _
         have hL := (box_cells4 (World.alloc_heap_new V (.cells #[.string ⟨#[106, 111, 105, 110]⟩, .string ⟨#[115, 112, 108, 105, 116]⟩, .string ⟨#[115, 104, 105, 102, 116]⟩, .string ⟨#[114, 101, 103, 117, 108, 97, 114, 105, 122, 101]⟩] 9))).2.2.1
         replace hd := hd.trans (hst.mono hd.size)
         clear hst
         go_wp2_with fail
         generalize V.heap.size = bF at *
         generalize V.alloc (.cells #[.string ⟨#[106, 111, 105, 110]⟩, .string ⟨#[115, 112, 108, 105, 116]⟩, .string ⟨#[115, 104, 105, 102, 116]⟩, .string ⟨#[114, 101, 103, 117, 108, 97, 114, 105, 122, 101]⟩] 9) = V at *
         refine ⟨HS2q.out _ hd, ?_⟩)
      | (refine wpTree_act (k := 5) _ rfl ?_
         go_wp2_with fail
         refine ⟨HS2q.out _ hd, ?_⟩)
      | (refine wpTree_act (k := 13) _ rfl ?_
         have HQ := hiq (HDC.out V)
         go_wp2_with fail
         refine HQ.out.mono ?_
         clear HQ
         rintro e V2 ⟨rfl, hst⟩
         replace hd := hd.trans (hst.mono hd.size)
         try replace hL := clq hst hL
         clear hst
         generalize V2 = V at *
         go_wp2_with fail
         refine ⟨HS2q.out _ hd, ?_⟩)
      | (refine wpTree_act (k := 21) _ rfl ?_
         have HQ := hiq (HS.out V (hb.trans (hd.mono hb.size)))
         go_wp2_with fail
         refine HQ.out.mono ?_
         clear HQ
         rintro e V2 ⟨rfl, hst⟩
         replace hd := hd.trans (hst.mono hd.size)
         try replace hL := clq hst hL
         clear hst
         generalize V2 = V at *
         go_wp2_with fail
         refine ⟨HS2q.out _ hd, ?_⟩)
    all_goals refine wpTree_fin ?_
    all_goals
      clear hL HS2q hX
      replace o0 := clq hd o0; replace o1 := clq hd o1; replace o2 := clq hd o2; replace o3 := clq hd o3; replace o4 := clq hd o4
      replace hb := hb.trans (hd.mono hb.size)
      go_wp2
      exact bodyPost_ret (results_tmp2 rfl _ _ _) rfl ⟨by rw [HSD.out]; first | done | rfl, hb⟩
  · have HSD := hiq (hDD.out.trans (said_3b og tx ox tk))
    unfold saidB at HSD
    change Hid (_ = (⟨#[115, 104, 105, 102, 116]⟩ : ByteArray) ++ _ ++ _ ++ _ ++ _ ++ _ ++ _ ++ _) at HSD
    clear hDD
    replace d1 := clq hb d1; replace e0 := clq hb e0
    clear hC hO h2 h3 h4 hu hmem hu2 hmem2 htr htk hr ht1 hs e1 e2 e3 e4 e5 F hln hm ho hot63
    generalize Lib.decDigits tk = DG at *
    have z1 : ¬ 9223372036854775807 < 6 + og.size := by omega
    have z2 : ¬ 9223372036854775807 < 6 + og.size + 1 := by omega
    have z3 : ¬ 9223372036854775807 < 6 + og.size + 1 + DG.length := by omega
    have z4 : ¬ 9223372036854775807 < 6 + og.size + 1 + DG.length + 1 := by omega
    have z5 : ¬ 9223372036854775807 < 6 + og.size + 1 + DG.length + 1 + tx.size := by omega
    go_enter Tryz.func17, Tryz.ntmps17
    have HFF := hiq (HF.out _ hb)
    clear HF
    go_wp2_with fail
    generalize (w.alloc (.cells #[.string sec, .slice sa sn sc, .slice (some ⟨bo, off, none⟩) tn tc, .slice ca cn cc] 26)).alloc (.cells #[.int .i64 3, .string og, .int .i64 (tk : Int), .int .i64 1, .string ox] 28) = W1 at *
    refine HFF.out.mono ?_
    rintro e W2 ⟨rfl, hb2⟩
    replace c0 := clq hb2 c0; replace c1 := clq hb2 c1; replace c2 := clq hb2 c2; replace c3 := clq hb2 c3; replace o0 := clq hb2 o0; replace o1 := clq hb2 o1; replace o2 := clq hb2 o2; replace o3 := clq hb2 o3; replace o4 := clq hb2 o4; replace d1 := clq hb2 d1; replace e0 := clq hb2 e0
    replace hb := hb.trans (hb2.mono hb.size)
    clear HFF hb2
    go_wp2_with fail
    obtain ⟨X, Wf, hX, hS1, hS2⟩ := family (fun V => Below W2.heap.size W2 V) W2 (Below.refl _ _)
    have HS2q := hiq hS2
    have q_c0 := fun x => clq (hS1 x) c0
    have q_c1 := fun x => clq (hS1 x) c1
    have q_c2 := fun x => clq (hS1 x) c2
    have q_c3 := fun x => clq (hS1 x) c3
    have q_o0 := fun x => clq (hS1 x) o0
    have q_o1 := fun x => clq (hS1 x) o1
    have q_o2 := fun x => clq (hS1 x) o2
    have q_o3 := fun x => clq (hS1 x) o3
    have q_o4 := fun x => clq (hS1 x) o4
    have q_d1 := fun x => clq (hS1 x) d1
    have q_e0 := fun x => clq (hS1 x) e0
    clear hS1 hS2
    have hd0 : Below W2.heap.size W2 W2.drew := (Below.refl _ _).drew
    refine wp_region_tree (Wf := Wf) 30 (.read 1 (.read 2 (.read 3 (.read 7 (.read 8 (.read 11 (.read 12 (.read 16 (.read 17 (.read 18 (.read 19 (.read 20 (.read 24 (.read 25 (.two 0 (.read 4 (.two 5 (.read 6 (.read 9 (.read 10 (.act 13 (.read 14 (.read 15 (.act 21 (.read 22 (.read 23 (.read 26 (.read 27 (.read 28 (.read 29 .fin))))))))))))) 13 (.two 5 (.read 6 (.read 9 (.read 10 (.read 14 (.read 15 (.act 21 (.read 22 (.read 23 (.read 26 (.read 27 (.read 28 (.read 29 .fin)))))))))))) 21 (.read 22 (.read 23 (.read 26 (.read 27 (.read 28 (.act 5 (.read 6 (.read 9 (.read 10 (.read 14 (.read 15 (.read 29 .fin))))))))))))))) 13 (.two 0 (.read 4 (.two 5 (.read 6 (.read 9 (.read 10 (.read 14 (.read 15 (.act 21 (.read 22 (.read 23 (.read 26 (.read 27 (.read 28 (.read 29 .fin)))))))))))) 21 (.read 22 (.read 23 (.read 26 (.read 27 (.read 28 (.act 5 (.read 6 (.read 9 (.read 10 (.read 14 (.read 15 (.read 29 .fin)))))))))))))) 21 (.read 22 (.read 23 (.read 26 (.read 27 (.read 28 (.act 0 (.read 4 (.act 5 (.read 6 (.read 9 (.read 10 (.read 14 (.read 15 (.read 29 .fin)))))))))))))))))))))))))))))) (by kernel_rfl) (by kernel_rfl) (fun _ _ d _ _ h => by cases d <;> exact h) (HS2q.out _ hd0) ?_
    refine wpTree_read (k := 1) _ rfl (fun K hK => ?_); unfold rOp; go_simp; (refine hK _ ?_; clear hK K)
    refine wpTree_read (k := 2) _ rfl (fun K hK => ?_); unfold rOp; go_simp; (refine hK _ ?_; clear hK K)
    refine wpTree_read (k := 3) _ rfl (fun K hK => ?_); unfold rOp; go_simp; (refine hK _ ?_; clear hK K)
    refine wpTree_read (k := 7) _ rfl (fun K hK => ?_); unfold rOp; go_simp; (refine hK _ ?_; clear hK K)
    refine wpTree_read (k := 8) _ rfl (fun K hK => ?_); unfold rOp; go_simp; (refine hK _ ?_; clear hK K)
    refine wpTree_read (k := 11) _ rfl (fun K hK => ?_); unfold rOp; go_simp; (refine hK _ ?_; clear hK K)
    refine wpTree_read (k := 12) _ rfl (fun K hK => ?_); unfold rOp; go_simp; (refine hK _ ?_; clear hK K)
    refine wpTree_read (k := 16) _ rfl (fun K hK => ?_); unfold rOp; go_simp; (refine hK _ ?_; clear hK K)
    refine wpTree_read (k := 17) _ rfl (fun K hK => ?_); unfold rOp; go_simp; (refine hK _ ?_; clear hK K)
    refine wpTree_read (k := 18) _ rfl (fun K hK => ?_); unfold rOp; go_simp; (refine hK _ ?_; clear hK K)
    refine wpTree_read (k := 19) _ rfl (fun K hK => ?_); unfold rOp; go_simp; (refine hK _ ?_; clear hK K)
    refine wpTree_read (k := 20) _ rfl (fun K hK => ?_); unfold rOp; go_simp; (refine hK _ ?_; clear hK K)
    refine wpTree_read (k := 24) _ rfl (fun K hK => ?_); unfold rOp; go_simp; (refine hK _ ?_; clear hK K)
    refine wpTree_read (k := 25) _ rfl (fun K hK => ?_); unfold rOp; go_simp; (refine hK _ ?_; clear hK K)
    have hd := hd0
    clear hd0
    generalize W2.drew = V at *
    repeat' first
      | refine wpTree_two ?_ ?_
      | (refine wpTree_read (k := 4) _ rfl (fun K hK => ?_); unfold rOp; go_simp; (refine hK _ ?_; clear hK K))
      | (refine wpTree_read (k := 6) _ rfl (fun K hK => ?_); unfold rOp; go_simp; (refine hK _ ?_; clear hK K))
      | (refine wpTree_read (k := 9) _ rfl (fun K hK => ?_); unfold rOp; go_simp; (refine hK _ ?_; clear hK K))
      | (refine wpTree_read (k := 10) _ rfl (fun K hK => ?_); unfold rOp; go_simp; (refine hK _ ?_; clear hK K))
      | (refine wpTree_read (k := 14) _ rfl (fun K hK => ?_); unfold rOp; go_simp; (refine hK _ ?_; clear hK K))
      | (refine wpTree_read (k := 15) _ rfl (fun K hK => ?_); unfold rOp; go_simp; (refine hK _ ?_; clear hK K))
      | (refine wpTree_read (k := 22) _ rfl (fun K hK => ?_); unfold rOp; go_simp; (refine hK _ ?_; clear hK K))
      | (refine wpTree_read (k := 23) _ rfl (fun K hK => ?_); unfold rOp; go_simp; (refine hK _ ?_; clear hK K))
      | (refine wpTree_read (k := 26) _ rfl (fun K hK => ?_); unfold rOp; go_simp; (refine hK _ ?_; clear hK K))
      | (refine wpTree_read (k := 27) _ rfl (fun K hK => ?_); unfold rOp; go_simp; (refine hK _ ?_; clear hK K))
      | (refine wpTree_read (k := 28) _ rfl (fun K hK => ?_); unfold rOp; go_simp; (refine hK _ ?_; clear hK K))
      | (refine wpTree_read (k := 29) _ rfl (fun K hK => ?_); unfold rOp; go_simp; (refine hK _ ?_; clear hK K))
      | (refine wpTree_act (k := 0) _ rfl ?_
         have hst : Below V.heap.size V (V.alloc (.cells #[.string ⟨#[106, 111, 105, 110]⟩, .string ⟨#[115, 112, 108, 105, 116]⟩, .string ⟨#[115, 104, 105, 102, 116]⟩, .string ⟨#[114, 101, 103, 117, 108, 97, 114, 105, 122, 101]⟩] 9)) := (Below.refl _ _).alloc (Nat.le_refl _) _
         have hL := (box_cells4 (World.alloc_heap_new V (.cells #[.string ⟨#[106, 111, 105, 110]⟩, .string ⟨#[115, 112, 108, 105, 116]⟩, .string ⟨#[115, 104, 105, 102, 116]⟩, .string ⟨#[114, 101, 103, 117, 108, 97, 114, 105, 122, 101]⟩] 9))).2.2.1
         replace hd := hd.trans (hst.mono hd.size)
         clear hst
         go_wp2_with fail
         generalize V.heap.size = bF at *
         generalize V.alloc (.cells #[.string ⟨#[106, 111, 105, 110]⟩, .string ⟨#[115, 112, 108, 105, 116]⟩, .string ⟨#[115, 104, 105, 102, 116]⟩, .string ⟨#[114, 101, 103, 117, 108, 97, 114, 105, 122, 101]⟩] 9) = V at *
         refine ⟨HS2q.out _ hd, ?_⟩)
      | (refine wpTree_act (k := 5) _ rfl ?_
         go_wp2_with fail
         refine ⟨HS2q.out _ hd, ?_⟩)
      | (refine wpTree_act (k := 13) _ rfl ?_
         have HQ := hiq (HDC.out V)
         go_wp2_with fail
         refine HQ.out.mono ?_
         clear HQ
         rintro e V2 ⟨rfl, hst⟩
         replace hd := hd.trans (hst.mono hd.size)
         try replace hL := clq hst hL
         clear hst
         generalize V2 = V at *
         go_wp2_with fail
         refine ⟨HS2q.out _ hd, ?_⟩)
      | (refine wpTree_act (k := 21) _ rfl ?_
         have HQ := hiq (HS.out V (hb.trans (hd.mono hb.size)))
         go_wp2_with fail
         refine HQ.out.mono ?_
         clear HQ
         rintro e V2 ⟨rfl, hst⟩
         replace hd := hd.trans (hst.mono hd.size)
         try replace hL := clq hst hL
         clear hst
         generalize V2 = V at *
         go_wp2_with fail
         refine ⟨HS2q.out _ hd, ?_⟩)
    all_goals refine wpTree_fin ?_
    all_goals
      clear hL HS2q hX
      replace o0 := clq hd o0; replace o1 := clq hd o1; replace o2 := clq hd o2; replace o3 := clq hd o3; replace o4 := clq hd o4
      replace hb := hb.trans (hd.mono hb.size)
      go_wp2
      exact bodyPost_ret (results_tmp2 rfl _ _ _) rfl ⟨by rw [HSD.out]; first | done | rfl, hb⟩
theorem rdescr_4 (S : Nat -> Prop) (v : CV) (x : Col) (o : Op) (s c : Nat) (w : World) (h : RdC S w v x) (hm : Sml x) (ho : o.ok) (hx : o.text.size <= 1000000) (hg : o.sig.size <= 1000000) (F : Fits x o s c) (hk : o.kind = 4) :
    Calls Tryz.prog 17 #[v.val, o.val] w fun e w' => e = .returned (.tuple #[.string (descr x o), .int .i64 0]) /\ Below w.heap.size w w' := by
  have HF : Hid (∀ W, Below w.heap.size w W -> Calls Tryz.prog 19 #[v.val, o.val] W fun e w' => e = .returned (.int .i64 0) /\ Below W.heap.size W w') := fun W hb => by
    have := rcheck_ref S v x o W (h.below hb) hm
    rw [F.zero] at this; exact this
  have HS : Hid (∀ W, Below w.heap.size w W -> Calls Tryz.prog 43 #[v.val, .string o.sig] W fun e w' => e = .returned (.int .i64 (s : Int)) /\ Below W.heap.size W w') := fun W hb => by
    have := source_ref S v x o.sig W (h.below hb)
    rw [F.src] at this; exact this
  have hs := F.ks
  have ht0 := F.t0
  have ht1 := F.t1
  have hDD := hiq (descr_fits F)
  have hot63 := ho.2.2.1
  generalize descr x o = D at *
  obtain ⟨sec, sa, sn, sc, ta, tn, tc, ca, cn, cc⟩ := v
  obtain ⟨ok, og, ot, oo, ox⟩ := o
  have hln : x.toks.length = x.sigla.length := F.heads.len
  obtain ⟨-, -, h2, h3, h4⟩ := h
  dsimp only at h2 h3 h4 ht0 ht1 hx hg hk hDD hot63 
  subst hk
  change Calls _ _ #[.agg #[.string sec, .slice sa sn sc, .slice ta tn tc, .slice ca cn cc], .agg #[.int .i64 4, .string og, .int .i64 ot, .int .i64 oo, .string ox]] _ _
  change Hid (∀ W, _ -> Calls _ _ #[.agg #[.string sec, .slice sa sn sc, .slice ta tn tc, .slice ca cn cc], .agg #[.int .i64 4, .string og, .int .i64 ot, .int .i64 oo, .string ox]] _ _) at HF
  change Hid (∀ W, _ -> Calls _ _ #[.agg #[.string sec, .slice sa sn sc, .slice ta tn tc, .slice ca cn cc], .string og] _ _) at HS
  obtain ⟨hb, hC, hO⟩ := box2 w #[.string sec, .slice sa sn sc, .slice ta tn tc, .slice ca cn cc] #[.int .i64 4, .string og, .int .i64 ot, .int .i64 oo, .string ox] 26 28
  have c0 := hC 0 _ rfl
  have c1 := hC 1 _ rfl
  have c2 := hC 2 _ rfl
  have c3 := hC 3 _ rfl
  have o0 := hO 0 _ rfl
  have o1 := hO 1 _ rfl
  have o2 := hO 2 _ rfl
  have o3 := hO 3 _ rfl
  have o4 := hO 4 _ rfl
  obtain ⟨tk, rfl⟩ : ∃ tk : Nat, ot = (tk : Int) := ⟨ot.toNat, by omega⟩
  obtain ⟨r, bo, off, a1, n1, c1', hu, hmem, rfl, -, hbl, hr, d1⟩ := h3.row (j := s) (by rw [h3.len, hln]; exact hs)
  have htr : x.tks s = r := by unfold Col.tks; rw [hu]; rfl
  rw [htr] at ht1
  obtain ⟨t, b2, off2, hu2, hmem2, rfl, -, hbl2, -, ⟨e0, e1, e2, e3, e4, e5⟩⟩ := hr.tok (j := tk) (by rw [hr.len]; omega)
  have htk : x.tk s (tk : Int) = t := by unfold Col.tk; rw [htr, Int.toNat_natCast, hu2]; rfl
  have htx : t.text.size <= 1000000 := (hm.tok r (List.mem_of_getElem? hu) t hmem2).1
  rw [htk] at hDD
  have hsn : s < tn := by rw [h3.len, hln]; exact hs
  have htn : tk < n1 := by rw [hr.len]; omega
  have htb := h3.bound
  have hrb := hr.bound
  obtain ⟨tx, nm, pg, ln, fl, na⟩ := t
  dsimp only at e0 hDD htx
  have HDC : Hid (∀ W : World, Calls Tryz.prog 49 #[.int .i64 (tk : Int)] W fun e w' => e = .returned (.string ⟨(Lib.decDigits tk).toArray⟩) /\ Below W.heap.size W w') := decimal_ref tk (by have := hot63.2; omega)
  have hwk : IntKind.i64.wrap (3 : Int) = 3 := by decide
  have hdl : (Lib.decDigits tk).length <= 20 := by rw [Lib.decDigits_length]; exact Lib.nDigits_le20 tk (by have := hot63.2; omega)
  have HSD := hiq (hDD.out.trans (said_4 og tx ox tk oo))
  unfold saidB at HSD
  change Hid (_ = (⟨#[114, 101, 103, 117, 108, 97, 114, 105, 122, 101]⟩ : ByteArray) ++ _ ++ _ ++ _ ++ _ ++ _ ++ _ ++ _ ++ _) at HSD
  clear hDD
  replace d1 := clq hb d1; replace e0 := clq hb e0
  clear hC hO h2 h3 h4 hu hmem hu2 hmem2 htr htk hr ht1 hs e1 e2 e3 e4 e5 F hln hm ho hot63
  generalize Lib.decDigits tk = DG at *
  have z1 : ¬ 9223372036854775807 < 11 + og.size := by omega
  have z2 : ¬ 9223372036854775807 < 11 + og.size + 1 := by omega
  have z3 : ¬ 9223372036854775807 < 11 + og.size + 1 + DG.length := by omega
  have z4 : ¬ 9223372036854775807 < 11 + og.size + 1 + DG.length + 1 := by omega
  have z5 : ¬ 9223372036854775807 < 11 + og.size + 1 + DG.length + 1 + tx.size := by omega
  go_enter Tryz.func17, Tryz.ntmps17
  have HFF := hiq (HF.out _ hb)
  clear HF
  go_wp2_with fail
  generalize (w.alloc (.cells #[.string sec, .slice sa sn sc, .slice (some ⟨bo, off, none⟩) tn tc, .slice ca cn cc] 26)).alloc (.cells #[.int .i64 4, .string og, .int .i64 (tk : Int), .int .i64 oo, .string ox] 28) = W1 at *
  refine HFF.out.mono ?_
  rintro e W2 ⟨rfl, hb2⟩
  replace c0 := clq hb2 c0; replace c1 := clq hb2 c1; replace c2 := clq hb2 c2; replace c3 := clq hb2 c3; replace o0 := clq hb2 o0; replace o1 := clq hb2 o1; replace o2 := clq hb2 o2; replace o3 := clq hb2 o3; replace o4 := clq hb2 o4; replace d1 := clq hb2 d1; replace e0 := clq hb2 e0
  replace hb := hb.trans (hb2.mono hb.size)
  clear HFF hb2
  go_wp2_with fail
  obtain ⟨X, Wf, hX, hS1, hS2⟩ := family (fun V => Below W2.heap.size W2 V) W2 (Below.refl _ _)
  have HS2q := hiq hS2
  have q_c0 := fun x => clq (hS1 x) c0
  have q_c1 := fun x => clq (hS1 x) c1
  have q_c2 := fun x => clq (hS1 x) c2
  have q_c3 := fun x => clq (hS1 x) c3
  have q_o0 := fun x => clq (hS1 x) o0
  have q_o1 := fun x => clq (hS1 x) o1
  have q_o2 := fun x => clq (hS1 x) o2
  have q_o3 := fun x => clq (hS1 x) o3
  have q_o4 := fun x => clq (hS1 x) o4
  have q_d1 := fun x => clq (hS1 x) d1
  have q_e0 := fun x => clq (hS1 x) e0
  clear hS1 hS2
  have hd0 : Below W2.heap.size W2 W2.drew := (Below.refl _ _).drew
  refine wp_region_tree (Wf := Wf) 30 (.read 1 (.read 2 (.read 3 (.read 7 (.read 8 (.read 11 (.read 12 (.read 16 (.read 17 (.read 18 (.read 19 (.read 20 (.read 24 (.read 25 (.two 0 (.read 4 (.two 5 (.read 6 (.read 9 (.read 10 (.act 13 (.read 14 (.read 15 (.act 21 (.read 22 (.read 23 (.read 26 (.read 27 (.read 28 (.read 29 .fin))))))))))))) 13 (.two 5 (.read 6 (.read 9 (.read 10 (.read 14 (.read 15 (.act 21 (.read 22 (.read 23 (.read 26 (.read 27 (.read 28 (.read 29 .fin)))))))))))) 21 (.read 22 (.read 23 (.read 26 (.read 27 (.read 28 (.act 5 (.read 6 (.read 9 (.read 10 (.read 14 (.read 15 (.read 29 .fin))))))))))))))) 13 (.two 0 (.read 4 (.two 5 (.read 6 (.read 9 (.read 10 (.read 14 (.read 15 (.act 21 (.read 22 (.read 23 (.read 26 (.read 27 (.read 28 (.read 29 .fin)))))))))))) 21 (.read 22 (.read 23 (.read 26 (.read 27 (.read 28 (.act 5 (.read 6 (.read 9 (.read 10 (.read 14 (.read 15 (.read 29 .fin)))))))))))))) 21 (.read 22 (.read 23 (.read 26 (.read 27 (.read 28 (.act 0 (.read 4 (.act 5 (.read 6 (.read 9 (.read 10 (.read 14 (.read 15 (.read 29 .fin)))))))))))))))))))))))))))))) (by kernel_rfl) (by kernel_rfl) (fun _ _ d _ _ h => by cases d <;> exact h) (HS2q.out _ hd0) ?_
  refine wpTree_read (k := 1) _ rfl (fun K hK => ?_); unfold rOp; go_simp; (refine hK _ ?_; clear hK K)
  refine wpTree_read (k := 2) _ rfl (fun K hK => ?_); unfold rOp; go_simp; (refine hK _ ?_; clear hK K)
  refine wpTree_read (k := 3) _ rfl (fun K hK => ?_); unfold rOp; go_simp; (refine hK _ ?_; clear hK K)
  refine wpTree_read (k := 7) _ rfl (fun K hK => ?_); unfold rOp; go_simp; (refine hK _ ?_; clear hK K)
  refine wpTree_read (k := 8) _ rfl (fun K hK => ?_); unfold rOp; go_simp; (refine hK _ ?_; clear hK K)
  refine wpTree_read (k := 11) _ rfl (fun K hK => ?_); unfold rOp; go_simp; (refine hK _ ?_; clear hK K)
  refine wpTree_read (k := 12) _ rfl (fun K hK => ?_); unfold rOp; go_simp; (refine hK _ ?_; clear hK K)
  refine wpTree_read (k := 16) _ rfl (fun K hK => ?_); unfold rOp; go_simp; (refine hK _ ?_; clear hK K)
  refine wpTree_read (k := 17) _ rfl (fun K hK => ?_); unfold rOp; go_simp; (refine hK _ ?_; clear hK K)
  refine wpTree_read (k := 18) _ rfl (fun K hK => ?_); unfold rOp; go_simp; (refine hK _ ?_; clear hK K)
  refine wpTree_read (k := 19) _ rfl (fun K hK => ?_); unfold rOp; go_simp; (refine hK _ ?_; clear hK K)
  refine wpTree_read (k := 20) _ rfl (fun K hK => ?_); unfold rOp; go_simp; (refine hK _ ?_; clear hK K)
  refine wpTree_read (k := 24) _ rfl (fun K hK => ?_); unfold rOp; go_simp; (refine hK _ ?_; clear hK K)
  refine wpTree_read (k := 25) _ rfl (fun K hK => ?_); unfold rOp; go_simp; (refine hK _ ?_; clear hK K)
  have hd := hd0
  clear hd0
  generalize W2.drew = V at *
  repeat' first
    | refine wpTree_two ?_ ?_
    | (refine wpTree_read (k := 4) _ rfl (fun K hK => ?_); unfold rOp; go_simp; (refine hK _ ?_; clear hK K))
    | (refine wpTree_read (k := 6) _ rfl (fun K hK => ?_); unfold rOp; go_simp; (refine hK _ ?_; clear hK K))
    | (refine wpTree_read (k := 9) _ rfl (fun K hK => ?_); unfold rOp; go_simp; (refine hK _ ?_; clear hK K))
    | (refine wpTree_read (k := 10) _ rfl (fun K hK => ?_); unfold rOp; go_simp; (refine hK _ ?_; clear hK K))
    | (refine wpTree_read (k := 14) _ rfl (fun K hK => ?_); unfold rOp; go_simp; (refine hK _ ?_; clear hK K))
    | (refine wpTree_read (k := 15) _ rfl (fun K hK => ?_); unfold rOp; go_simp; (refine hK _ ?_; clear hK K))
    | (refine wpTree_read (k := 22) _ rfl (fun K hK => ?_); unfold rOp; go_simp; (refine hK _ ?_; clear hK K))
    | (refine wpTree_read (k := 23) _ rfl (fun K hK => ?_); unfold rOp; go_simp; (refine hK _ ?_; clear hK K))
    | (refine wpTree_read (k := 26) _ rfl (fun K hK => ?_); unfold rOp; go_simp; (refine hK _ ?_; clear hK K))
    | (refine wpTree_read (k := 27) _ rfl (fun K hK => ?_); unfold rOp; go_simp; (refine hK _ ?_; clear hK K))
    | (refine wpTree_read (k := 28) _ rfl (fun K hK => ?_); unfold rOp; go_simp; (refine hK _ ?_; clear hK K))
    | (refine wpTree_read (k := 29) _ rfl (fun K hK => ?_); unfold rOp; go_simp; (refine hK _ ?_; clear hK K))
    | (refine wpTree_act (k := 0) _ rfl ?_
       have hst : Below V.heap.size V (V.alloc (.cells #[.string ⟨#[106, 111, 105, 110]⟩, .string ⟨#[115, 112, 108, 105, 116]⟩, .string ⟨#[115, 104, 105, 102, 116]⟩, .string ⟨#[114, 101, 103, 117, 108, 97, 114, 105, 122, 101]⟩] 9)) := (Below.refl _ _).alloc (Nat.le_refl _) _
       have hL := (box_cells4 (World.alloc_heap_new V (.cells #[.string ⟨#[106, 111, 105, 110]⟩, .string ⟨#[115, 112, 108, 105, 116]⟩, .string ⟨#[115, 104, 105, 102, 116]⟩, .string ⟨#[114, 101, 103, 117, 108, 97, 114, 105, 122, 101]⟩] 9))).2.2.2.1
       replace hd := hd.trans (hst.mono hd.size)
       clear hst
       go_wp2_with fail
       generalize V.heap.size = bF at *
       generalize V.alloc (.cells #[.string ⟨#[106, 111, 105, 110]⟩, .string ⟨#[115, 112, 108, 105, 116]⟩, .string ⟨#[115, 104, 105, 102, 116]⟩, .string ⟨#[114, 101, 103, 117, 108, 97, 114, 105, 122, 101]⟩] 9) = V at *
       refine ⟨HS2q.out _ hd, ?_⟩)
    | (refine wpTree_act (k := 5) _ rfl ?_
       go_wp2_with fail
       refine ⟨HS2q.out _ hd, ?_⟩)
    | (refine wpTree_act (k := 13) _ rfl ?_
       have HQ := hiq (HDC.out V)
       go_wp2_with fail
       refine HQ.out.mono ?_
       clear HQ
       rintro e V2 ⟨rfl, hst⟩
       replace hd := hd.trans (hst.mono hd.size)
       try replace hL := clq hst hL
       clear hst
       generalize V2 = V at *
       go_wp2_with fail
       refine ⟨HS2q.out _ hd, ?_⟩)
    | (refine wpTree_act (k := 21) _ rfl ?_
       have HQ := hiq (HS.out V (hb.trans (hd.mono hb.size)))
       go_wp2_with fail
       refine HQ.out.mono ?_
       clear HQ
       rintro e V2 ⟨rfl, hst⟩
       replace hd := hd.trans (hst.mono hd.size)
       try replace hL := clq hst hL
       clear hst
       generalize V2 = V at *
       go_wp2_with fail
       refine ⟨HS2q.out _ hd, ?_⟩)
  all_goals refine wpTree_fin ?_
  all_goals
    clear hL HS2q hX
    replace o0 := clq hd o0; replace o1 := clq hd o1; replace o2 := clq hd o2; replace o3 := clq hd o3; replace o4 := clq hd o4
    replace hb := hb.trans (hd.mono hb.size)
    go_wp2
    exact bodyPost_ret (results_tmp2 rfl _ _ _) rfl ⟨by rw [HSD.out]; first | done | rfl, hb⟩
theorem rdescr_err (S : Nat -> Prop) (v : CV) (x : Col) (o : Op) (w : World) (h : RdC S w v x) (hm : Sml x) (he : opErr x o ≠ 0) :
    Calls Tryz.prog 17 #[v.val, o.val] w fun e w' => e = .returned (.tuple #[.string (descr x o), .int .i64 (opErr x o)]) /\ Below w.heap.size w w' := by
  have hD : descr x o = ⟨#[]⟩ := by unfold descr; rw [if_neg he]
  rw [hD]
  clear hD
  have HF : Hid (∀ W, Below w.heap.size w W -> Calls Tryz.prog 19 #[v.val, o.val] W fun e w' => e = .returned (.int .i64 (opErr x o)) /\ Below W.heap.size W w') := fun W hb => rcheck_ref S v x o W (h.below hb) hm
  have t1 : ((opErr x o : Int) != 0) = true := by simpa using he
  generalize opErr x o = E at *
  clear h hm he
  obtain ⟨sec, sa, sn, sc, ta, tn, tc, ca, cn, cc⟩ := v
  obtain ⟨ok, og, ot, oo, ox⟩ := o
  change Calls _ _ #[.agg #[.string sec, .slice sa sn sc, .slice ta tn tc, .slice ca cn cc], .agg #[.int .i64 ok, .string og, .int .i64 ot, .int .i64 oo, .string ox]] _ _
  change Hid (∀ W, _ -> Calls _ _ #[.agg #[.string sec, .slice sa sn sc, .slice ta tn tc, .slice ca cn cc], .agg #[.int .i64 ok, .string og, .int .i64 ot, .int .i64 oo, .string ox]] _ _) at HF
  obtain ⟨hb, hC, hO⟩ := box2 w #[.string sec, .slice sa sn sc, .slice ta tn tc, .slice ca cn cc] #[.int .i64 ok, .string og, .int .i64 ot, .int .i64 oo, .string ox] 26 28
  have c0 := hC 0 _ rfl
  have c1 := hC 1 _ rfl
  have c2 := hC 2 _ rfl
  have c3 := hC 3 _ rfl
  have o0 := hO 0 _ rfl
  have o1 := hO 1 _ rfl
  have o2 := hO 2 _ rfl
  have o3 := hO 3 _ rfl
  have o4 := hO 4 _ rfl
  clear hC hO
  have HFF := hiq (HF.out _ hb)
  clear HF
  go_enter Tryz.func17, Tryz.ntmps17
  go_wp2_with fail
  generalize (w.alloc (.cells #[.string sec, .slice sa sn sc, .slice ta tn tc, .slice ca cn cc] 26)).alloc (.cells #[.int .i64 ok, .string og, .int .i64 ot, .int .i64 oo, .string ox] 28) = W1 at *
  refine HFF.out.mono ?_
  rintro e W2 ⟨rfl, hb2⟩
  replace hb := hb.trans (hb2.mono hb.size)
  clear HFF hb2
  go_wp2
  exact bodyPost_ret (results_tmp2 rfl _ _ _) rfl ⟨rfl, hb⟩
theorem rdescr_ref (S : Nat -> Prop) (v : CV) (x : Col) (o : Op) (w : World) (h : RdC S w v x) (hm : Sml x) (ho : o.ok) (hx : o.text.size <= 1000000) (hg : o.sig.size <= 1000000) :
    Calls Tryz.prog 17 #[v.val, o.val] w fun e w' => e = .returned (.tuple #[.string (descr x o), .int .i64 (opErr x o)]) /\ Below w.heap.size w w' := by
  by_cases he : opErr x o = 0
  · obtain ⟨s, c, F⟩ := fits_of he
    rw [he]
    have h4 : o.kind = 1 \/ o.kind = 2 \/ o.kind = 3 \/ o.kind = 4 := by have := F.kind; omega
    rcases h4 with k | k | k | k
    · exact rdescr_1 S v x o s c w h hm ho hx hg F k
    · exact rdescr_2 S v x o s c w h hm ho hx hg F k
    · exact rdescr_3 S v x o s c w h hm ho hx hg F k
    · exact rdescr_4 S v x o s c w h hm ho hx hg F k
  · exact rdescr_err S v x o w h hm he
end Go.Proofs.YtbdgmgddliploaaGreatDoor
