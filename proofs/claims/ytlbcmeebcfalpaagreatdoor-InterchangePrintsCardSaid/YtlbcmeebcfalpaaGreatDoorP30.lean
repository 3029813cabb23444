/- Joined: IWlk, IGrt. -/
import Derived.Test.YtlbcmeebcfalpaaGreatDoorP29
set_option linter.unusedVariables false
set_option linter.unusedSimpArgs false
set_option maxRecDepth 100000
set_option maxHeartbeats 16000000
namespace Go.Proofs.YtlbcmeebcfalpaaGreatDoor
open Go.RowKit

theorem walk_any : ∀ (N : Nat) (v : Vl), SizeOf.sizeOf v <= N -> ∀ (S : Nat -> Prop) (w : World) (most : Int), Rd S w v -> 0 <= most -> most <= 4000 -> Calls Tryz.prog 48 #[v.val, .int .i64 most] w fun e w' => ∃ (n : Int) (g : Bool), e = .returned (.tuple #[.int .i64 n, .bool g]) /\ 1 <= n /\ n <= most + 1 /\ Below w.heap.size w w' := by
  intro N
  induction N with
  | zero => intro v h; have : 0 < SizeOf.sizeOf v := by { cases v; simp; omega }; omega
  | succ N IHN =>
  rintro ⟨k, nn, t, a, c, l⟩ hsz S w most hr h0 h1
  have hb1 : Below w.heap.size w (w.alloc (.cells #[.int .i64 k, .int .i64 nn, .string t, .slice a l.length c] 24)) := (Below.refl _ _).alloc (Nat.le_refl _) _
  have hv0 := World.alloc_heap_new w (.cells #[.int .i64 k, .int .i64 nn, .string t, .slice a l.length c] 24)
  have hr0 := hr.below hb1
  have hs1 : (w.alloc (.cells #[.int .i64 k, .int .i64 nn, .string t, .slice a l.length c] 24)).heap.size = w.heap.size + 1 := by simp
  have hvals := (rd_iff.1 hr0).2.2.2
  have htx := (rd_iff.1 hr0).2.2.1
  have IH : Hid (∀ (u : Vl), u ∈ l -> ∀ (w : World) (most : Int), Rd S w u -> 0 <= most -> most <= 4000 -> Calls Tryz.prog 48 #[u.val, .int .i64 most] w fun e w' => ∃ (n : Int) (g : Bool), e = .returned (.tuple #[.int .i64 n, .bool g]) /\ 1 <= n /\ n <= most + 1 /\ Below w.heap.size w w') := fun u hu w most hr h0 h1 =>
    IHN u (by have := List.sizeOf_lt_of_mem hu; simp at hsz; omega) S w most hr h0 h1
  have HV := hiq hvals
  have HB := hiq hb1
  have HC := hiq hv0
  have HS1 := hiq hs1
  have hlen : l.length * 56 <= 140737488355328 := hvals.2.2.1
  have x2 := cell_box hv0 2 rfl
  clear hr hr0 hvals hb1 hv0 hs1 IHN hsz
  change Calls _ _ #[.agg #[.int .i64 k, .int .i64 nn, .string t, .slice a l.length c], .int .i64 most] _ _
  go_enter Tryz.func48, Tryz.ntmps48
  go_wp2_with fail
  have x2d : ((w.alloc (.cells #[.int .i64 k, .int .i64 nn, .string t, .slice a l.length c] 24))).drew.cell? ⟨w.heap.size, 2, none⟩ = some (.string t) := x2
  go_region
  have hd : Below ((w.alloc (.cells #[.int .i64 k, .int .i64 nn, .string t, .slice a l.length c] 24))).heap.size (w.alloc (.cells #[.int .i64 k, .int .i64 nn, .string t, .slice a l.length c] 24)) ((w.alloc (.cells #[.int .i64 k, .int .i64 nn, .string t, .slice a l.length c] 24))).drew := (Below.refl _ _).drew
  have HD := hiq hd
  clear x2 x2d hd
  go_wp2_with fail
  generalize ((w.alloc (.cells #[.int .i64 k, .int .i64 nn, .string t, .slice a l.length c] 24))).drew = W1 at *
  generalize (w.alloc (.cells #[.int .i64 k, .int .i64 nn, .string t, .slice a l.length c] 24)) = W0 at *
  go_loopw [6, 7, 8] (fun n g i wr => ∃ (j : Nat) (m : Int) (b : Bool), n = .int .i64 m /\ g = .bool b /\ i = .int .i64 (j : Int) /\ j <= l.length /\ 1 <= m /\ m <= most + 1 /\ Below W0.heap.size W0 wr) (fun _ _ i _ => l.length - (intOf i).toNat)
  case atStart => exact ⟨0, 1, _, rfl, rfl, rfl, Nat.zero_le _, by omega, by omega, HD.out⟩
  case round =>
    obtain ⟨j, m, b, rfl, rfl, rfl, hj, hm1, hm2, hb⟩ := hrel
    have hv := (hb.block w.heap.size (by have := HS1.out; omega)).trans HC.out
    have x3 := cell_box hv 3 rfl
    by_cases hjn : j < l.length /\ m <= most
    · obtain ⟨hjn, hmm⟩ := hjn
      obtain ⟨u, bb, off, hu, hmem, rfl, hSb, hbl, ⟨y0, y1, y2, y3⟩, hru⟩ := (HV.out.below hb).get hjn
      obtain ⟨k', nn', t', a', c', l'⟩ := u
      dsimp only [Vl.kind, Vl.num, Vl.text, Vl.sl, Vl.addr, Vl.items, Vl.cap] at y0 y1 y2 y3
      have HM := hiq (IH.out _ hmem wr (most - m) hru (by omega) (by omega))
      dsimp only [Vl.val, Vl.cells, Vl.kind, Vl.num, Vl.text, Vl.sl, Vl.addr, Vl.items, Vl.cap] at HM
      have HBW := hiq hb
      clear hb hru hmem hu hv hSb
      go_wp2_with fail
      refine HM.out.mono ?_
      rintro e w2 ⟨m2, g2, rfl, h3, h4, hb2⟩
      have HB2 := hiq (HBW.out.trans (hb2.mono HBW.out.size))
      clear hb2 HM
      cases b
      all_goals
        go_wp2_with fail
        go_roundw
        case rel => exact ⟨j + 1, m + m2, _, by go_num, rfl, by go_num, by omega, by omega, by omega, HB2.out⟩
        case measure => simp [intOf]; omega
    · have hz := HB.out.trans (hb.mono HB.out.size)
      rcases (show (¬ j < l.length) \/ (j < l.length /\ most < m) by omega) with hc | ⟨hc1, hc2⟩
      all_goals
        clear hjn hv
        go_wp2
        exact bodyPost_ret (results_tmp2 rfl _ _ _) rfl ⟨m, b, rfl, hm1, hm2, hz⟩
theorem great_any (S : Nat -> Prop) : ∀ (v : Vl) (w : World), Rd S w v -> Calls Tryz.prog 27 #[v.val] w fun e w' => ∃ g : Bool, e = .returned (.bool g) /\ Below w.heap.size w w'
  | .mk k nn t a c l, w, hr => by
    have hb1 : Below w.heap.size w (w.alloc (.cells #[.int .i64 k, .int .i64 nn, .string t, .slice a l.length c] 24)) := (Below.refl _ _).alloc (Nat.le_refl _) _
    have HM := hiq (walk_any _ (.mk k nn t a c l) (Nat.le_refl _) S _ 4000 (hr.below hb1) (by omega) (by omega))
    dsimp only [Vl.val, Vl.cells, Vl.kind, Vl.num, Vl.text, Vl.sl, Vl.addr, Vl.items, Vl.cap] at HM
    have HB := hiq hb1
    clear hr hb1
    change Calls _ _ #[.agg #[.int .i64 k, .int .i64 nn, .string t, .slice a l.length c]] _ _
    go_enter Tryz.func27, Tryz.ntmps27
    go_wp2_with fail
    refine HM.out.mono ?_
    generalize (w.alloc (.cells #[.int .i64 k, .int .i64 nn, .string t, .slice a l.length c] 24)) = W0 at *
    rintro e w2 ⟨n, g, rfl, h1, h2, hb2⟩
    have hz := HB.out.trans (hb2.mono HB.out.size)
    clear hb2 HM
    by_cases h4 : n = 4001
    · subst h4
      go_wp2
      go_ret
      exact ⟨_, rfl, hz⟩
    · have h5 : n <= 4000 := by omega
      go_wp2
      go_ret
      exact ⟨_, rfl, hz⟩
end Go.Proofs.YtlbcmeebcfalpaaGreatDoor
namespace Go.Proofs.YtlbcmeebcfalpaaGreatDoor
open Go.RowKit

theorem sm_leaf {t : Ty} {d : Dv} (ht : t = .int \/ t = .bool \/ t = .text) (h : Has t d) : Sm d := by
  rcases ht with rfl | rfl | rfl
  · obtain ⟨n, rfl⟩ := h.int_inv; trivial
  · obtain ⟨n, rfl⟩ := h.bool_inv; trivial
  · obtain ⟨n, rfl⟩ := h.text_inv; trivial
theorem sm_flat : ∀ {ts : List Ty} {l : List Dv}, (∀ t ∈ ts, t = .int \/ t = .bool \/ t = .text) -> HasL ts l -> Sm (.struc l)
  | [], _, _, h => by cases h; exact sm_struc.2 (by simp)
  | t :: ts, _, ht, h => by
    cases h with
    | cons h1 h2 =>
      have := sm_flat (fun u hu => ht u (List.mem_cons_of_mem _ hu)) h2
      refine sm_struc.2 fun x hx => ?_
      rcases List.mem_cons.1 hx with rfl | hx
      · exact sm_leaf (ht t (List.mem_cons_self ..)) h1
      · exact sm_struc.1 this x hx
theorem sm_flats {ts : List Ty} {d : Dv} (ht : ∀ t ∈ ts, t = .int \/ t = .bool \/ t = .text) (h : Has (.struc ts) d) : Sm d := by
  obtain ⟨l, rfl, hl⟩ := h.struc_inv
  exact sm_flat ht hl
section
variable {ops : Array Oper} {rest : List Oper} {o : Oper} {act : Act} {Q : Exit -> Act -> World -> Prop} {W : World} {b : Nat} {t : TypeId} {v : Value}
/-- A load of a whole struct that a guard lets through. -/
theorem wpList_ldG (h : LdV b t v W) (x : Operand) (ho : o.op = .load t x) (hg : Region.wanted o (yielded ops act.tmps) = true) (hx : act.eval x = .pointer (some ⟨b, 0, none⟩))
    (hk : wpList Tryz.prog ops Q rest (act.put o.dst v) W) : wpList Tryz.prog ops Q (o :: rest) act W := by
  refine wpList_step fun K hK => ?_
  simp only [hg, if_true]
  have h' : (loadVar t ⟨b, 0, none⟩).run Tryz.prog W = .ok v W := h
  unfold Oper.wp execOp
  simp only [ho, hx, Instr.loadAt, Instr.sureAddr, Sem.run_bind, Sem.run_pure, Result.andThen_ok, h']
  exact hK _ _ hk
end
/-- A list of simple things. -/
theorem sm_list_of {k s : Nat} {a : Option Addr} {c : Nat} {l : List Dv} (h : l.length <= 4000) (hl : ∀ x ∈ l, Sm x) : Sm (.list k s a c l) := sm_list.2 ⟨by omega, hl⟩
theorem Great_any {d : Dv} (hT : Has tyEdition d) {S : Nat -> Prop} {w : World} (hr : RdD S w d) (hS : ∀ b, S b -> b < w.heap.size) : Calls Tryz.prog 17 #[d.val] w fun e w' => ∃ g : Bool, e = .returned (.bool g) /\ (g = false -> Sm d) /\ Below w.heap.size w w' := by
  have hldA := fun V (hV : Below (w.alloc (.cells d.cells.toArray (LT.tid .edi))).heap.size (w.alloc (.cells d.cells.toArray (LT.tid .edi))) V) => hV
  have hT2 := hT
  obtain ⟨y0, wa, wc, wl, ra, rc, rl, c0, c1, c2, c3, ua, uc, ul, ga, gc, gl, pa, pc, pl, y7, sa, sc, sl, s0, s1, s2, s3, s4, s5, s6, s7, s8, s9, s10, qa, qc, ql, ta, tc, tl, rfl, hw, hre, hu, hg, hp, hse, hq, ht⟩ := inv_Edition hT
  clear hldA
  have hb0 : Below w.heap.size w (w.alloc (.cells #[.string y0, .slice wa wl.length wc, .slice ra rl.length rc, .int .i64 c0, .int .i64 c1, .int .i64 c2, .int .i64 c3, .slice ua ul.length uc, .slice ga gl.length gc, .slice pa pl.length pc, .int .i64 y7, .slice sa sl.length sc, .int .i64 s0, .int .i64 s1, .int .i64 s2, .int .i64 s3, .int .i64 s4, .int .i64 s5, .int .i64 s6, .int .i64 s7, .int .i64 s8, .int .i64 s9, .int .i64 s10, .slice qa ql.length qc, .slice ta tl.length tc] 40)) := (Below.refl _ _).alloc (Nat.le_refl _) _
  have hb1 : Below w.heap.size w ((w.alloc (.cells #[.string y0, .slice wa wl.length wc, .slice ra rl.length rc, .int .i64 c0, .int .i64 c1, .int .i64 c2, .int .i64 c3, .slice ua ul.length uc, .slice ga gl.length gc, .slice pa pl.length pc, .int .i64 y7, .slice sa sl.length sc, .int .i64 s0, .int .i64 s1, .int .i64 s2, .int .i64 s3, .int .i64 s4, .int .i64 s5, .int .i64 s6, .int .i64 s7, .int .i64 s8, .int .i64 s9, .int .i64 s10, .slice qa ql.length qc, .slice ta tl.length tc] 40)).alloc (.cells #[.int .i64 4000] 82)) := hb0.alloc hb0.size _
  have he := alloc_heap_some (o := .cells #[.int .i64 4000] 82) (World.alloc_heap_new w (.cells #[.string y0, .slice wa wl.length wc, .slice ra rl.length rc, .int .i64 c0, .int .i64 c1, .int .i64 c2, .int .i64 c3, .slice ua ul.length uc, .slice ga gl.length gc, .slice pa pl.length pc, .int .i64 y7, .slice sa sl.length sc, .int .i64 s0, .int .i64 s1, .int .i64 s2, .int .i64 s3, .int .i64 s4, .int .i64 s5, .int .i64 s6, .int .i64 s7, .int .i64 s8, .int .i64 s9, .int .i64 s10, .slice qa ql.length qc, .slice ta tl.length tc] 40))
  have hpt : Pts ((w.alloc (.cells #[.string y0, .slice wa wl.length wc, .slice ra rl.length rc, .int .i64 c0, .int .i64 c1, .int .i64 c2, .int .i64 c3, .slice ua ul.length uc, .slice ga gl.length gc, .slice pa pl.length pc, .int .i64 y7, .slice sa sl.length sc, .int .i64 s0, .int .i64 s1, .int .i64 s2, .int .i64 s3, .int .i64 s4, .int .i64 s5, .int .i64 s6, .int .i64 s7, .int .i64 s8, .int .i64 s9, .int .i64 s10, .slice qa ql.length qc, .slice ta tl.length tc] 40)).alloc (.cells #[.int .i64 4000] 82)) (w.heap.size + 1) 4000 := by
    have := World.alloc_heap_new (w.alloc (.cells #[.string y0, .slice wa wl.length wc, .slice ra rl.length rc, .int .i64 c0, .int .i64 c1, .int .i64 c2, .int .i64 c3, .slice ua ul.length uc, .slice ga gl.length gc, .slice pa pl.length pc, .int .i64 y7, .slice sa sl.length sc, .int .i64 s0, .int .i64 s1, .int .i64 s2, .int .i64 s3, .int .i64 s4, .int .i64 s5, .int .i64 s6, .int .i64 s7, .int .i64 s8, .int .i64 s9, .int .i64 s10, .slice qa ql.length qc, .slice ta tl.length tc] 40)) (.cells #[.int .i64 4000] 82)
    unfold Pts
    simpa using this
  have hs1 : ((w.alloc (.cells #[.string y0, .slice wa wl.length wc, .slice ra rl.length rc, .int .i64 c0, .int .i64 c1, .int .i64 c2, .int .i64 c3, .slice ua ul.length uc, .slice ga gl.length gc, .slice pa pl.length pc, .int .i64 y7, .slice sa sl.length sc, .int .i64 s0, .int .i64 s1, .int .i64 s2, .int .i64 s3, .int .i64 s4, .int .i64 s5, .int .i64 s6, .int .i64 s7, .int .i64 s8, .int .i64 s9, .int .i64 s10, .slice qa ql.length qc, .slice ta tl.length tc] 40)).alloc (.cells #[.int .i64 4000] 82)).heap.size = w.heap.size + 2 := by simp
  have hrs := rdD_struc.1 hr
  have i1 := (rdD_list.1 (hrs _ (List.mem_of_getElem? (i := 1) rfl))).below hb1
  have i2 := (rdD_list.1 (hrs _ (List.mem_of_getElem? (i := 2) rfl))).below hb1
  have i4 := (rdD_list.1 (hrs _ (List.mem_of_getElem? (i := 4) rfl))).below hb1
  have i5 := (rdD_list.1 (hrs _ (List.mem_of_getElem? (i := 5) rfl))).below hb1
  have i6 := (rdD_list.1 (hrs _ (List.mem_of_getElem? (i := 6) rfl))).below hb1
  have i8 := (rdD_list.1 (hrs _ (List.mem_of_getElem? (i := 8) rfl))).below hb1
  have hst := rdD_struc.1 (hrs _ (List.mem_of_getElem? (i := 9) rfl))
  have i11 := (rdD_list.1 (hst _ (List.mem_of_getElem? (i := 11) rfl))).2.2.1
  have i12 := (rdD_list.1 (hst _ (List.mem_of_getElem? (i := 12) rfl))).2.2.1
  have n1 := i1.2.2.1
  have n2 := i2.2.2.1
  have n8 := i8.2.2.1
  have HA := hiq (add_any (w.heap.size + 1) 4000 wl.length ((w.alloc (.cells #[.string y0, .slice wa wl.length wc, .slice ra rl.length rc, .int .i64 c0, .int .i64 c1, .int .i64 c2, .int .i64 c3, .slice ua ul.length uc, .slice ga gl.length gc, .slice pa pl.length pc, .int .i64 y7, .slice sa sl.length sc, .int .i64 s0, .int .i64 s1, .int .i64 s2, .int .i64 s3, .int .i64 s4, .int .i64 s5, .int .i64 s6, .int .i64 s7, .int .i64 s8, .int .i64 s9, .int .i64 s10, .slice qa ql.length qc, .slice ta tl.length tc] 40)).alloc (.cells #[.int .i64 4000] 82)) hpt (by omega) (by omega) (by omega))
  have HI1 := hiq i1
  have HI4 := hiq i4
  have HI5 := hiq i5
  have HI6 := hiq i6
  have HI8 := hiq i8
  have HE := hiq he
  have HS1 := hiq hs1
  have HB := hiq hb1
  have HS : Hid (∀ b, S b -> b ≠ w.heap.size + 1) := fun b hb => by have := hS b hb; omega
  have HSL := hiq hS
  have HR := hiq hr
  have HT2 := hiq hT2
  have HW := hiq hw
  have HRE := hiq hre
  have HU := hiq hu
  have HG := hiq hg
  have HPA := hiq hp
  have HSE := hiq hse
  have HQ := hiq hq
  have HTL := hiq ht
  have x1 := cell_box he 1 rfl
  change Calls _ _ #[.agg #[.string y0, .slice wa wl.length wc, .slice ra rl.length rc, .int .i64 c0, .int .i64 c1, .int .i64 c2, .int .i64 c3, .slice ua ul.length uc, .slice ga gl.length gc, .slice pa pl.length pc, .int .i64 y7, .slice sa sl.length sc, .int .i64 s0, .int .i64 s1, .int .i64 s2, .int .i64 s3, .int .i64 s4, .int .i64 s5, .int .i64 s6, .int .i64 s7, .int .i64 s8, .int .i64 s9, .int .i64 s10, .slice qa ql.length qc, .slice ta tl.length tc]] _ _
  clear hb0 hb1 he hpt hs1 hrs i1 i2 i4 i5 i6 i8 hst hr hS hT hT2 hw hre hu hg hp hse hq ht
  go_enter Tryz.func17, Tryz.ntmps17
  go_wp2_with fail
  refine HA.out.mono ?_
  generalize ((w.alloc (.cells #[.string y0, .slice wa wl.length wc, .slice ra rl.length rc, .int .i64 c0, .int .i64 c1, .int .i64 c2, .int .i64 c3, .slice ua ul.length uc, .slice ga gl.length gc, .slice pa pl.length pc, .int .i64 y7, .slice sa sl.length sc, .int .i64 s0, .int .i64 s1, .int .i64 s2, .int .i64 s3, .int .i64 s4, .int .i64 s5, .int .i64 s6, .int .i64 s7, .int .i64 s8, .int .i64 s9, .int .i64 s10, .slice qa ql.length qc, .slice ta tl.length tc] 40)).alloc (.cells #[.int .i64 4000] 82)) = W1 at *
  rintro e V1 ⟨rfl, lf1, hp1, hle1, hlo1, hP1, hE1⟩
  have HP1 := hiq hP1
  have HE1 := hiq hE1
  clear hP1 hE1 HA x1
  go_wp2_with fail
  go_loopw [4] (fun i wr => ∃ (j : Nat) (lf : Int), i = .int .i64 (j : Int) /\ j <= wl.length /\ Pts wr (w.heap.size + 1) lf /\ lf <= lf1 /\ -5000 <= lf /\ Hid (0 <= lf -> ∀ k d, k < j -> wl[k]? = some d -> Sm d) /\ Exc (One (w.heap.size + 1)) W1 wr) (fun i _ => wl.length - (intOf i).toNat)
  case atStart => exact ⟨0, lf1, rfl, Nat.zero_le _, hp1, Int.le_refl _, hlo1, (fun _ k d hk => by omega), HE1.out⟩
  case round =>
    clear hp1
    obtain ⟨j, lf, rfl, hj, hpw, hlf, hlo, hsm, hE⟩ := hrel
    obtain ⟨x0, f0⟩ := hpw.cells
    have he := hE.heap (by show ¬ w.heap.size = w.heap.size + 1; omega) HE.out
    have x1 := cell_box he 1 rfl
    by_cases hjn : j < wl.length /\ 0 <= lf
    · obtain ⟨hjn, h0⟩ := hjn
      obtain ⟨d, bb, off, hd, hmem, rfl, hSb, hat, hrd⟩ := (hE.items HI1.out HS.out).get hjn
      obtain ⟨z0, za, zc, zl, rfl, hzl⟩ := inv_Witness (HW.out _ hmem)
      have v1 := hat 1 _ rfl
      have hrl := rdD_list.1 (rdD_struc.1 hrd _ (List.mem_of_getElem? (i := 1) rfl))
      have HM := hiq (nodes_any _ zl (Nat.le_refl _) hzl S _ _ _ wr hrl (w.heap.size + 1) lf hpw hlo (by omega) HS.out)
      have HEE := hiq hE
      have HSM := hiq (hsm.out h0)
      have HD := hiq hd
      clear hat hrd hrl hE hsm hmem hd he
      go_wp2_with fail
      refine HM.out.mono ?_
      rintro e w2 ⟨rfl, lf2, hp2, hle2, hlo2, hP2, hE2⟩
      have HP2 := hiq hP2
      have HE2 := hiq hE2
      clear hP2 hE2 HM
      go_wp2_with fail
      go_roundw
      case rel =>
        refine ⟨j + 1, lf2, by go_num, by omega, hp2, by omega, hlo2, fun h k d hk hd' => ?_, HEE.out.trans HE2.out⟩
        obtain ⟨-, hyn, hys⟩ := HP2.out h
        by_cases hkj : k < j
        · exact HSM.out k d hkj hd'
        · obtain rfl : k = j := by omega
          rw [HD.out] at hd'
          cases hd'
          refine sm_struc.2 fun x hx => ?_
          simp only [List.mem_cons, List.not_mem_nil, or_false] at hx
          rcases hx with rfl | rfl
          · trivial
          · exact sm_list_of hyn hys
      case measure => simp [intOf]; omega
    · have X1 : Hid (0 <= lf -> LSm wl) := fun h => by
        have h2 := HP1.out (by omega)
        refine ⟨h2.2, fun x hx => ?_⟩
        obtain ⟨k, hk⟩ := List.mem_iff_getElem?.1 hx
        exact hsm.out h k x (by have := (List.getElem?_eq_some_iff.1 hk).1; omega) hk
      have HEA := hiq hE
      have x2 := cell_box he 2 rfl
      have HA2 := hiq (add_any (w.heap.size + 1) lf rl.length wr hpw hlo (by omega) (by omega))
      have hlf4 : lf <= 4000 := by omega
      clear hsm hE he
      rcases (show (¬ j < wl.length) \/ (j < wl.length /\ lf < 0) by omega) with hc | ⟨hc1, hc2⟩
      all_goals
        clear hjn
        go_wp2_with fail
        refine HA2.out.mono ?_
        clear HA2 x0 f0 hpw x1 x2
        rintro e V2 ⟨rfl, lg, hp2, hle2, hlo2, hP2, hE2⟩
        have HP2 := hiq hP2
        have HE2 := hiq (HEA.out.trans hE2)
        have he := HE2.out.heap (by show ¬ w.heap.size = w.heap.size + 1; omega) HE.out
        have HC := hiq (common_any S V2 (w.heap.size + 1) lg hp2 hlo2 (by omega) HS.out _ _ _ ul (HE2.out.items HI4.out HS.out) HU.out _ _ _ gl (HE2.out.items HI5.out HS.out) HG.out _ _ _ pl (HE2.out.items HI6.out HS.out) HPA.out s0 s1 s2 s3 s4 s5 s6 s7 s8 s9 s10 qa ta ql.length qc tl.length tc (by omega) (by omega))
        have x7 := cell_box he 7 rfl
        have x8 := cell_box he 8 rfl
        have x9 := cell_box he 9 rfl
        have x12 := cell_box he 12 rfl
        have x13 := cell_box he 13 rfl
        have x14 := cell_box he 14 rfl
        have x15 := cell_box he 15 rfl
        have x16 := cell_box he 16 rfl
        have x17 := cell_box he 17 rfl
        have x18 := cell_box he 18 rfl
        have x19 := cell_box he 19 rfl
        have x20 := cell_box he 20 rfl
        have x21 := cell_box he 21 rfl
        have x22 := cell_box he 22 rfl
        have x23 := cell_box he 23 rfl
        have x24 := cell_box he 24 rfl
        clear hP2 hE2 hp2 he
        go_wp2_with fail
        refine HC.out.mono ?_
        clear HC x7 x8 x9 x12 x13 x14 x15 x16 x17 x18 x19 x20 x21 x22 x23 x24
        rintro e V3 ⟨rfl, lh, hp3, hle3, hlo3, hP3, hE3⟩
        have HP3 := hiq hP3
        have HE3 := hiq (HE2.out.trans hE3)
        have he := HE3.out.heap (by show ¬ w.heap.size = w.heap.size + 1; omega) HE.out
        have x11 := cell_box he 11 rfl
        have HA3 := hiq (add_any (w.heap.size + 1) lh sl.length V3 hp3 hlo3 (by omega) (by omega))
        clear hP3 hE3 hp3 he
        go_wp2_with fail
        refine HA3.out.mono ?_
        clear HA3 x11
        rintro e V4 ⟨rfl, lk1, hp4, hle4, hlo4, hP4, hE4⟩
        have HP4 := hiq hP4
        have HE4 := hiq (HE3.out.trans hE4)
        clear hP4 hE4
        go_wp2_with fail
        go_loopw [5] (fun i wr => ∃ (j : Nat) (lf : Int), i = .int .i64 (j : Int) /\ j <= sl.length /\ Pts wr (w.heap.size + 1) lf /\ lf <= lk1 /\ -5000 <= lf /\ Hid (0 <= lf -> ∀ k d, k < j -> sl[k]? = some d -> Sm d) /\ Exc (One (w.heap.size + 1)) W1 wr) (fun i _ => sl.length - (intOf i).toNat)
        case atStart => exact ⟨0, lk1, rfl, Nat.zero_le _, hp4, Int.le_refl _, hlo4, (fun _ k d hk => by omega), HE4.out⟩
        case round =>
          clear hp4
          obtain ⟨j2, lk, rfl, hj2, hpw, hlk, hlo, hsm, hE⟩ := hrel
          obtain ⟨x0, f0⟩ := hpw.cells
          have he := hE.heap (by show ¬ w.heap.size = w.heap.size + 1; omega) HE.out
          have x11 := cell_box he 11 rfl
          by_cases hjn : j2 < sl.length /\ 0 <= lk
          · obtain ⟨hjn, h0⟩ := hjn
            first
              | (exfalso; omega)
              | obtain ⟨d, bb, off, hd, hmem, rfl, hSb, hat, hrd⟩ := (hE.items HI8.out HS.out).get hjn
                obtain ⟨z0, oa, oc, ol, ba, bc, bl, da, dc, dl, z4, rfl, hol, hbl, hdl⟩ := inv_Section (HSE.out _ hmem)
                have v0 := hat 0 _ rfl
                rw [Nat.add_zero] at v0
                have v1 := hat 1 _ rfl
                have v2 := hat 2 _ rfl
                have v3 := hat 3 _ rfl
                have v4 := hat 4 _ rfl
                have m1 := (rdD_list.1 (rdD_struc.1 hrd _ (List.mem_of_getElem? (i := 1) rfl))).2.2.1
                have m2 := (rdD_list.1 (rdD_struc.1 hrd _ (List.mem_of_getElem? (i := 2) rfl))).2.2.1
                have m3 := (rdD_list.1 (rdD_struc.1 hrd _ (List.mem_of_getElem? (i := 3) rfl))).2.2.1
                have hwb : w.heap.size + 1 < wr.heap.size := (Array.getElem?_eq_some_iff.1 hpw).1
                have hbl9 : Below wr.heap.size wr (wr.alloc (.cells #[.string z0, .slice oa ol.length oc, .slice ba bl.length bc, .slice da dl.length dc, .string z4] 87)) := (Below.refl _ _).alloc (Nat.le_refl _) _
                have hpl : Pts (wr.alloc (.cells #[.string z0, .slice oa ol.length oc, .slice ba bl.length bc, .slice da dl.length dc, .string z4] 87)) (w.heap.size + 1) lk := (hbl9.block _ hwb).trans hpw
                have hsb := World.alloc_heap_new wr (.cells #[.string z0, .slice oa ol.length oc, .slice ba bl.length bc, .slice da dl.length dc, .string z4] 87)
                have HM := hiq (add_any (w.heap.size + 1) lk ol.length (wr.alloc (.cells #[.string z0, .slice oa ol.length oc, .slice ba bl.length bc, .slice da dl.length dc, .string z4] 87)) hpl hlo (by omega) (by omega))
                have HEE := hiq (hE.trans (.below hbl9))
                have HSM := hiq (hsm.out h0)
                have HD := hiq hd
                have HSB := hiq hsb
                have HOL := hiq hol
                have HBL := hiq hbl
                have HDL := hiq hdl
                clear hat hrd hE hsm hmem hd he hpl hbl9 hsb hol hbl hdl
                go_wp2_with fail
                refine HM.out.mono ?_
                clear HM v0 v1 v2 v3 v4 x0 f0 x11 hpw
                generalize (wr.alloc (.cells #[.string z0, .slice oa ol.length oc, .slice ba bl.length bc, .slice da dl.length dc, .string z4] 87)) = U0 at *
                rintro e U1 ⟨rfl, la, q1, ql1, qo1, qP1, qE1⟩
                have u1 := qE1.heap (by show ¬ wr.heap.size = w.heap.size + 1; omega) HSB.out
                have v2 := cell_box u1 2 rfl
                have HM2 := hiq (add_any (w.heap.size + 1) la bl.length U1 q1 qo1 (by omega) (by omega))
                have QP1 := hiq qP1
                have QE1 := hiq qE1
                have U1H := hiq u1
                clear qP1 qE1 q1 u1
                go_wp2_with fail
                refine HM2.out.mono ?_
                clear HM2 v2
                rintro e U2 ⟨rfl, lb, q2, ql2, qo2, qP2, qE2⟩
                have u2 := qE2.heap (by show ¬ wr.heap.size = w.heap.size + 1; omega) U1H.out
                have v3 := cell_box u2 3 rfl
                have HM3 := hiq (add_any (w.heap.size + 1) lb dl.length U2 q2 qo2 (by omega) (by omega))
                have QP2 := hiq qP2
                have QE2 := hiq qE2
                clear qP2 qE2 q2 u2
                go_wp2_with fail
                refine HM3.out.mono ?_
                clear HM3 v3
                rintro e U3 ⟨rfl, lc, q3, ql3, qo3, qP3, qE3⟩
                have QP3 := hiq qP3
                have QE3 := hiq qE3
                clear qP3 qE3
                go_wp2_with fail
                go_roundw
                case rel =>
                  refine ⟨j2 + 1, lc, by go_num, by omega, q3, by omega, qo3, fun h k d hk hd' => ?_, ((HEE.out.trans QE1.out).trans QE2.out).trans QE3.out⟩
                  obtain ⟨r3, s3⟩ := QP3.out h
                  obtain ⟨r2, s2⟩ := QP2.out r3
                  obtain ⟨r1, s1⟩ := QP1.out r2
                  by_cases hkj : k < j2
                  · exact HSM.out k d hkj hd'
                  · obtain rfl : k = j2 := by omega
                    rw [HD.out] at hd'
                    cases hd'
                    refine sm_struc.2 fun x hx => ?_
                    simp only [List.mem_cons, List.not_mem_nil, or_false] at hx
                    rcases hx with rfl | rfl | rfl | rfl | rfl
                    · trivial
                    · exact sm_list_of s1 fun y hy => sm_flats (by simp) (HOL.out y hy)
                    · exact sm_list_of s2 fun y hy => sm_leaf (.inr (.inl rfl)) (HBL.out y hy)
                    · exact sm_list_of s3 fun y hy => sm_flats (by simp) (HDL.out y hy)
                    · trivial
                case measure => simp [intOf]; omega
          · have hz := HB.out.trans (hE.to_below (by have := HS1.out; have := HE1.out.size; omega) (fun b hb => by have hb : b = w.heap.size + 1 := hb; omega) : Below w.heap.size W1 wr)
            have XS : Hid (0 <= lk -> Sm (.struc [.text y0, .list 2 40 wa wc wl, .list 2 32 ra rc rl, .struc [.int c0, .int c1, .int c2, .int c3], .list 5 72 ua uc ul, .list 2 40 ga gc gl, .list 2 40 pa pc pl, .int y7, .list 5 104 sa sc sl, .struc [.int s0, .int s1, .int s2, .int s3, .int s4, .int s5, .int s6, .int s7, .int s8, .int s9, .int s10, .list 1 1 qa qc ql, .list 1 16 ta tc tl]])) := fun h => by
              have h4 := HP4.out (by omega)
              have h3 := HP3.out h4.1
              have h2 := HP2.out h3.1
              have h1 := X1.out h2.1
              obtain ⟨e1, e2, e3, e4, e5⟩ := h3.2
              refine sm_struc.2 fun x hx => ?_
              simp only [List.mem_cons, List.not_mem_nil, or_false] at hx
              rcases hx with rfl | rfl | rfl | rfl | rfl | rfl | rfl | rfl | rfl | rfl
              · trivial
              · exact sm_list_of h1.1 h1.2
              · exact sm_list_of h2.2 fun y hy => sm_flats (by simp) (HRE.out y hy)
              · exact sm_struc.2 fun y hy => by
                  simp only [List.mem_cons, List.not_mem_nil, or_false] at hy
                  rcases hy with rfl | rfl | rfl | rfl <;> trivial
              · exact sm_list_of e1.1 e1.2
              · exact sm_list_of e2.1 e2.2
              · exact sm_list_of e3.1 e3.2
              · trivial
              · refine sm_list_of h4.2 fun y hy => ?_
                obtain ⟨k, hk⟩ := List.mem_iff_getElem?.1 hy
                exact hsm.out h k y (by have := (List.getElem?_eq_some_iff.1 hk).1; omega) hk
              · refine sm_struc.2 fun y hy => ?_
                simp only [List.mem_cons, List.not_mem_nil, or_false] at hy
                rcases hy with rfl | rfl | rfl | rfl | rfl | rfl | rfl | rfl | rfl | rfl | rfl | rfl | rfl
                all_goals first | trivial | exact sm_list_of e4 fun z hz => sm_leaf (.inr (.inl rfl)) (HQ.out z hz) | exact sm_list_of e5 fun z hz => sm_leaf (.inr (.inr rfl)) (HTL.out z hz)
            have HLD := hiq he
            have HZ := hiq hz
            clear hsm hE he hz
            rcases (show (lk < 0 /\ ¬ j2 < sl.length) \/ (lk < 0 /\ j2 < sl.length) \/ (0 <= lk /\ ¬ j2 < sl.length) by omega) with ⟨g1, g2⟩ | ⟨g1, g2⟩ | ⟨g1, g2⟩
            · clear hjn
              go_wp2
              go_ret
              exact ⟨true, rfl, (fun h => by cases h), HZ.out⟩
            · clear hjn
              go_wp2
              go_ret
              exact ⟨true, rfl, (fun h => by cases h), HZ.out⟩
            · first
                | (exfalso; omega)
                | have HM : Hid (Calls Tryz.prog 42 #[.agg #[.string y0, .slice wa wl.length wc, .slice ra rl.length rc, .int .i64 c0, .int .i64 c1, .int .i64 c2, .int .i64 c3, .slice ua ul.length uc, .slice ga gl.length gc, .slice pa pl.length pc, .int .i64 y7, .slice sa sl.length sc, .int .i64 s0, .int .i64 s1, .int .i64 s2, .int .i64 s3, .int .i64 s4, .int .i64 s5, .int .i64 s6, .int .i64 s7, .int .i64 s8, .int .i64 s9, .int .i64 s10, .slice qa ql.length qc, .slice ta tl.length tc]] wr (NewV (Dv.struc [.text y0, .list 2 40 wa wc wl, .list 2 32 ra rc rl, .struc [.int c0, .int c1, .int c2, .int c3], .list 5 72 ua uc ul, .list 2 40 ga gc gl, .list 2 40 pa pc pl, .int y7, .list 5 104 sa sc sl, .struc [.int s0, .int s1, .int s2, .int s3, .int s4, .int s5, .int s6, .int s7, .int s8, .int s9, .int s10, .list 1 1 qa qc ql, .list 1 16 ta tc tl]]).toV wr)) := write_of .edi false HT2.out (XS.out g1) (HR.out.below HZ.out) (fun b hb => Nat.lt_of_lt_of_le (HSL.out b hb) HZ.out.size)
                  have HSM := hiq (XS.out g1)
                  clear hjn XS
                  have HLV : Hid (LdV w.heap.size 40 (.agg #[.string y0, .slice wa wl.length wc, .slice ra rl.length rc, .int .i64 c0, .int .i64 c1, .int .i64 c2, .int .i64 c3, .slice ua ul.length uc, .slice ga gl.length gc, .slice pa pl.length pc, .int .i64 y7, .slice sa sl.length sc, .int .i64 s0, .int .i64 s1, .int .i64 s2, .int .i64 s3, .int .i64 s4, .int .i64 s5, .int .i64 s6, .int .i64 s7, .int .i64 s8, .int .i64 s9, .int .i64 s10, .slice qa ql.length qc, .slice ta tl.length tc]) wr) := LT.ld .edi rfl (cs := [.string y0, .slice wa wl.length wc, .slice ra rl.length rc, .int .i64 c0, .int .i64 c1, .int .i64 c2, .int .i64 c3, .slice ua ul.length uc, .slice ga gl.length gc, .slice pa pl.length pc, .int .i64 y7, .slice sa sl.length sc, .int .i64 s0, .int .i64 s1, .int .i64 s2, .int .i64 s3, .int .i64 s4, .int .i64 s5, .int .i64 s6, .int .i64 s7, .int .i64 s8, .int .i64 s9, .int .i64 s10, .slice qa ql.length qc, .slice ta tl.length tc]) rfl HLD.out
                  have g3 : decide (lk < 0) = false := decide_eq_false (by omega)
                  go_wp2_with (first | ((with_reducible refine wpList_ldG HLV.out _ rfl ?_ ?_ ?_); (simp [Region.wanted, yielded, g3]); rfl) | fail)
                  refine HM.out.mono ?_
                  rintro e U1 ⟨⟨k, nn, t, a, c, l⟩, rfl, -, hrv, hb2⟩
                  have HGV := hiq (great_any _ (.mk k nn t a c l) U1 hrv)
                  dsimp only [Vl.val, Vl.cells, Vl.kind, Vl.num, Vl.text, Vl.sl, Vl.addr, Vl.items, Vl.cap] at HGV ⊢
                  have HZ2 := hiq (HZ.out.trans (hb2.mono HZ.out.size))
                  clear hrv hb2 HM
                  go_wp2_with fail
                  refine HGV.out.mono ?_
                  rintro e U2 ⟨g, rfl, hb3⟩
                  have HZ3 := hiq (HZ2.out.trans (hb3.mono HZ2.out.size))
                  clear hb3 HGV
                  go_wp2
                  go_ret
                  exact ⟨_, rfl, fun _ => HSM.out, HZ3.out⟩
end Go.Proofs.YtlbcmeebcfalpaaGreatDoor
