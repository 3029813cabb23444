/- Joined: CEnc, CSamR, IPrn, CDec. -/
import Derived.Test.YtlbcmeebcfalpaaGreatDoorP19
import Derived.Test.YtlbcmeebcfalpaaGreatDoorP20
import Derived.Test.YtlbcmeebcfalpaaGreatDoorP18
import Derived.Laws.EntriesVeiled
import Derived.Test.YtlbcmeebcfalpaaGreatDoorP12
import Derived.Test.YtlbcmeebcfalpaaGreatDoorP04
import Derived.Test.YtlbcmeebcfalpaaGreatDoorP14
import Derived.Test.YtlbcmeebcfalpaaGreatDoorP05
set_option linter.unusedVariables false
set_option linter.unusedSimpArgs false
set_option maxRecDepth 100000
set_option maxHeartbeats 16000000
namespace Go.Proofs.YtlbcmeebcfalpaaGreatDoor
open Go.RowKit Go.Shelf

theorem check_any (S : Nat -> Prop) : ∀ (v : Vl) (w : World), Rd S w v ->
    Calls Tryz.prog 31 #[v.val] w fun e w' => e = .returned (.int .i64 (chkV v.er)) /\ Below w.heap.size w w'
  | .mk k nn t a c l, w, h => by
    have hB := boxed S w _ h
    have hBE := hB.below
    have hlt := hB.lt
    have F := size_any S _ _ hB.rd
    change Below _ w (w.alloc (.cells #[.int .i64 k, .int .i64 nn, .string t, .slice a l.length c] 24)) at hBE
    change w.heap.size <= (w.alloc (.cells #[.int .i64 k, .int .i64 nn, .string t, .slice a l.length c] 24)).heap.size at hlt
    have HF := hiq F
    dsimp only [Vl.val, Vl.cells, Vl.kind, Vl.num, Vl.text, Vl.sl, Vl.addr, Vl.items, Vl.cap] at HF
    clear F h hB
    change Calls _ _ #[.agg #[.int .i64 k, .int .i64 nn, .string t, .slice a l.length c]] _ _
    generalize chkV (Vl.mk k nn t a c l).er = C at *
    generalize sizV (Vl.mk k nn t a c l).er = Z at *
    go_enter Tryz.func31, Tryz.ntmps31
    go_wp2_with fail
    generalize w.alloc (.cells #[.int .i64 k, .int .i64 nn, .string t, .slice a l.length c] 24) = W1 at *
    refine HF.out.mono ?_
    rintro e W2 ⟨rfl, hb2⟩
    go_wp2
    go_ret
    exact ⟨rfl, hBE.trans (hb2.mono hlt)⟩
theorem encode_A (S : Nat -> Prop) : ∀ (v : Vl) (w : World), Rd S w v -> (∀ b, S b -> b < w.heap.size) -> Env w ->
    Calls Tryz.prog 94 #[v.val] w fun e w' => e = .returned (.tuple #[.string ⟨(encB v.er).toArray⟩, .int .i64 (encE v.er)]) /\ Below w.heap.size w w'
  | .mk k nn t a c l, w, h, hS, hE => by
    have hB := boxed S w _ h
    have hBE := hB.below
    have hlt := hB.lt
    have F := check_any S (Vl.mk k nn t a c l) _ hB.rd
    have hWR : Hid (GoodD 64 (Vl.mk k nn t a c l).er -> ∀ W B b bw, w.heap.size <= B -> bw ≠ b -> Rd S W (Vl.mk k nn t a c l) -> Bld B b (Lib.byteCells []) W -> B <= W.heap.size -> EnvB B W -> W.heap[bw]? = some (.cells #[wriFn b bw] 25 (0, 0)) -> _) := fun hg W B b bw hB' hne hr ho hz he hw =>
      write_any b bw B hne 64 S (Vl.mk k nn t a c l) W [] (Nat.le_refl _) hg hr (fun x hx => Nat.lt_of_lt_of_le (hS x hx) hB') ho (by simp) hz he hw
    have hE1 : EnvB w.heap.size _ := (EnvB.of hE).below hBE
    have hrd1 := h.below hBE
    change EnvB w.heap.size (w.alloc (.cells #[.int .i64 k, .int .i64 nn, .string t, .slice a l.length c] 24)) at hE1
    change Rd S (w.alloc (.cells #[.int .i64 k, .int .i64 nn, .string t, .slice a l.length c] 24)) _ at hrd1
    change Boxed S w (w.alloc (.cells #[.int .i64 k, .int .i64 nn, .string t, .slice a l.length c] 24)) _ _ at hB
    change Below _ w (w.alloc (.cells #[.int .i64 k, .int .i64 nn, .string t, .slice a l.length c] 24)) at hBE
    change w.heap.size <= (w.alloc (.cells #[.int .i64 k, .int .i64 nn, .string t, .slice a l.length c] 24)).heap.size at hlt
    have HF := hiq F
    dsimp only [Vl.val, Vl.cells, Vl.kind, Vl.num, Vl.text, Vl.sl, Vl.addr, Vl.items, Vl.cap] at HF hWR
    have hgood : Hid (chkV (Vl.mk k nn t a c l).er = 0 -> GoodD 64 (Vl.mk k nn t a c l).er) := chkV_good
    have hb0 : Hid (encB (Vl.mk k nn t a c l).er = if chkV (Vl.mk k nn t a c l).er = 0 /\ (encV (Vl.mk k nn t a c l).er).length <= 1048576 then encV (Vl.mk k nn t a c l).er else []) := rfl
    have he0 : Hid (encE (Vl.mk k nn t a c l).er = if chkV (Vl.mk k nn t a c l).er ≠ 0 then chkV (Vl.mk k nn t a c l).er else if 1048576 < (encV (Vl.mk k nn t a c l).er).length then 4 else 0) := rfl
    have HRD := hiq hrd1
    clear F h hS hE hrd1
    change Calls _ _ #[.agg #[.int .i64 k, .int .i64 nn, .string t, .slice a l.length c]] _ _
    generalize encB (Vl.mk k nn t a c l).er = RB at *
    generalize encE (Vl.mk k nn t a c l).er = RE at *
    generalize chkV (Vl.mk k nn t a c l).er = C at *
    by_cases hc : C = 0
    · subst hc
      have A2 := hiq (hWR.out (hgood.out rfl))
      generalize encV (Vl.mk k nn t a c l).er = EV at *
      clear hWR hgood
      go_enter Tryz.func94, Tryz.ntmps94
      go_wp2_with fail
      generalize w.alloc (.cells #[.int .i64 k, .int .i64 nn, .string t, .slice a l.length c] 24) = W1 at *
      refine HF.out.mono ?_
      rintro e W2 ⟨rfl, hb2⟩
      have hB2 := hB.later hb2
      obtain ⟨c1, c2, c3, c4⟩ := hB2.at_
      change W2.cell? ⟨w.heap.size, 0, none⟩ = some (.int .i64 k) at c1
      change W2.cell? ⟨w.heap.size, 1, none⟩ = some (.int .i64 nn) at c2
      change W2.cell? ⟨w.heap.size, 2, none⟩ = some (.string t) at c3
      change W2.cell? ⟨w.heap.size, 3, none⟩ = some (.slice a l.length c) at c4
      have hbw2 := hB2.below
      have hsw2 := hB2.lt
      have hrd2 := HRD.out.below hb2
      have hE2 := hE1.below (hb2.mono hlt)
      have hb3 : Below W2.heap.size W2 (W2.alloc (.cells #[.pointer none, .slice none 0 0] 265)) := (Below.refl _ _).alloc (Nat.le_refl _) _
      have hb4 : Below W2.heap.size W2 ((W2.alloc (.cells #[.pointer none, .slice none 0 0] 265)).alloc (.cells #[wriFn W2.heap.size (W2.heap.size + 1)] 25)) := hb3.alloc hb3.size _
      obtain ⟨d1, d2, d3, d4⟩ := (hB.later (hb2.trans (hb4.mono hb2.size))).at_
      change ((W2.alloc (.cells #[.pointer none, .slice none 0 0] 265)).alloc (.cells #[wriFn W2.heap.size (W2.heap.size + 1)] 25)).cell? ⟨w.heap.size, 0, none⟩ = some (.int .i64 k) at d1
      change ((W2.alloc (.cells #[.pointer none, .slice none 0 0] 265)).alloc (.cells #[wriFn W2.heap.size (W2.heap.size + 1)] 25)).cell? ⟨w.heap.size, 1, none⟩ = some (.int .i64 nn) at d2
      change ((W2.alloc (.cells #[.pointer none, .slice none 0 0] 265)).alloc (.cells #[wriFn W2.heap.size (W2.heap.size + 1)] 25)).cell? ⟨w.heap.size, 2, none⟩ = some (.string t) at d3
      change ((W2.alloc (.cells #[.pointer none, .slice none 0 0] 265)).alloc (.cells #[wriFn W2.heap.size (W2.heap.size + 1)] 25)).cell? ⟨w.heap.size, 3, none⟩ = some (.slice a l.length c) at d4
      have ho : Bld W2.heap.size W2.heap.size (Lib.byteCells []) ((W2.alloc (.cells #[.pointer none, .slice none 0 0] 265)).alloc (.cells #[wriFn W2.heap.size (W2.heap.size + 1)] 25)) := by
        refine .inl ⟨Nat.le_refl _, .slice none 0 0, ?_, World.ownsRow_nil _ _ _ _, by simp [Value.ownBlock]⟩
        rw [Below.heap_alloc _ _ _ (by simp)]; exact World.alloc_heap_new _ _
      have A3 := A2.out _ W2.heap.size W2.heap.size (W2.heap.size + 1) (hsw2) (by omega) (hrd2.below hb4) ho hb4.size ((EnvB.mono (B' := W2.heap.size) hE2 (hsw2)).below hb4) (by rw [show W2.heap.size + 1 = (W2.alloc (.cells #[.pointer none, .slice none 0 0] 265)).heap.size by simp]; exact World.alloc_heap_new _ _)
      have HA3 := hiq A3
      clear A2 A3 hb2 hB2 hB HF hBE hlt
      go_wp2_with fail
      have hsW4 := hb4.size
      generalize ((W2.alloc (.cells #[.pointer none, .slice none 0 0] 265)).alloc (.cells #[wriFn W2.heap.size (W2.heap.size + 1)] 25)) = W4 at *
      refine HA3.out.mono ?_
      rintro e W5 ⟨ok, r, rfl, o5, b5, k5, h5, h6⟩
      have hbT := hbw2.trans ((hb4.mono hsw2).trans (b5.mono hsw2))
      by_cases hM : EV.length <= 1048576
      · obtain ⟨rfl, hr5⟩ := h5 (by simpa using hM)
        have R1 : Hid (RB = r /\ RE = 0) := ⟨by rw [hb0.out, hr5]; simp [hM], by rw [he0.out]; simp; omega⟩
        have ST := Tryz.Builder_String_any W2.heap.size W2.heap.size r W5 o5 (Nat.le_trans hsW4 k5.1)
        have HST := hiq ST
        clear ST h5 h6 hr5 hM HA3
        go_wp2_with (go_at_call 201; refine HST.out.mono ?_; rintro e w6 ⟨rfl, b6⟩)
        go_ret2
        exact ⟨by rw [R1.out.1, R1.out.2]; rfl, hbT.trans (b6.mono hsw2)⟩
      · obtain rfl := h6 (by simp; omega)
        have R1 : Hid (RB = [] /\ RE = 4) := ⟨by rw [hb0.out]; simp [hM], by rw [he0.out]; simp; omega⟩
        clear h5 h6 hM HA3
        go_wp2
        go_ret2
        exact ⟨by rw [R1.out.1, R1.out.2]; rfl, hbT⟩
    · have R1 : Hid (RB = [] /\ RE = C) := ⟨by rw [hb0.out, if_neg (fun h => hc h.1)], by rw [he0.out, if_pos hc]⟩
      have dc : ((C : Int) != 0) = true := by simp [hc]
      clear hWR hgood hc hb0 he0
      go_enter Tryz.func94, Tryz.ntmps94
      go_wp2_with fail
      generalize w.alloc (.cells #[.int .i64 k, .int .i64 nn, .string t, .slice a l.length c] 24) = W1 at *
      refine HF.out.mono ?_
      rintro e W2 ⟨rfl, hb2⟩
      go_wp2
      go_ret2
      exact ⟨by rw [R1.out.1, R1.out.2]; rfl, hBE.trans (hb2.mono hlt)⟩
end Go.Proofs.YtlbcmeebcfalpaaGreatDoor
namespace Go.Proofs.YtlbcmeebcfalpaaGreatDoor
open Go.RowKit
theorem same_ref (S S' : Nat -> Prop) (a : Vl) : ∀ (b : Vl) (w : World), Rd S w a -> Rd S' w b ->
    Calls Tryz.prog 22 #[a.val, b.val] w fun e w' => e = .returned (.bool (sameV a.er b.er)) /\ Below w.heap.size w w' := by
  induction a using Vl.ind with
  | h a ih =>
    intro b w ha hb
    obtain ⟨k, nn, t, a, c, l⟩ := a
    obtain ⟨k', nn', t', a', c', l'⟩ := b
    change ∀ u ∈ l, _ at ih
    have IH := hiq ih
    have hb1 : Below w.heap.size w (w.alloc (.cells #[.int .i64 k, .int .i64 nn, .string t, .slice a l.length c] 24)) := (Below.refl _ _).alloc (Nat.le_refl _) _
    have hB2 : Below (w.alloc (.cells #[.int .i64 k, .int .i64 nn, .string t, .slice a l.length c] 24)).heap.size (w.alloc (.cells #[.int .i64 k, .int .i64 nn, .string t, .slice a l.length c] 24)) ((w.alloc (.cells #[.int .i64 k, .int .i64 nn, .string t, .slice a l.length c] 24)).alloc (.cells #[.int .i64 k', .int .i64 nn', .string t', .slice a' l'.length c'] 24)) := (Below.refl _ _).alloc (Nat.le_refl _) _
    have hb2 : Below w.heap.size w ((w.alloc (.cells #[.int .i64 k, .int .i64 nn, .string t, .slice a l.length c] 24)).alloc (.cells #[.int .i64 k', .int .i64 nn', .string t', .slice a' l'.length c'] 24)) := hb1.alloc hb1.size _
    have hBa : Boxed S w ((w.alloc (.cells #[.int .i64 k, .int .i64 nn, .string t, .slice a l.length c] 24)).alloc (.cells #[.int .i64 k', .int .i64 nn', .string t', .slice a' l'.length c'] 24)) w.heap.size (.mk k nn t a c l) := (boxed S w _ ha).later hB2
    have hBb0 : Boxed S' (w.alloc (.cells #[.int .i64 k, .int .i64 nn, .string t, .slice a l.length c] 24)) ((w.alloc (.cells #[.int .i64 k, .int .i64 nn, .string t, .slice a l.length c] 24)).alloc (.cells #[.int .i64 k', .int .i64 nn', .string t', .slice a' l'.length c'] 24)) (w.alloc (.cells #[.int .i64 k, .int .i64 nn, .string t, .slice a l.length c] 24)).heap.size (.mk k' nn' t' a' c' l') := boxed S' (w.alloc (.cells #[.int .i64 k, .int .i64 nn, .string t, .slice a l.length c] 24)) _ (hb.below hb1)
    have hsz1 : (w.alloc (.cells #[.int .i64 k, .int .i64 nn, .string t, .slice a l.length c] 24)).heap.size = w.heap.size + 1 := by simp
    rw [hsz1] at hBb0
    have hBv := hBb0.at_
    have hBr := hBb0.rd
    have hVa := hBa.rd.vals
    have hVb := hBr.vals
    have hPa := hBa.at_.2.2.2
    have hPb := hBv.2.2.2
    change Vals S _ a l.length c l at hVa
    change Vals S' _ a' l'.length c' l' at hVb
    change World.cell? _ ⟨w.heap.size, 3, none⟩ = some (.slice a l.length c) at hPa
    rw [Nat.zero_add] at hPb
    change World.cell? _ ⟨w.heap.size + 1, 3, none⟩ = some (.slice a' l'.length c') at hPb
    clear hBb0 hBv hBr hBa hsz1
    have hE : Hid (sameV (Vl.mk k nn t a c l).er (Vl.mk k' nn' t' a' c' l').er = (decide (k = k') && (decide (nn = nn') && (decide (t = t') && sameL (l.map Vl.er) (l'.map Vl.er))))) := by
      show _ = _; rw [Vl.er, Vl.er, sameV, Vl.erL_map, Vl.erL_map]
    have hL := (rd_iff.1 ha).2.2.2.2.2.1
    have hL' := (rd_iff.1 hb).2.2.2.2.2.1
    change l.length * 56 <= _ at hL
    change l'.length * 56 <= _ at hL'
    change Calls _ _ #[.agg #[.int .i64 k, .int .i64 nn, .string t, .slice a l.length c], .agg #[.int .i64 k', .int .i64 nn', .string t', .slice a' l'.length c']] _ _
    generalize sameV (Vl.mk k nn t a c l).er (Vl.mk k' nn' t' a' c' l').er = R at *
    clear ih ha hb hb1 hB2
    by_cases h1 : k = k'
    · subst h1
      have d1 : ((k : Int) != k) = false := by simp
      by_cases h2 : nn = nn'
      · subst h2
        have d2 : ((nn : Int) != nn) = false := by simp
        by_cases h3 : t = t'
        · subst h3
          have HX : Hid (R = sameL (l.map Vl.er) (l'.map Vl.er)) := by show _ = _; rw [hE.out]; simp
          clear hE
          by_cases h4 : l.length = l'.length
          · have d4 : ((l.length : Int) != l'.length) = false := by simp [h4]
            have HLEN := hiq h4
            generalize hM : l'.length = ML at *
            have HM := hiq hM
            generalize hN : l.length = NL at *
            have HN := hiq hN
            clear hM hN h4
            go_enter Tryz.func22, Tryz.ntmps22
            go_wp2
            generalize (w.alloc (.cells #[.int .i64 k, .int .i64 nn, .string t, .slice a NL c] 24)).alloc (.cells #[.int .i64 k, .int .i64 nn, .string t, .slice a' ML c'] 24) = W1 at *
            have hE0 : Hid (R = sameL ((l.map Vl.er).drop 0) ((l'.map Vl.er).drop 0)) := HX.out
            clear HX
            go_loopw [5] (fun i wr => ∃ (j : Nat), i = .int .i64 j /\ j <= NL /\ Hid (R = sameL ((l.map Vl.er).drop j) ((l'.map Vl.er).drop j)) /\ Below W1.heap.size W1 wr) (fun i _ => NL - (intOf i).toNat)
            case atStart => exact ⟨0, rfl, Nat.zero_le _, hE0.out, Below.refl _ _⟩
            case round =>
              obtain ⟨j, rfl, hj, hx, hb⟩ := hrel
              have hpa := clq hb hPa
              have hpb := clq hb hPb
              by_cases hlj : j < NL
              · obtain ⟨u, bb, off, hu, hmem, rfl, -, hbl, ⟨c1, c2, c3, c4⟩, hru⟩ := (hVa.below hb).get hlj
                have hlj' : j < ML := by have := HLEN.out; omega
                obtain ⟨v, bb', off', hv, -, rfl, -, hbl', ⟨d1', d2', d3', d4'⟩, hrv⟩ := (hVb.below hb).get hlj'
                have hst := sameL_take hu hv
                rw [<- hx.out] at hst
                have F : ∀ q, _ := fun q => IH.out u hmem v (wr.drewN q) (hru.below (below_drewN (Below.refl _ _) q)) (hrv.below (below_drewN (Below.refl _ _) q))
                generalize hG : sameV u.er v.er = G at *
                clear hG
                have HST := hiq hst
                obtain ⟨uk, un, ut, ua, uc, ul⟩ := u
                obtain ⟨vk, vn, vt, va, vc, vl⟩ := v
                dsimp only [Vl.val, Vl.cells, Vl.kind, Vl.num, Vl.text, Vl.sl, Vl.addr, Vl.items, Vl.cap] at c1 c2 c3 c4 d1' d2' d3' d4' F
                have HF := hiq F
                have sj : ((j : Int)).toNat = j := Int.toNat_natCast j
                have n1 : (0 : Int) <= (j : Int) := by omega
                have n2 : (j : Int) < (NL : Int) := by omega
                have n3 : (j : Int) < (ML : Int) := by omega
                clear F hst hx hru hrv hu hv hmem
                go_wp2
                refine wp_region_head_drew 10 (by kernel_rfl) (by kernel_rfl) ?_
                simp only [List.take_succ_cons, List.take_zero, List.drop_succ_cons, List.drop_zero]
                repeat (quiet_step (fail))
                refine wpQuiet_nil ?_
                intro _ hw'
                obtain ⟨nq, rfl⟩ := hw'
                have hbq : Below W1.heap.size W1 (wr.drewN nq) := below_drewN hb nq
                have hsq : (wr.drewN nq).heap.size = wr.heap.size := rfl
                cases G with
                | true =>
                  have HST2 : Hid (R = sameL ((l.map Vl.er).drop (j + 1)) ((l'.map Vl.er).drop (j + 1))) := by show _ = _; rw [HST.out]; rfl
                  clear HST
                  go_wp2_with (go_at_call 22; refine (HF.out nq).mono ?_; rintro e w' ⟨rfl, hb'⟩)
                  go_roundw
                  case rel => exact ⟨j + 1, by go_num, by omega, HST2.out, hbq.trans (hb'.mono hbq.size)⟩
                  case measure => simp [intOf]; omega
                | false =>
                  have HST2 : Hid (R = false) := by show _ = _; rw [HST.out]; rfl
                  clear HST
                  go_wp2_with (go_at_call 22; refine (HF.out nq).mono ?_; rintro e w' ⟨rfl, hb'⟩)
                  go_ret
                  exact ⟨by rw [HST2.out]; rfl, hb2.trans ((hbq.trans (hb'.mono hbq.size)).mono hb2.size)⟩
              · obtain rfl : j = NL := by omega
                have HST2 : Hid (R = true) := by show _ = _; rw [hx.out]; exact sameL_end (by rw [HN.out]; exact Nat.le_refl _) (by rw [HM.out, HLEN.out]; exact Nat.le_refl _)
                go_wp2
                go_ret
                exact ⟨by rw [HST2.out]; rfl, hb2.trans (hb.mono hb2.size)⟩
          · have d4 : ((l.length : Int) != l'.length) = true := by simp; omega
            have HX2 : Hid (R = false) := by show _ = _; rw [HX.out]; exact sameL_len (by simpa using h4)
            clear HX h4
            go_enter Tryz.func22, Tryz.ntmps22
            go_wp2
            go_ret
            exact ⟨by rw [HX2.out]; rfl, hb2⟩
        · have HX : Hid (R = false) := by show _ = _; rw [hE.out]; simp [h3]
          clear hE
          have d3 : (t.toList == t'.toList) = false := by
            rw [beq_eq_false_iff_ne, ByteArray.toList_eq, ByteArray.toList_eq]
            intro h; apply h3; cases t; cases t'; simp at h; rw [ByteArray.mk.injEq]; exact h
          go_enter Tryz.func22, Tryz.ntmps22
          go_wp2
          go_ret
          exact ⟨by rw [HX.out]; rfl, hb2⟩
      · have HX : Hid (R = false) := by show _ = _; rw [hE.out]; simp [h2]
        have d2 : ((nn : Int) != nn') = true := by simp [h2]
        clear hE
        go_enter Tryz.func22, Tryz.ntmps22
        go_wp2
        go_ret
        exact ⟨by rw [HX.out]; rfl, hb2⟩
    · have HX : Hid (R = false) := by show _ = _; rw [hE.out]; simp [h1]
      have d1 : ((k : Int) != k') = true := by simp [h1]
      clear hE
      go_enter Tryz.func22, Tryz.ntmps22
      go_wp2
      go_ret
      exact ⟨by rw [HX.out]; rfl, hb2⟩
end Go.Proofs.YtlbcmeebcfalpaaGreatDoor
namespace Go.Proofs.YtlbcmeebcfalpaaGreatDoor
open Go.RowKit

/-- What printing answers. -/
def prtE (x : V) : Int := if encE x = 0 then 0 else 4
theorem encB_err {x : V} (h : encE x ≠ 0) : encB x = [] := by
  unfold encE at h
  unfold encB
  split
  · rename_i h2
    rw [if_neg (by simp [h2.1]), if_neg (by omega)] at h
    exact absurd rfl h
  · rfl
def PrtP (x : V) (w : World) (e : Ending) (w' : World) : Prop := e = .returned (.tuple #[.string ⟨(encB x).toArray⟩, .int .i64 (prtE x)]) /\ Below w.heap.size w w'
theorem encode_any (S : Nat -> Prop) : ∀ (v : Vl) (w : World), Rd S w v -> (∀ b, S b -> b < w.heap.size) -> Env w -> Calls Tryz.prog 37 #[v.val] w (PrtP v.er w)
  | .mk k nn t a c l, w, h, hS, hE => by
    have hB := boxed S w _ h
    have hb1 := hB.below
    have HM := hiq (encode_A S (.mk k nn t a c l) _ hB.rd (fun b hb => Nat.lt_of_lt_of_le (hS b hb) hb1.size) (hE.below hb1))
    change Below _ w (w.alloc (.cells #[.int .i64 k, .int .i64 nn, .string t, .slice a l.length c] 24)) at hb1
    dsimp only [Vl.val, Vl.cells, Vl.kind, Vl.num, Vl.text, Vl.sl, Vl.addr, Vl.items, Vl.cap] at HM
    have HEB := hiq (@encB_err (Vl.mk k nn t a c l).er)
    have HPE : Hid (prtE (Vl.mk k nn t a c l).er = if encE (Vl.mk k nn t a c l).er = 0 then 0 else 4) := rfl
    have HB := hiq hb1
    clear h hS hE hB hb1
    change Calls _ _ #[.agg #[.int .i64 k, .int .i64 nn, .string t, .slice a l.length c]] _ _
    unfold PrtP
    generalize encB (Vl.mk k nn t a c l).er = RB at *
    generalize encE (Vl.mk k nn t a c l).er = RE at *
    generalize prtE (Vl.mk k nn t a c l).er = PE at *
    go_enter Tryz.func37, Tryz.ntmps37
    go_wp2_with fail
    refine HM.out.mono ?_
    generalize w.alloc (.cells #[.int .i64 k, .int .i64 nn, .string t, .slice a l.length c] 24) = W1 at *
    rintro e W2 ⟨rfl, hb2⟩
    have HBW := hiq (HB.out.trans (hb2.mono HB.out.size))
    clear hb2
    by_cases h0 : RE = 0
    · subst h0
      have e1 : PE = 0 := by rw [HPE.out]; rfl
      subst e1
      go_wp2
      exact bodyPost_ret (results_tmp2 rfl _ _ _) rfl ⟨rfl, HBW.out⟩
    · have e1 : PE = 4 := by rw [HPE.out, if_neg h0]
      have e2 : RB = [] := HEB.out h0
      subst e1
      subst e2
      have h1 : (RE != 0) = true := by simp [h0]
      clear h0
      go_wp2
      exact bodyPost_ret (results_tmp2 rfl _ _ _) rfl ⟨rfl, HBW.out⟩
theorem ldv_new (T : LT) (hW : T.isW = true) {d : Dv} (hT : Has T.ty d) (w : World) : LdV w.heap.size T.tid (.agg d.cells.toArray) (w.alloc (.cells d.cells.toArray T.tid)) := T.ld hW (T.len hT).1 (World.alloc_heap_new w _)
theorem print_any {d : Dv} (hT : Has (LT.ty .edi) d) (hm : Sm d) {S : Nat -> Prop} {w : World} (hr : RdD S w d) (hS : ∀ b, S b -> b < w.heap.size) (hE : Env w) : Calls Tryz.prog 16 #[d.val] w (PrtP d.toV w) := by
  have hv := (LT.len .edi hT).2.2.2 rfl
  have hl := ldv_new .edi rfl hT w
  have hb1 : Below w.heap.size w (w.alloc (.cells d.cells.toArray (LT.tid .edi))) := (Below.refl _ _).alloc (Nat.le_refl _) _
  have HW := write_of .edi true hT hm (hr.below hb1) (fun b hb => Nat.lt_of_lt_of_le (hS b hb) hb1.size)
  rw [hv] at HW ⊢
  generalize d.cells.toArray = A at *
  have HM := hiq HW
  have HLD := hiq hl
  have HB := hiq hb1
  have HE := hiq hE
  clear HW hl hb1 hE hm hr hS hT hv
  dsimp only [LT.tid, LT.wf] at HM HLD HB
  go_enter Tryz.func16, Tryz.ntmps16
  go_wp2_with (first | ((with_reducible refine wpList_ldL HLD.out rfl _ rfl ?_ ?_); rfl) | fail)
  refine HM.out.mono ?_
  generalize World.alloc _ _ = W1 at *
  rintro e W2 ⟨⟨k, nn, t, a, c, l⟩, he, hx, hrd, hb2⟩
  change e = .returned (.agg #[.int .i64 k, .int .i64 nn, .string t, .slice a l.length c]) at he
  subst he
  have HBW := hiq (HB.out.trans (hb2.mono HB.out.size))
  have HQ := hiq (encode_any (fun b => W1.heap.size <= b /\ b < W2.heap.size) (.mk k nn t a c l) W2 (hrd.mono fun b h1 h2 => ⟨h1, h2⟩) (fun b hb => hb.2) (HE.out.below HBW.out))
  rw [hx] at HQ
  dsimp only [Vl.val, Vl.cells, Vl.kind, Vl.num, Vl.text, Vl.sl, Vl.addr, Vl.items, Vl.cap] at HQ
  clear hrd hb2 HM hx
  go_wp2_with fail
  refine HQ.out.mono ?_
  rintro e W3 ⟨rfl, hb3⟩
  have HBZ := hiq (HBW.out.trans (hb3.mono HBW.out.size))
  clear hb3
  go_wp2
  exact bodyPost_ret (results_tmp2 rfl _ _ _) rfl ⟨rfl, HBZ.out⟩
theorem print_ref {d : Dv} (hT : Has (LT.ty .edi) d) (hm : Sm d) {S : Nat -> Prop} {w : World} (hr : RdD S w d) (hS : ∀ b, S b -> b < w.heap.size) (hE : Env w) : Calls Tryz.prog 19 #[d.val] w (PrtP d.toV w) := by
  have hv := (LT.len .edi hT).2.2.2 rfl
  have hl := ldv_new .edi rfl hT w
  have hb1 : Below w.heap.size w (w.alloc (.cells d.cells.toArray (LT.tid .edi))) := (Below.refl _ _).alloc (Nat.le_refl _) _
  have HW := write_of .edi false hT hm (hr.below hb1) (fun b hb => Nat.lt_of_lt_of_le (hS b hb) hb1.size)
  rw [hv] at HW ⊢
  generalize d.cells.toArray = A at *
  have HM := hiq HW
  have HLD := hiq hl
  have HB := hiq hb1
  have HE := hiq hE
  clear HW hl hb1 hE hm hr hS hT hv
  dsimp only [LT.tid, LT.wf] at HM HLD HB
  have HEB := hiq (@encB_err d.toV)
  have HPE : Hid (prtE d.toV = if encE d.toV = 0 then 0 else 4) := rfl
  unfold PrtP
  obtain ⟨RB, hRB⟩ : ∃ RB, RB = encB d.toV := ⟨_, rfl⟩
  obtain ⟨RE, hRE⟩ : ∃ RE, RE = encE d.toV := ⟨_, rfl⟩
  obtain ⟨PE, hPE⟩ : ∃ PE, PE = prtE d.toV := ⟨_, rfl⟩
  rw [<- hRB, <- hPE]
  rw [<- hRB, <- hRE] at HEB
  rw [<- hPE, <- hRE] at HPE
  have HRB := hiq hRB
  have HRE := hiq hRE
  clear hRB hRE hPE
  go_enter Tryz.func19, Tryz.ntmps19
  go_wp2_with (first | ((with_reducible refine wpList_ldL HLD.out rfl _ rfl ?_ ?_); rfl) | fail)
  refine HM.out.mono ?_
  generalize World.alloc _ _ = W1 at *
  rintro e W2 ⟨⟨k, nn, t, a, c, l⟩, he, hx, hrd, hb2⟩
  change e = .returned (.agg #[.int .i64 k, .int .i64 nn, .string t, .slice a l.length c]) at he
  subst he
  have HBW := hiq (HB.out.trans (hb2.mono HB.out.size))
  have HQ := hiq (encode_R (fun b => W1.heap.size <= b /\ b < W2.heap.size) (.mk k nn t a c l) W2 (hrd.mono fun b h1 h2 => ⟨h1, h2⟩) (fun b hb => hb.2) (HE.out.below HBW.out))
  rw [hx] at HQ
  dsimp only [Vl.val, Vl.cells, Vl.kind, Vl.num, Vl.text, Vl.sl, Vl.addr, Vl.items, Vl.cap] at HQ
  rw [<- HRB.out, <- HRE.out] at HQ
  clear hrd hb2 HM hx
  go_wp2_with fail
  refine HQ.out.mono ?_
  rintro e W3 ⟨rfl, hb3⟩
  have HBZ := hiq (HBW.out.trans (hb3.mono HBW.out.size))
  clear hb3 HQ
  by_cases h0 : RE = 0
  · subst h0
    have e1 : PE = 0 := by rw [HPE.out]; rfl
    subst e1
    go_wp2
    exact bodyPost_ret (results_tmp2 rfl _ _ _) rfl ⟨rfl, HBZ.out⟩
  · have e1 : PE = 4 := by rw [HPE.out, if_neg h0]
    have e2 : RB = [] := HEB.out h0
    subst e1
    subst e2
    have h1 : (RE != 0) = true := by simp [h0]
    clear h0
    go_wp2
    exact bodyPost_ret (results_tmp2 rfl _ _ _) rfl ⟨rfl, HBZ.out⟩
theorem part_any {d : Dv} (hT : Has (LT.ty .inp) d) (hm : Sm d) {S : Nat -> Prop} {w : World} (hr : RdD S w d) (hS : ∀ b, S b -> b < w.heap.size) (hE : Env w) : Calls Tryz.prog 24 #[d.val] w (PrtP d.toV w) := by
  have hv := (LT.len .inp hT).2.2.2 rfl
  have hl := ldv_new .inp rfl hT w
  have hb1 : Below w.heap.size w (w.alloc (.cells d.cells.toArray (LT.tid .inp))) := (Below.refl _ _).alloc (Nat.le_refl _) _
  have HW := write_of .inp true hT hm (hr.below hb1) (fun b hb => Nat.lt_of_lt_of_le (hS b hb) hb1.size)
  rw [hv] at HW ⊢
  generalize d.cells.toArray = A at *
  have HM := hiq HW
  have HLD := hiq hl
  have HB := hiq hb1
  have HE := hiq hE
  clear HW hl hb1 hE hm hr hS hT hv
  dsimp only [LT.tid, LT.wf] at HM HLD HB
  go_enter Tryz.func24, Tryz.ntmps24
  go_wp2_with (first | ((with_reducible refine wpList_ldL HLD.out rfl _ rfl ?_ ?_); rfl) | fail)
  refine HM.out.mono ?_
  generalize World.alloc _ _ = W1 at *
  rintro e W2 ⟨⟨k, nn, t, a, c, l⟩, he, hx, hrd, hb2⟩
  change e = .returned (.agg #[.int .i64 k, .int .i64 nn, .string t, .slice a l.length c]) at he
  subst he
  have HBW := hiq (HB.out.trans (hb2.mono HB.out.size))
  have HQ := hiq (encode_any (fun b => W1.heap.size <= b /\ b < W2.heap.size) (.mk k nn t a c l) W2 (hrd.mono fun b h1 h2 => ⟨h1, h2⟩) (fun b hb => hb.2) (HE.out.below HBW.out))
  rw [hx] at HQ
  dsimp only [Vl.val, Vl.cells, Vl.kind, Vl.num, Vl.text, Vl.sl, Vl.addr, Vl.items, Vl.cap] at HQ
  clear hrd hb2 HM hx
  go_wp2_with fail
  refine HQ.out.mono ?_
  rintro e W3 ⟨rfl, hb3⟩
  have HBZ := hiq (HBW.out.trans (hb3.mono HBW.out.size))
  clear hb3
  go_wp2
  exact bodyPost_ret (results_tmp2 rfl _ _ _) rfl ⟨rfl, HBZ.out⟩
theorem part_ref {d : Dv} (hT : Has (LT.ty .inp) d) (hm : Sm d) {S : Nat -> Prop} {w : World} (hr : RdD S w d) (hS : ∀ b, S b -> b < w.heap.size) (hE : Env w) : Calls Tryz.prog 25 #[d.val] w (PrtP d.toV w) := by
  have hv := (LT.len .inp hT).2.2.2 rfl
  have hl := ldv_new .inp rfl hT w
  have hb1 : Below w.heap.size w (w.alloc (.cells d.cells.toArray (LT.tid .inp))) := (Below.refl _ _).alloc (Nat.le_refl _) _
  have HW := write_of .inp false hT hm (hr.below hb1) (fun b hb => Nat.lt_of_lt_of_le (hS b hb) hb1.size)
  rw [hv] at HW ⊢
  generalize d.cells.toArray = A at *
  have HM := hiq HW
  have HLD := hiq hl
  have HB := hiq hb1
  have HE := hiq hE
  clear HW hl hb1 hE hm hr hS hT hv
  dsimp only [LT.tid, LT.wf] at HM HLD HB
  have HEB := hiq (@encB_err d.toV)
  have HPE : Hid (prtE d.toV = if encE d.toV = 0 then 0 else 4) := rfl
  unfold PrtP
  obtain ⟨RB, hRB⟩ : ∃ RB, RB = encB d.toV := ⟨_, rfl⟩
  obtain ⟨RE, hRE⟩ : ∃ RE, RE = encE d.toV := ⟨_, rfl⟩
  obtain ⟨PE, hPE⟩ : ∃ PE, PE = prtE d.toV := ⟨_, rfl⟩
  rw [<- hRB, <- hPE]
  rw [<- hRB, <- hRE] at HEB
  rw [<- hPE, <- hRE] at HPE
  have HRB := hiq hRB
  have HRE := hiq hRE
  clear hRB hRE hPE
  go_enter Tryz.func25, Tryz.ntmps25
  go_wp2_with (first | ((with_reducible refine wpList_ldL HLD.out rfl _ rfl ?_ ?_); rfl) | fail)
  refine HM.out.mono ?_
  generalize World.alloc _ _ = W1 at *
  rintro e W2 ⟨⟨k, nn, t, a, c, l⟩, he, hx, hrd, hb2⟩
  change e = .returned (.agg #[.int .i64 k, .int .i64 nn, .string t, .slice a l.length c]) at he
  subst he
  have HBW := hiq (HB.out.trans (hb2.mono HB.out.size))
  have HQ := hiq (encode_R (fun b => W1.heap.size <= b /\ b < W2.heap.size) (.mk k nn t a c l) W2 (hrd.mono fun b h1 h2 => ⟨h1, h2⟩) (fun b hb => hb.2) (HE.out.below HBW.out))
  rw [hx] at HQ
  dsimp only [Vl.val, Vl.cells, Vl.kind, Vl.num, Vl.text, Vl.sl, Vl.addr, Vl.items, Vl.cap] at HQ
  rw [<- HRB.out, <- HRE.out] at HQ
  clear hrd hb2 HM hx
  go_wp2_with fail
  refine HQ.out.mono ?_
  rintro e W3 ⟨rfl, hb3⟩
  have HBZ := hiq (HBW.out.trans (hb3.mono HBW.out.size))
  clear hb3 HQ
  by_cases h0 : RE = 0
  · subst h0
    have e1 : PE = 0 := by rw [HPE.out]; rfl
    subst e1
    go_wp2
    exact bodyPost_ret (results_tmp2 rfl _ _ _) rfl ⟨rfl, HBZ.out⟩
  · have e1 : PE = 4 := by rw [HPE.out, if_neg h0]
    have e2 : RB = [] := HEB.out h0
    subst e1
    subst e2
    have h1 : (RE != 0) = true := by simp [h0]
    clear h0
    go_wp2
    exact bodyPost_ret (results_tmp2 rfl _ _ _) rfl ⟨rfl, HBZ.out⟩
end Go.Proofs.YtlbcmeebcfalpaaGreatDoor
namespace Go.Proofs.YtlbcmeebcfalpaaGreatDoor

/-- One item at the head of a string, onto the list on top. -/
def leafStep (top : List V) (below : List (List V)) (s : List UInt8) : Option (V × List UInt8) ⊕ (List V × List (List V) × List UInt8) :=
  match scalP s with
  | none => .inl none
  | some p => .inr (top ++ [p.1], below, p.2)
/-- One step of the reading; below: the lists below the top one, the innermost first. -/
def decStep (top : List V) (below : List (List V)) (s : List UInt8) : Option (V × List UInt8) ⊕ (List V × List (List V) × List UInt8) :=
  match below, top, s with
  | [], [x], s => .inl (some (x, s))
  | below, top, [] => leafStep top below []
  | below, top, c :: r =>
    if c = 108 then .inr ([], top :: below, r)
    else if c = 101 then
      match below with
      | [] => leafStep top [] (c :: r)
      | b :: bs => .inr (b ++ [.mk 3 0 ⟨#[]⟩ top], bs, r)
    else leafStep top below (c :: r)
def decS : Nat -> List V -> List (List V) -> List UInt8 -> Option (V × List UInt8)
  | 0, _, _, _ => none
  | f + 1, top, below, s =>
    match decStep top below s with
    | .inl x => x
    | .inr y => decS f y.1 y.2.1 y.2.2
theorem scalP_lt {s r : List UInt8} {v : V} (h : scalP s = some (v, r)) : r.length < s.length := by
  cases s with
  | nil => cases h
  | cons c s =>
    rw [scalP] at h
    split at h
    · cases hn : numP 59 s with
      | none => rw [hn] at h; cases h
      | some p =>
        rw [hn] at h
        obtain ⟨n, r'⟩ := p
        cases h
        obtain ⟨_, rfl⟩ := (numP_iff 59 (by decide) _ _ _).1 hn
        simp; omega
    · split at h
      · cases hn : numP 58 s with
        | none => rw [hn] at h; cases h
        | some p =>
          rw [hn] at h
          obtain ⟨n, r'⟩ := p
          simp only [] at h
          split at h
          · cases h
          · cases h
            obtain ⟨_, rfl⟩ := (numP_iff 58 (by decide) _ _ _).1 hn
            simp; omega
      · cases h
theorem leafStep_lt {top : List V} {below : List (List V)} {s : List UInt8} {y : List V × List (List V) × List UInt8} (h : leafStep top below s = .inr y) : y.2.2.length < s.length := by
  unfold leafStep at h
  cases hp : scalP s with
  | none => rw [hp] at h; cases h
  | some p => rw [hp] at h; cases h; exact scalP_lt hp
theorem decStep_lt {top : List V} {below : List (List V)} {s : List UInt8} {y : List V × List (List V) × List UInt8} (h : decStep top below s = .inr y) : y.2.2.length < s.length := by
  unfold decStep at h
  split at h
  · cases h
  · exact leafStep_lt h
  · split at h
    · cases h; simp
    · split at h
      · split at h
        · exact leafStep_lt h
        · cases h; simp
      · exact leafStep_lt h
theorem decS_more : ∀ (f : Nat) (top : List V) (below : List (List V)) (s : List UInt8), s.length < f -> decS (f + 1) top below s = decS f top below s
  | 0, _, _, _, h => absurd h (Nat.not_lt_zero _)
  | f + 1, top, below, s, h => by
    rw [decS, decS]
    cases hs : decStep top below s with
    | inl x => rfl
    | inr y =>
      simp only []
      exact decS_more f _ _ _ (by have := decStep_lt hs; omega)
theorem decS_enough {f : Nat} {top : List V} {below : List (List V)} {s : List UInt8} (h : s.length < f) : decS f top below s = decS (s.length + 1) top below s := by
  induction f with
  | zero => omega
  | succ f ih =>
    rcases Nat.lt_or_ge s.length f with e | e
    · rw [decS_more f _ _ _ e, ih e]
    · rw [show f = s.length by omega]
/-- The reading, from a state. -/
def decR (top : List V) (below : List (List V)) (s : List UInt8) : Option (V × List UInt8) := decS (s.length + 1) top below s
theorem decR_step (top : List V) (below : List (List V)) (s : List UInt8) : decR top below s = match decStep top below s with | .inl x => x | .inr y => decR y.1 y.2.1 y.2.2 := by
  rw [decR, decS]
  cases hs : decStep top below s with
  | inl x => rfl
  | inr y =>
    simp only []
    exact decS_enough (decStep_lt hs)
def zeroV : V := .mk 0 0 ⟨#[]⟩ []
/-- What Decode answers. -/
def decode (s : List UInt8) : V × Int :=
  if 1048576 < s.length then (zeroV, 4)
  else match decR [] [] s with
    | none => (zeroV, 3)
    | some p => if p.2 = [] then (if chkV p.1 = 0 then (p.1, 0) else (zeroV, 4)) else (zeroV, 3)
end Go.Proofs.YtlbcmeebcfalpaaGreatDoor
