/- Joined: ERK2. -/
import Derived.Test.YtbdgmgddliploaaGreatDoorJ22
import Derived.Test.YtbdgmgddliploaaGreatDoorJ24
import Derived.Test.YtbdgmgddliploaaGreatDoorJ16
import Derived.Test.YtbdgmgddliploaaGreatDoorJ21
set_option linter.unusedVariables false
set_option linter.unusedSimpArgs false
set_option maxRecDepth 100000
set_option maxHeartbeats 16000000
namespace Go.Proofs.YtbdgmgddliploaaGreatDoor
open Go.RowKit

theorem rck_1 (S : Nat -> Prop) (v : CV) (x : Col) (o : Op) (w : World) (h : RdC S w v x) (hm : Sml x) (hv : x.err = 0) (hk : o.kind = 1) (h0 : o.other = 0) (h1 : o.text.size = 0) :
    Calls Tryz.prog 19 #[v.val, o.val] w fun e w' => e = .returned (.int .i64 (opErr x o)) /\ Below w.heap.size w w' := by
  have hnk : ¬ (o.kind < 1 \/ 4 < o.kind) := by omega
  have hna : ¬ ((o.other ≠ 0 /\ o.kind ≠ 3) \/ (o.text.size ≠ 0 /\ o.kind ≠ 4)) := by rintro (⟨q, r⟩ | ⟨q, r⟩) <;> first | exact q h0 | exact q h1 | exact r hk
  have HC : Hid (∀ W, Below w.heap.size w W -> Calls Tryz.prog 50 #[v.val] W fun e w' => e = .returned (.int .i64 0) /\ Below W.heap.size W w') := fun W hb => by
    have := check_ref S v x W (h.below hb) hm
    rw [hv] at this; exact this
  have HSO : Hid (∀ W, Below w.heap.size w W -> Calls Tryz.prog 43 #[v.val, .string o.sig] W fun e w' => e = .returned (.int .i64 (numO (x.src o.sig))) /\ Below W.heap.size W w') := fun W hb => source_ref S v x o.sig W (h.below hb)
  have HCO : Hid (∀ W (s : Nat), s < x.sigla.length -> Below w.heap.size w W -> Calls Tryz.prog 44 #[v.val, .int .i64 (s : Int), .int .i64 o.tok] W fun e w' => e = .returned (.int .i64 (numO (x.at_ s o.tok))) /\ Below W.heap.size W w') := fun W s hs hb => column_ref S v x s o.tok W (h.below hb) hv hs
  have HE1 : Hid (x.src o.sig = none -> opErr x o = 6) := fun e => opErr_n hv hnk hna (by unfold Col.place; rw [e]; rfl)
  have HE2 : Hid (∀ s, x.src o.sig = some s -> (o.tok < 0 \/ ((x.tks s).length : Int) <= o.tok) -> opErr x o = 6) := fun s e ht => opErr_n hv hnk hna (by unfold Col.place; rw [e]; show (if _ then none else _) = none; rw [if_pos ht])
  have HE3 : Hid (∀ s c, x.src o.sig = some s -> ¬ (o.tok < 0 \/ ((x.tks s).length : Int) <= o.tok) -> x.at_ s o.tok = some c -> opErr x o = kindErr x o s c) := fun s c e ht hc => opErr_k hv hnk hna (place_some.2 ⟨e, by omega, by omega, hc⟩)
  have HSS : Hid (∀ s, x.src o.sig = some s -> s < x.sigla.length) := fun s e => (firstFrom_some.1 e).2.1
  have HAT : Hid (∀ s, s < x.sigla.length -> ¬ (o.tok < 0 \/ ((x.tks s).length : Int) <= o.tok) -> ∃ c, x.at_ s o.tok = some c /\ c < x.cols.length) := fun s hs ht => by
    obtain ⟨c, hc⟩ := at_exists hv hs (t := o.tok) (by omega) (by omega)
    exact ⟨c, hc, (at_some hc).1⟩
  have hgood := (err_iff.1 hv).2
  have hheads := (err_iff.1 hv).1
  have HRL : Hid (∀ r ∈ x.cols, r.length = x.sigla.length) := fun r hr => by rw [hgood.mem hr, lens_len, hheads.len]
  have HTL : Hid (x.toks.length = x.sigla.length) := hheads.len
  have HX := hiq h
  obtain ⟨V, hV⟩ : ∃ V, V = v := ⟨_, rfl⟩
  rw [<- hV] at HX
  have HSN : Hid (v.sn = x.sigla.length) := h.2.2.1.len
  have HCN : Hid (v.cn = x.cols.length) := h.2.2.2.2.len
  have htb := h.2.2.2.1.bound
  have hcb := h.2.2.2.2.bound
  have hsb := h.2.2.1.bound
  clear hm hgood hheads hv hnk hna h
  obtain ⟨sec, sa, sn, sc, ta, tn, tc, ca, cn, cc⟩ := v
  obtain ⟨ok, og, ot, oo, ox⟩ := o
  have hVe : Hid (V = ⟨sec, sa, sn, sc, ta, tn, tc, ca, cn, cc⟩) := hV
  dsimp only at hk h0 h1 htb hcb hsb HSO HCO HE1 HE2 HE3 HSS HAT HSN HCN
  clear hV
  subst hk
  subst h0
  have hx0 : ox.toList.isEmpty = true := isEmpty_yes h1
  generalize hE : opErr x _ = E at *
  clear hE
  change Calls _ _ #[.agg #[.string sec, .slice sa sn sc, .slice ta tn tc, .slice ca cn cc], .agg #[.int .i64 1, .string og, .int .i64 ot, .int .i64 0, .string ox]] _ _
  change Hid (∀ W, _ -> Calls _ _ #[.agg #[.string sec, .slice sa sn sc, .slice ta tn tc, .slice ca cn cc]] _ _) at HC
  change Hid (∀ W, _ -> Calls _ _ #[.agg #[.string sec, .slice sa sn sc, .slice ta tn tc, .slice ca cn cc], _] _ _) at HSO
  change Hid (∀ W (s : Nat), _ -> _ -> Calls _ _ #[.agg #[.string sec, .slice sa sn sc, .slice ta tn tc, .slice ca cn cc], _, _] _ _) at HCO
  obtain ⟨hb0, hC, hO⟩ := box2 w #[.string sec, .slice sa sn sc, .slice ta tn tc, .slice ca cn cc] #[.int .i64 1, .string og, .int .i64 ot, .int .i64 0, .string ox] 26 28
  have c0 := hC 0 _ rfl
  have c1 := hC 1 _ rfl
  have c2 := hC 2 _ rfl
  have c3 := hC 3 _ rfl
  have o0 := hO 0 _ rfl
  have o1 := hO 1 _ rfl
  have o2 := hO 2 _ rfl
  have o3 := hO 3 _ rfl
  have o4 := hO 4 _ rfl
  have HCC := hiq (HC.out _ hb0)
  clear hC hO HC
  go_enter Tryz.func19, Tryz.ntmps19
  go_wp2_with fail
  generalize (w.alloc (.cells #[.string sec, .slice sa sn sc, .slice ta tn tc, .slice ca cn cc] 26)).alloc (.cells #[.int .i64 1, .string og, .int .i64 ot, .int .i64 0, .string ox] 28) = W1 at *
  refine HCC.out.mono ?_
  rintro e W2 ⟨rfl, hb2⟩
  have hb3 := hb0.trans (hb2.mono hb0.size)
  replace c0 := clq hb2 c0; replace c1 := clq hb2 c1; replace c2 := clq hb2 c2; replace c3 := clq hb2 c3; replace o0 := clq hb2 o0; replace o1 := clq hb2 o1; replace o2 := clq hb2 o2; replace o3 := clq hb2 o3; replace o4 := clq hb2 o4
  obtain ⟨N, hN⟩ : ∃ N, N = numO (x.src og) := ⟨_, rfl⟩
  rw [<- hN] at HSO
  have HS1 := hiq (HSO.out _ hb3)
  clear HCC hb0 hb2 HSO
  go_wp2_with fail
  refine HS1.out.mono ?_
  rintro e W3 ⟨rfl, hb4⟩
  have hb5 := hb3.trans (hb4.mono hb3.size)
  replace c0 := clq hb4 c0; replace c1 := clq hb4 c1; replace c2 := clq hb4 c2; replace c3 := clq hb4 c3; replace o0 := clq hb4 o0; replace o1 := clq hb4 o1; replace o2 := clq hb4 o2; replace o3 := clq hb4 o3; replace o4 := clq hb4 o4
  have HB5 := hiq hb5
  clear HS1 hb4 hb3 hb5
  cases hsrc : x.src og with
  | none =>
    have HR : Hid (E = 6) := HE1.out hsrc
    rw [hsrc] at hN
    have hN2 : N = -1 := hN
    clear hN
    subst hN2
    clear HE1 HE2 HE3 HSS HAT HCO HX HRL HTL HSN HCN hsrc
    go_wp2_with fail
    go_quiet (fail)
    go_wp2
    go_ret
    exact ⟨ret_int HR.out.symm, below_drewN HB5.out _⟩
  | some s =>
    rw [hsrc] at hN
    have hN2 : N = (s : Int) := hN
    clear hN
    subst hN2
    have hsl := HSS.out s hsrc
    have hss : s < sn := by rw [HSN.out]; exact hsl
    have hx5 := HX.out.below HB5.out
    rw [hVe.out] at hx5
    have hX3 : Tokss S W3 ta tn tc x.toks := hx5.2.2.2.1
    have hX4 : Numss S W3 ca cn cc x.cols := hx5.2.2.2.2
    obtain ⟨tr, tb, tof, ta1, tn1, tk1, htu, htmem, tea, -, -, htr, d1⟩ := hX3.row (j := s) (by rw [hX3.len, HTL.out]; exact hsl)
    subst tea
    have hst : s < tn := by rw [hX3.len, HTL.out]; exact hsl
    have htks : x.tks s = tr := by unfold Col.tks; rw [htu]; rfl
    have htl := htr.len
    have htrb := htr.bound
    have s0 : decide ((s : Int) < 0) = false := decide_eq_false (by omega)
    clear hx5 HX HTL
    by_cases ht : ot < 0
    · have HR : Hid (E = 6) := HE2.out s hsrc (.inl ht)
      clear HE1 HE2 HE3 HSS HAT HCO HRL HSN HCN hsrc hX3 hX4 htu htmem htr htks htl
      go_wp2_with fail
      go_quiet (fail)
      go_wp2
      go_ret
      exact ⟨ret_int HR.out.symm, below_drewN HB5.out _⟩
    · obtain ⟨tk, rfl⟩ : ∃ tk : Nat, ot = (tk : Int) := ⟨ot.toNat, by omega⟩
      have s1 : decide (((tk : Nat) : Int) < 0) = false := decide_eq_false (by omega)
      by_cases ht2 : tn1 <= tk
      · have HR : Hid (E = 6) := HE2.out s hsrc (.inr (by rw [htks, <- htl]; omega))
        clear HE1 HE2 HE3 HSS HAT HCO HRL HSN HCN hsrc hX3 hX4 htu htmem htr htks htl ht
        go_wp2_with fail
        go_quiet (fail)
        go_wp2
        go_ret
        exact ⟨ret_int HR.out.symm, below_drewN HB5.out _⟩
      · have s2 : decide (tn1 <= tk) = false := decide_eq_false ht2
        have hnt : ¬ ((tk : Int) < 0 \/ ((x.tks s).length : Int) <= (tk : Int)) := by rw [htks, <- htl]; omega
        obtain ⟨c, hat, hcl⟩ := HAT.out s hsl hnt
        have HEC := hiq (HE3.out s c hsrc hnt hat)
        have HC1 := HCO.out
        have HC2 : Hid (∀ n, Calls Tryz.prog 44 #[.agg #[.string sec, .slice sa sn sc, .slice (some ⟨tb, tof, none⟩) tn tc, .slice ca cn cc], .int .i64 (s : Int), .int .i64 (tk : Int)] (W3.drewN n) fun e w' => e = .returned (.int .i64 (c : Int)) /\ Below W3.heap.size (W3.drewN n) w') := fun n => by
          have := HC1 (W3.drewN n) s hsl (below_drewN HB5.out n)
          rw [hat] at this; exact this
        have hcl' : c < cn := by rw [HCN.out]; exact hcl
        clear HE1 HE2 HE3 HSS HAT HCO hsrc hX3 htu htmem htr htks htl hsl HC1 hnt hcl hat ht
        go_wp2_with fail
        go_quiet (fail)
        go_wp2_with fail
        refine (HC2.out _).mono ?_
        rintro e W5 ⟨rfl, hb6⟩
        have hb7 : Below W3.heap.size W3 W5 := (below_drewN (Below.refl _ _) _).trans hb6
        have HB9 := hiq (HB5.out.trans (hb7.mono HB5.out.size))
        replace c0 := clq hb7 c0; replace c1 := clq hb7 c1; replace c2 := clq hb7 c2; replace c3 := clq hb7 c3; replace o0 := clq hb7 o0; replace o1 := clq hb7 o1; replace o2 := clq hb7 o2; replace o3 := clq hb7 o3; replace o4 := clq hb7 o4; replace d1 := clq hb7 d1
        replace hX4 := hX4.below (rSl_ok rInt_ok) hb7
        obtain ⟨r, bb, off, a1, n1, k1, hu, hmem, ea, -, -, hr, r1⟩ := hX4.row hcl'
        subst ea
        have er := row_of hu
        clear hb6 hb7 HC2 HB5
        have HEK : Hid (E = (if x.cols.length <= c + 1 then 2 else if clash (x.row c) (x.row (c + 1)) = true then 19 else 0)) := by
          show _ = _; rw [HEC.out]; unfold kindErr; rw [if_pos rfl]
        by_cases hlast : c + 1 = cn
        · have t6 : ((c : Int) == (cn : Int) - 1) = true := by simp; omega
          have HR : Hid (E = 2) := by show _ = _; rw [HEK.out, if_pos (by rw [<- HCN.out]; omega)]
          clear HEK hX4 hr hu hmem er
          go_wp2
          go_ret
          exact ⟨ret_int HR.out.symm, HB9.out⟩
        · have t6 : ((c : Int) == (cn : Int) - 1) = false := by simp; omega
          have HQ1 : Hid (∀ i, i < sn -> 0 <= ent (x.row c) i -> 0 <= ent (x.row (c + 1)) i -> E = 19) := fun i hi p q => by
            rw [HEK.out, if_neg (by rw [<- HCN.out]; omega), if_pos]
            cases ec : clash (x.row c) (x.row (c + 1)) with
            | true => rfl
            | false => exact absurd ⟨p, q⟩ (clash_iff.1 ec i (by rw [er, HRL.out r hmem]; rw [<- HSN.out]; exact hi))
          have HQ2 : Hid ((∀ i, i < sn -> ¬ (0 <= ent (x.row c) i /\ 0 <= ent (x.row (c + 1)) i)) -> E = 0) := fun q => by
            rw [HEK.out, if_neg (by rw [<- HCN.out]; omega), if_neg]
            rw [Bool.not_eq_true]
            exact clash_iff.2 fun i hi => q i (by rw [HSN.out, <- HRL.out r hmem, <- er]; exact hi)
          obtain ⟨r2, bb2, off2, a2, n2, k2, hu2, hmem2, ea, -, -, hr2, d2⟩ := hX4.row (j := c + 1) (by omega)
          cases ea
          have er2 := row_of hu2
          have hrl : n1 = sn := by rw [hr.len, HRL.out r hmem, HSN.out]
          have hrl2 : n2 = sn := by rw [hr2.len, HRL.out r2 hmem2, HSN.out]
          rw [er, er2] at HQ1 HQ2
          subst hrl
          subst hrl2
          have hrb := hr.bound
          have HR1 := hiq hr
          have HR2 := hiq hr2
          clear HEK HSN HCN HRL hu hu2 hmem hmem2 er er2 hr hr2 hX4
          go_wp2_with fail
          go_loop [7] (fun i => ∃ j : Nat, i = .int .i64 j /\ j <= n2 /\ Hid (∀ i, i < j -> ¬ (0 <= ent r i /\ 0 <= ent r2 i))) (fun i => n2 - (intOf i).toNat)
          case atStart => exact ⟨0, rfl, Nat.zero_le _, fun i hi => by omega⟩
          case round =>
            obtain ⟨j, rfl, hj, hx⟩ := hrel
            by_cases hjl : j < n2
            · obtain ⟨u1, b3, off3, hv1, -, ea, -, -, hI1, f1⟩ := HR1.out.int hjl
              subst ea
              obtain ⟨u2, b4, off4, hv2, -, ea, -, -, hI2, f2⟩ := HR2.out.int hjl
              subst ea
              have e1 := ent_of hv1
              have e2 := ent_of hv2
              by_cases g1 : 0 <= u1
              · by_cases g2 : 0 <= u2
                · have HR : Hid (E = 19) := HQ1.out j hjl (by rw [e1]; exact g1) (by rw [e2]; exact g2)
                  clear hx HQ1 HQ2 hv1 hv2 e1 e2
                  go_wp2
                  go_ret
                  exact ⟨ret_int HR.out.symm, HB9.out⟩
                · have HN : Hid (∀ i, i < j + 1 -> ¬ (0 <= ent r i /\ 0 <= ent r2 i)) := fun i hi => by
                    by_cases e : i = j
                    · rw [e, e2]; omega
                    · exact hx.out i (by omega)
                  clear hx hv1 hv2 e1 e2
                  go_wp2
                  go_round
                  case rel => exact ⟨j + 1, by go_num, by omega, HN.out⟩
                  case measure => simp [intOf]; omega
              · have HN : Hid (∀ i, i < j + 1 -> ¬ (0 <= ent r i /\ 0 <= ent r2 i)) := fun i hi => by
                  by_cases e : i = j
                  · rw [e, e1]; omega
                  · exact hx.out i (by omega)
                clear hx hv1 hv2 e1 e2
                go_wp2
                go_round
                case rel => exact ⟨j + 1, by go_num, by omega, HN.out⟩
                case measure => simp [intOf]; omega
            · have HR : Hid (E = 0) := HQ2.out fun i hi => hx.out i (by omega)
              clear hx HQ1 HQ2
              go_wp2
              go_ret
              exact ⟨ret_int HR.out.symm, HB9.out⟩
theorem rck_2 (S : Nat -> Prop) (v : CV) (x : Col) (o : Op) (w : World) (h : RdC S w v x) (hm : Sml x) (hv : x.err = 0) (hk : o.kind = 2) (h0 : o.other = 0) (h1 : o.text.size = 0) :
    Calls Tryz.prog 19 #[v.val, o.val] w fun e w' => e = .returned (.int .i64 (opErr x o)) /\ Below w.heap.size w w' := by
  have hnk : ¬ (o.kind < 1 \/ 4 < o.kind) := by omega
  have hna : ¬ ((o.other ≠ 0 /\ o.kind ≠ 3) \/ (o.text.size ≠ 0 /\ o.kind ≠ 4)) := by rintro (⟨q, r⟩ | ⟨q, r⟩) <;> first | exact q h0 | exact q h1 | exact r hk
  have HC : Hid (∀ W, Below w.heap.size w W -> Calls Tryz.prog 50 #[v.val] W fun e w' => e = .returned (.int .i64 0) /\ Below W.heap.size W w') := fun W hb => by
    have := check_ref S v x W (h.below hb) hm
    rw [hv] at this; exact this
  have HSO : Hid (∀ W, Below w.heap.size w W -> Calls Tryz.prog 43 #[v.val, .string o.sig] W fun e w' => e = .returned (.int .i64 (numO (x.src o.sig))) /\ Below W.heap.size W w') := fun W hb => source_ref S v x o.sig W (h.below hb)
  have HCO : Hid (∀ W (s : Nat), s < x.sigla.length -> Below w.heap.size w W -> Calls Tryz.prog 44 #[v.val, .int .i64 (s : Int), .int .i64 o.tok] W fun e w' => e = .returned (.int .i64 (numO (x.at_ s o.tok))) /\ Below W.heap.size W w') := fun W s hs hb => column_ref S v x s o.tok W (h.below hb) hv hs
  have HE1 : Hid (x.src o.sig = none -> opErr x o = 6) := fun e => opErr_n hv hnk hna (by unfold Col.place; rw [e]; rfl)
  have HE2 : Hid (∀ s, x.src o.sig = some s -> (o.tok < 0 \/ ((x.tks s).length : Int) <= o.tok) -> opErr x o = 6) := fun s e ht => opErr_n hv hnk hna (by unfold Col.place; rw [e]; show (if _ then none else _) = none; rw [if_pos ht])
  have HE3 : Hid (∀ s c, x.src o.sig = some s -> ¬ (o.tok < 0 \/ ((x.tks s).length : Int) <= o.tok) -> x.at_ s o.tok = some c -> opErr x o = kindErr x o s c) := fun s c e ht hc => opErr_k hv hnk hna (place_some.2 ⟨e, by omega, by omega, hc⟩)
  have HSS : Hid (∀ s, x.src o.sig = some s -> s < x.sigla.length) := fun s e => (firstFrom_some.1 e).2.1
  have HAT : Hid (∀ s, s < x.sigla.length -> ¬ (o.tok < 0 \/ ((x.tks s).length : Int) <= o.tok) -> ∃ c, x.at_ s o.tok = some c /\ c < x.cols.length) := fun s hs ht => by
    obtain ⟨c, hc⟩ := at_exists hv hs (t := o.tok) (by omega) (by omega)
    exact ⟨c, hc, (at_some hc).1⟩
  have hgood := (err_iff.1 hv).2
  have hheads := (err_iff.1 hv).1
  have HRL : Hid (∀ r ∈ x.cols, r.length = x.sigla.length) := fun r hr => by rw [hgood.mem hr, lens_len, hheads.len]
  have HTL : Hid (x.toks.length = x.sigla.length) := hheads.len
  have HX := hiq h
  obtain ⟨V, hV⟩ : ∃ V, V = v := ⟨_, rfl⟩
  rw [<- hV] at HX
  have HSN : Hid (v.sn = x.sigla.length) := h.2.2.1.len
  have HCN : Hid (v.cn = x.cols.length) := h.2.2.2.2.len
  have htb := h.2.2.2.1.bound
  have hcb := h.2.2.2.2.bound
  have hsb := h.2.2.1.bound
  clear hm hgood hheads hv hnk hna h
  obtain ⟨sec, sa, sn, sc, ta, tn, tc, ca, cn, cc⟩ := v
  obtain ⟨ok, og, ot, oo, ox⟩ := o
  have hVe : Hid (V = ⟨sec, sa, sn, sc, ta, tn, tc, ca, cn, cc⟩) := hV
  dsimp only at hk h0 h1 htb hcb hsb HSO HCO HE1 HE2 HE3 HSS HAT HSN HCN
  clear hV
  subst hk
  subst h0
  have hx0 : ox.toList.isEmpty = true := isEmpty_yes h1
  generalize hE : opErr x _ = E at *
  clear hE
  change Calls _ _ #[.agg #[.string sec, .slice sa sn sc, .slice ta tn tc, .slice ca cn cc], .agg #[.int .i64 2, .string og, .int .i64 ot, .int .i64 0, .string ox]] _ _
  change Hid (∀ W, _ -> Calls _ _ #[.agg #[.string sec, .slice sa sn sc, .slice ta tn tc, .slice ca cn cc]] _ _) at HC
  change Hid (∀ W, _ -> Calls _ _ #[.agg #[.string sec, .slice sa sn sc, .slice ta tn tc, .slice ca cn cc], _] _ _) at HSO
  change Hid (∀ W (s : Nat), _ -> _ -> Calls _ _ #[.agg #[.string sec, .slice sa sn sc, .slice ta tn tc, .slice ca cn cc], _, _] _ _) at HCO
  obtain ⟨hb0, hC, hO⟩ := box2 w #[.string sec, .slice sa sn sc, .slice ta tn tc, .slice ca cn cc] #[.int .i64 2, .string og, .int .i64 ot, .int .i64 0, .string ox] 26 28
  have c0 := hC 0 _ rfl
  have c1 := hC 1 _ rfl
  have c2 := hC 2 _ rfl
  have c3 := hC 3 _ rfl
  have o0 := hO 0 _ rfl
  have o1 := hO 1 _ rfl
  have o2 := hO 2 _ rfl
  have o3 := hO 3 _ rfl
  have o4 := hO 4 _ rfl
  have HCC := hiq (HC.out _ hb0)
  clear hC hO HC
  go_enter Tryz.func19, Tryz.ntmps19
  go_wp2_with fail
  generalize (w.alloc (.cells #[.string sec, .slice sa sn sc, .slice ta tn tc, .slice ca cn cc] 26)).alloc (.cells #[.int .i64 2, .string og, .int .i64 ot, .int .i64 0, .string ox] 28) = W1 at *
  refine HCC.out.mono ?_
  rintro e W2 ⟨rfl, hb2⟩
  have hb3 := hb0.trans (hb2.mono hb0.size)
  replace c0 := clq hb2 c0; replace c1 := clq hb2 c1; replace c2 := clq hb2 c2; replace c3 := clq hb2 c3; replace o0 := clq hb2 o0; replace o1 := clq hb2 o1; replace o2 := clq hb2 o2; replace o3 := clq hb2 o3; replace o4 := clq hb2 o4
  obtain ⟨N, hN⟩ : ∃ N, N = numO (x.src og) := ⟨_, rfl⟩
  rw [<- hN] at HSO
  have HS1 := hiq (HSO.out _ hb3)
  clear HCC hb0 hb2 HSO
  go_wp2_with fail
  refine HS1.out.mono ?_
  rintro e W3 ⟨rfl, hb4⟩
  have hb5 := hb3.trans (hb4.mono hb3.size)
  replace c0 := clq hb4 c0; replace c1 := clq hb4 c1; replace c2 := clq hb4 c2; replace c3 := clq hb4 c3; replace o0 := clq hb4 o0; replace o1 := clq hb4 o1; replace o2 := clq hb4 o2; replace o3 := clq hb4 o3; replace o4 := clq hb4 o4
  have HB5 := hiq hb5
  clear HS1 hb4 hb3 hb5
  cases hsrc : x.src og with
  | none =>
    have HR : Hid (E = 6) := HE1.out hsrc
    rw [hsrc] at hN
    have hN2 : N = -1 := hN
    clear hN
    subst hN2
    clear HE1 HE2 HE3 HSS HAT HCO HX HRL HTL HSN HCN hsrc
    go_wp2_with fail
    go_quiet (fail)
    go_wp2
    go_ret
    exact ⟨ret_int HR.out.symm, below_drewN HB5.out _⟩
  | some s =>
    rw [hsrc] at hN
    have hN2 : N = (s : Int) := hN
    clear hN
    subst hN2
    have hsl := HSS.out s hsrc
    have hss : s < sn := by rw [HSN.out]; exact hsl
    have hx5 := HX.out.below HB5.out
    rw [hVe.out] at hx5
    have hX3 : Tokss S W3 ta tn tc x.toks := hx5.2.2.2.1
    have hX4 : Numss S W3 ca cn cc x.cols := hx5.2.2.2.2
    obtain ⟨tr, tb, tof, ta1, tn1, tk1, htu, htmem, tea, -, -, htr, d1⟩ := hX3.row (j := s) (by rw [hX3.len, HTL.out]; exact hsl)
    subst tea
    have hst : s < tn := by rw [hX3.len, HTL.out]; exact hsl
    have htks : x.tks s = tr := by unfold Col.tks; rw [htu]; rfl
    have htl := htr.len
    have htrb := htr.bound
    have s0 : decide ((s : Int) < 0) = false := decide_eq_false (by omega)
    clear hx5 HX HTL
    by_cases ht : ot < 0
    · have HR : Hid (E = 6) := HE2.out s hsrc (.inl ht)
      clear HE1 HE2 HE3 HSS HAT HCO HRL HSN HCN hsrc hX3 hX4 htu htmem htr htks htl
      go_wp2_with fail
      go_quiet (fail)
      go_wp2
      go_ret
      exact ⟨ret_int HR.out.symm, below_drewN HB5.out _⟩
    · obtain ⟨tk, rfl⟩ : ∃ tk : Nat, ot = (tk : Int) := ⟨ot.toNat, by omega⟩
      have s1 : decide (((tk : Nat) : Int) < 0) = false := decide_eq_false (by omega)
      by_cases ht2 : tn1 <= tk
      · have HR : Hid (E = 6) := HE2.out s hsrc (.inr (by rw [htks, <- htl]; omega))
        clear HE1 HE2 HE3 HSS HAT HCO HRL HSN HCN hsrc hX3 hX4 htu htmem htr htks htl ht
        go_wp2_with fail
        go_quiet (fail)
        go_wp2
        go_ret
        exact ⟨ret_int HR.out.symm, below_drewN HB5.out _⟩
      · have s2 : decide (tn1 <= tk) = false := decide_eq_false ht2
        have hnt : ¬ ((tk : Int) < 0 \/ ((x.tks s).length : Int) <= (tk : Int)) := by rw [htks, <- htl]; omega
        obtain ⟨c, hat, hcl⟩ := HAT.out s hsl hnt
        have HEC := hiq (HE3.out s c hsrc hnt hat)
        have HC1 := HCO.out
        have HC2 : Hid (∀ n, Calls Tryz.prog 44 #[.agg #[.string sec, .slice sa sn sc, .slice (some ⟨tb, tof, none⟩) tn tc, .slice ca cn cc], .int .i64 (s : Int), .int .i64 (tk : Int)] (W3.drewN n) fun e w' => e = .returned (.int .i64 (c : Int)) /\ Below W3.heap.size (W3.drewN n) w') := fun n => by
          have := HC1 (W3.drewN n) s hsl (below_drewN HB5.out n)
          rw [hat] at this; exact this
        have hcl' : c < cn := by rw [HCN.out]; exact hcl
        clear HE1 HE2 HE3 HSS HAT HCO hsrc hX3 htu htmem htr htks htl hsl HC1 hnt hcl hat ht
        go_wp2_with fail
        go_quiet (fail)
        go_wp2_with fail
        refine (HC2.out _).mono ?_
        rintro e W5 ⟨rfl, hb6⟩
        have hb7 : Below W3.heap.size W3 W5 := (below_drewN (Below.refl _ _) _).trans hb6
        have HB9 := hiq (HB5.out.trans (hb7.mono HB5.out.size))
        replace c0 := clq hb7 c0; replace c1 := clq hb7 c1; replace c2 := clq hb7 c2; replace c3 := clq hb7 c3; replace o0 := clq hb7 o0; replace o1 := clq hb7 o1; replace o2 := clq hb7 o2; replace o3 := clq hb7 o3; replace o4 := clq hb7 o4; replace d1 := clq hb7 d1
        replace hX4 := hX4.below (rSl_ok rInt_ok) hb7
        obtain ⟨r, bb, off, a1, n1, k1, hu, hmem, ea, -, -, hr, r1⟩ := hX4.row hcl'
        subst ea
        have er := row_of hu
        clear hb6 hb7 HC2 HB5
        have HEK : Hid (E = (if alone (x.row c) s = true then 19 else 0)) := by
          show _ = _; rw [HEC.out]; unfold kindErr; rw [if_neg (by show ¬ (2 : Int) = 1; omega), if_pos rfl]
        have HQ1 : Hid (∀ i, i < sn -> i ≠ s -> 0 <= ent (x.row c) i -> E = 0) := fun i hi p q => by
          rw [HEK.out, if_neg]
          intro ha
          have := alone_iff.1 ha i (by rw [er, HRL.out r hmem, <- HSN.out]; exact hi) p
          omega
        have HQ2 : Hid ((∀ i, i < sn -> i ≠ s -> ent (x.row c) i < 0) -> E = 19) := fun q => by
          rw [HEK.out, if_pos (alone_iff.2 fun i hi hn => q i (by rw [HSN.out, <- HRL.out r hmem, <- er]; exact hi) hn)]
        have hrl : n1 = sn := by rw [hr.len, HRL.out r hmem, HSN.out]
        rw [er] at HQ1 HQ2
        subst hrl
        have hrb := hr.bound
        have HR1 := hiq hr
        clear HEK HSN HCN HRL hu hmem er hr hX4
        go_wp2_with fail
        go_loop [8] (fun i => ∃ j : Nat, i = .int .i64 j /\ j <= n1 /\ Hid (∀ i, i < j -> i ≠ s -> ent r i < 0)) (fun i => n1 - (intOf i).toNat)
        case atStart => exact ⟨0, rfl, Nat.zero_le _, fun i hi => by omega⟩
        case round =>
          obtain ⟨j, rfl, hj, hx⟩ := hrel
          by_cases hjl : j < n1
          · obtain ⟨u1, b3, off3, hv1, -, ea, -, -, hI1, f1⟩ := HR1.out.int hjl
            subst ea
            have e1 := ent_of hv1
            by_cases hjs : j = s
            · have t7 : ((j : Int) != (s : Int)) = false := by simp [hjs]
              have HN : Hid (∀ i, i < j + 1 -> i ≠ s -> ent r i < 0) := fun i hi hn => hx.out i (by omega) hn
              clear hx hv1 e1 hjs
              go_wp2
              go_round
              case rel => exact ⟨j + 1, by go_num, by omega, HN.out⟩
              case measure => simp [intOf]; omega
            · have t7 : ((j : Int) != (s : Int)) = true := by simp; omega
              by_cases g1 : 0 <= u1
              · have HR : Hid (E = 0) := HQ1.out j hjl hjs (by rw [e1]; exact g1)
                clear hx HQ1 HQ2 hv1 e1 hjs
                go_wp2
                go_ret
                exact ⟨ret_int HR.out.symm, HB9.out⟩
              · have HN : Hid (∀ i, i < j + 1 -> i ≠ s -> ent r i < 0) := fun i hi hn => by
                  by_cases e : i = j
                  · rw [e, e1]; omega
                  · exact hx.out i (by omega) hn
                clear hx hv1 e1 hjs
                go_wp2
                go_round
                case rel => exact ⟨j + 1, by go_num, by omega, HN.out⟩
                case measure => simp [intOf]; omega
          · have HR : Hid (E = 19) := HQ2.out fun i hi hn => hx.out i (by omega) hn
            clear hx HQ1 HQ2
            go_wp2
            go_ret
            exact ⟨ret_int HR.out.symm, HB9.out⟩
theorem rck_3z (S : Nat -> Prop) (v : CV) (x : Col) (o : Op) (w : World) (h : RdC S w v x) (hm : Sml x) (hv : x.err = 0) (hk : o.kind = 3) (h0 : o.other = 0) (h1 : o.text.size = 0) :
    Calls Tryz.prog 19 #[v.val, o.val] w fun e w' => e = .returned (.int .i64 (opErr x o)) /\ Below w.heap.size w w' := by
  have hnk : ¬ (o.kind < 1 \/ 4 < o.kind) := by omega
  have hna : ¬ ((o.other ≠ 0 /\ o.kind ≠ 3) \/ (o.text.size ≠ 0 /\ o.kind ≠ 4)) := by rintro (⟨q, r⟩ | ⟨q, r⟩) <;> first | exact q h0 | exact q h1 | exact r hk
  have HC : Hid (∀ W, Below w.heap.size w W -> Calls Tryz.prog 50 #[v.val] W fun e w' => e = .returned (.int .i64 0) /\ Below W.heap.size W w') := fun W hb => by
    have := check_ref S v x W (h.below hb) hm
    rw [hv] at this; exact this
  have HSO : Hid (∀ W, Below w.heap.size w W -> Calls Tryz.prog 43 #[v.val, .string o.sig] W fun e w' => e = .returned (.int .i64 (numO (x.src o.sig))) /\ Below W.heap.size W w') := fun W hb => source_ref S v x o.sig W (h.below hb)
  have HCO : Hid (∀ W (s : Nat), s < x.sigla.length -> Below w.heap.size w W -> Calls Tryz.prog 44 #[v.val, .int .i64 (s : Int), .int .i64 o.tok] W fun e w' => e = .returned (.int .i64 (numO (x.at_ s o.tok))) /\ Below W.heap.size W w') := fun W s hs hb => column_ref S v x s o.tok W (h.below hb) hv hs
  have HE1 : Hid (x.src o.sig = none -> opErr x o = 6) := fun e => opErr_n hv hnk hna (by unfold Col.place; rw [e]; rfl)
  have HE2 : Hid (∀ s, x.src o.sig = some s -> (o.tok < 0 \/ ((x.tks s).length : Int) <= o.tok) -> opErr x o = 6) := fun s e ht => opErr_n hv hnk hna (by unfold Col.place; rw [e]; show (if _ then none else _) = none; rw [if_pos ht])
  have HE3 : Hid (∀ s c, x.src o.sig = some s -> ¬ (o.tok < 0 \/ ((x.tks s).length : Int) <= o.tok) -> x.at_ s o.tok = some c -> opErr x o = kindErr x o s c) := fun s c e ht hc => opErr_k hv hnk hna (place_some.2 ⟨e, by omega, by omega, hc⟩)
  have HSS : Hid (∀ s, x.src o.sig = some s -> s < x.sigla.length) := fun s e => (firstFrom_some.1 e).2.1
  have HAT : Hid (∀ s, s < x.sigla.length -> ¬ (o.tok < 0 \/ ((x.tks s).length : Int) <= o.tok) -> ∃ c, x.at_ s o.tok = some c /\ c < x.cols.length) := fun s hs ht => by
    obtain ⟨c, hc⟩ := at_exists hv hs (t := o.tok) (by omega) (by omega)
    exact ⟨c, hc, (at_some hc).1⟩
  have hgood := (err_iff.1 hv).2
  have hheads := (err_iff.1 hv).1
  have HRL : Hid (∀ r ∈ x.cols, r.length = x.sigla.length) := fun r hr => by rw [hgood.mem hr, lens_len, hheads.len]
  have HTL : Hid (x.toks.length = x.sigla.length) := hheads.len
  have HX := hiq h
  obtain ⟨V, hV⟩ : ∃ V, V = v := ⟨_, rfl⟩
  rw [<- hV] at HX
  have HSN : Hid (v.sn = x.sigla.length) := h.2.2.1.len
  have HCN : Hid (v.cn = x.cols.length) := h.2.2.2.2.len
  have htb := h.2.2.2.1.bound
  have hcb := h.2.2.2.2.bound
  have hsb := h.2.2.1.bound
  clear hm hgood hheads hv hnk hna h
  obtain ⟨sec, sa, sn, sc, ta, tn, tc, ca, cn, cc⟩ := v
  obtain ⟨ok, og, ot, oo, ox⟩ := o
  have hVe : Hid (V = ⟨sec, sa, sn, sc, ta, tn, tc, ca, cn, cc⟩) := hV
  dsimp only at hk h0 h1 htb hcb hsb HSO HCO HE1 HE2 HE3 HSS HAT HSN HCN
  clear hV
  subst hk
  subst h0
  have hx0 : ox.toList.isEmpty = true := isEmpty_yes h1
  generalize hE : opErr x _ = E at *
  clear hE
  change Calls _ _ #[.agg #[.string sec, .slice sa sn sc, .slice ta tn tc, .slice ca cn cc], .agg #[.int .i64 3, .string og, .int .i64 ot, .int .i64 0, .string ox]] _ _
  change Hid (∀ W, _ -> Calls _ _ #[.agg #[.string sec, .slice sa sn sc, .slice ta tn tc, .slice ca cn cc]] _ _) at HC
  change Hid (∀ W, _ -> Calls _ _ #[.agg #[.string sec, .slice sa sn sc, .slice ta tn tc, .slice ca cn cc], _] _ _) at HSO
  change Hid (∀ W (s : Nat), _ -> _ -> Calls _ _ #[.agg #[.string sec, .slice sa sn sc, .slice ta tn tc, .slice ca cn cc], _, _] _ _) at HCO
  obtain ⟨hb0, hC, hO⟩ := box2 w #[.string sec, .slice sa sn sc, .slice ta tn tc, .slice ca cn cc] #[.int .i64 3, .string og, .int .i64 ot, .int .i64 0, .string ox] 26 28
  have c0 := hC 0 _ rfl
  have c1 := hC 1 _ rfl
  have c2 := hC 2 _ rfl
  have c3 := hC 3 _ rfl
  have o0 := hO 0 _ rfl
  have o1 := hO 1 _ rfl
  have o2 := hO 2 _ rfl
  have o3 := hO 3 _ rfl
  have o4 := hO 4 _ rfl
  have HCC := hiq (HC.out _ hb0)
  clear hC hO HC
  go_enter Tryz.func19, Tryz.ntmps19
  go_wp2_with fail
  generalize (w.alloc (.cells #[.string sec, .slice sa sn sc, .slice ta tn tc, .slice ca cn cc] 26)).alloc (.cells #[.int .i64 3, .string og, .int .i64 ot, .int .i64 0, .string ox] 28) = W1 at *
  refine HCC.out.mono ?_
  rintro e W2 ⟨rfl, hb2⟩
  have hb3 := hb0.trans (hb2.mono hb0.size)
  replace c0 := clq hb2 c0; replace c1 := clq hb2 c1; replace c2 := clq hb2 c2; replace c3 := clq hb2 c3; replace o0 := clq hb2 o0; replace o1 := clq hb2 o1; replace o2 := clq hb2 o2; replace o3 := clq hb2 o3; replace o4 := clq hb2 o4
  obtain ⟨N, hN⟩ : ∃ N, N = numO (x.src og) := ⟨_, rfl⟩
  rw [<- hN] at HSO
  have HS1 := hiq (HSO.out _ hb3)
  clear HCC hb0 hb2 HSO
  go_wp2_with fail
  refine HS1.out.mono ?_
  rintro e W3 ⟨rfl, hb4⟩
  have hb5 := hb3.trans (hb4.mono hb3.size)
  replace c0 := clq hb4 c0; replace c1 := clq hb4 c1; replace c2 := clq hb4 c2; replace c3 := clq hb4 c3; replace o0 := clq hb4 o0; replace o1 := clq hb4 o1; replace o2 := clq hb4 o2; replace o3 := clq hb4 o3; replace o4 := clq hb4 o4
  have HB5 := hiq hb5
  clear HS1 hb4 hb3 hb5
  cases hsrc : x.src og with
  | none =>
    have HR : Hid (E = 6) := HE1.out hsrc
    rw [hsrc] at hN
    have hN2 : N = -1 := hN
    clear hN
    subst hN2
    clear HE1 HE2 HE3 HSS HAT HCO HX HRL HTL HSN HCN hsrc
    go_wp2_with fail
    go_quiet (fail)
    go_wp2
    go_ret
    exact ⟨ret_int HR.out.symm, below_drewN HB5.out _⟩
  | some s =>
    rw [hsrc] at hN
    have hN2 : N = (s : Int) := hN
    clear hN
    subst hN2
    have hsl := HSS.out s hsrc
    have hss : s < sn := by rw [HSN.out]; exact hsl
    have hx5 := HX.out.below HB5.out
    rw [hVe.out] at hx5
    have hX3 : Tokss S W3 ta tn tc x.toks := hx5.2.2.2.1
    have hX4 : Numss S W3 ca cn cc x.cols := hx5.2.2.2.2
    obtain ⟨tr, tb, tof, ta1, tn1, tk1, htu, htmem, tea, -, -, htr, d1⟩ := hX3.row (j := s) (by rw [hX3.len, HTL.out]; exact hsl)
    subst tea
    have hst : s < tn := by rw [hX3.len, HTL.out]; exact hsl
    have htks : x.tks s = tr := by unfold Col.tks; rw [htu]; rfl
    have htl := htr.len
    have htrb := htr.bound
    have s0 : decide ((s : Int) < 0) = false := decide_eq_false (by omega)
    clear hx5 HX HTL
    by_cases ht : ot < 0
    · have HR : Hid (E = 6) := HE2.out s hsrc (.inl ht)
      clear HE1 HE2 HE3 HSS HAT HCO HRL HSN HCN hsrc hX3 hX4 htu htmem htr htks htl
      go_wp2_with fail
      go_quiet (fail)
      go_wp2
      go_ret
      exact ⟨ret_int HR.out.symm, below_drewN HB5.out _⟩
    · obtain ⟨tk, rfl⟩ : ∃ tk : Nat, ot = (tk : Int) := ⟨ot.toNat, by omega⟩
      have s1 : decide (((tk : Nat) : Int) < 0) = false := decide_eq_false (by omega)
      by_cases ht2 : tn1 <= tk
      · have HR : Hid (E = 6) := HE2.out s hsrc (.inr (by rw [htks, <- htl]; omega))
        clear HE1 HE2 HE3 HSS HAT HCO HRL HSN HCN hsrc hX3 hX4 htu htmem htr htks htl ht
        go_wp2_with fail
        go_quiet (fail)
        go_wp2
        go_ret
        exact ⟨ret_int HR.out.symm, below_drewN HB5.out _⟩
      · have s2 : decide (tn1 <= tk) = false := decide_eq_false ht2
        have hnt : ¬ ((tk : Int) < 0 \/ ((x.tks s).length : Int) <= (tk : Int)) := by rw [htks, <- htl]; omega
        obtain ⟨c, hat, hcl⟩ := HAT.out s hsl hnt
        have HEC := hiq (HE3.out s c hsrc hnt hat)
        have HC1 := HCO.out
        have HC2 : Hid (∀ n, Calls Tryz.prog 44 #[.agg #[.string sec, .slice sa sn sc, .slice (some ⟨tb, tof, none⟩) tn tc, .slice ca cn cc], .int .i64 (s : Int), .int .i64 (tk : Int)] (W3.drewN n) fun e w' => e = .returned (.int .i64 (c : Int)) /\ Below W3.heap.size (W3.drewN n) w') := fun n => by
          have := HC1 (W3.drewN n) s hsl (below_drewN HB5.out n)
          rw [hat] at this; exact this
        have hcl' : c < cn := by rw [HCN.out]; exact hcl
        clear HE1 HE2 HE3 HSS HAT HCO hsrc hX3 htu htmem htr htks htl hsl HC1 hnt hcl hat ht
        go_wp2_with fail
        go_quiet (fail)
        go_wp2_with fail
        refine (HC2.out _).mono ?_
        rintro e W5 ⟨rfl, hb6⟩
        have hb7 : Below W3.heap.size W3 W5 := (below_drewN (Below.refl _ _) _).trans hb6
        have HB9 := hiq (HB5.out.trans (hb7.mono HB5.out.size))
        replace c0 := clq hb7 c0; replace c1 := clq hb7 c1; replace c2 := clq hb7 c2; replace c3 := clq hb7 c3; replace o0 := clq hb7 o0; replace o1 := clq hb7 o1; replace o2 := clq hb7 o2; replace o3 := clq hb7 o3; replace o4 := clq hb7 o4; replace d1 := clq hb7 d1
        replace hX4 := hX4.below (rSl_ok rInt_ok) hb7
        obtain ⟨r, bb, off, a1, n1, k1, hu, hmem, ea, -, -, hr, r1⟩ := hX4.row hcl'
        subst ea
        have er := row_of hu
        clear hb6 hb7 HC2 HB5
        have HEK : Hid (E = (if ((0 : Int) ≠ -1 /\ (0 : Int) ≠ 1) \/ (c : Int) + (0 : Int) < 0 \/ (x.cols.length : Int) <= c + (0 : Int) then 2 else if 0 <= ent (x.row ((c : Int) + (0 : Int)).toNat) s then 19 else 0)) := by
          show _ = _; rw [HEC.out]; unfold kindErr; rw [if_neg (by show ¬ (3 : Int) = 1; omega), if_neg (by show ¬ (3 : Int) = 2; omega), if_pos rfl]
        have HR : Hid (E = 2) := by show _ = _; rw [HEK.out, if_pos (.inl ⟨by omega, by omega⟩)]
        clear HEK hX4 hr hu hmem er
        go_wp2
        go_ret
        exact ⟨ret_int HR.out.symm, HB9.out⟩
theorem rck_3n (S : Nat -> Prop) (v : CV) (x : Col) (o : Op) (w : World) (h : RdC S w v x) (hm : Sml x) (hv : x.err = 0) (hk : o.kind = 3) (h0 : o.other ≠ 0) (h1 : o.text.size = 0) :
    Calls Tryz.prog 19 #[v.val, o.val] w fun e w' => e = .returned (.int .i64 (opErr x o)) /\ Below w.heap.size w w' := by
  have hnk : ¬ (o.kind < 1 \/ 4 < o.kind) := by omega
  have hna : ¬ ((o.other ≠ 0 /\ o.kind ≠ 3) \/ (o.text.size ≠ 0 /\ o.kind ≠ 4)) := by rintro (⟨q, r⟩ | ⟨q, r⟩) <;> first | exact q h0 | exact q h1 | exact r hk
  have HC : Hid (∀ W, Below w.heap.size w W -> Calls Tryz.prog 50 #[v.val] W fun e w' => e = .returned (.int .i64 0) /\ Below W.heap.size W w') := fun W hb => by
    have := check_ref S v x W (h.below hb) hm
    rw [hv] at this; exact this
  have HSO : Hid (∀ W, Below w.heap.size w W -> Calls Tryz.prog 43 #[v.val, .string o.sig] W fun e w' => e = .returned (.int .i64 (numO (x.src o.sig))) /\ Below W.heap.size W w') := fun W hb => source_ref S v x o.sig W (h.below hb)
  have HCO : Hid (∀ W (s : Nat), s < x.sigla.length -> Below w.heap.size w W -> Calls Tryz.prog 44 #[v.val, .int .i64 (s : Int), .int .i64 o.tok] W fun e w' => e = .returned (.int .i64 (numO (x.at_ s o.tok))) /\ Below W.heap.size W w') := fun W s hs hb => column_ref S v x s o.tok W (h.below hb) hv hs
  have HE1 : Hid (x.src o.sig = none -> opErr x o = 6) := fun e => opErr_n hv hnk hna (by unfold Col.place; rw [e]; rfl)
  have HE2 : Hid (∀ s, x.src o.sig = some s -> (o.tok < 0 \/ ((x.tks s).length : Int) <= o.tok) -> opErr x o = 6) := fun s e ht => opErr_n hv hnk hna (by unfold Col.place; rw [e]; show (if _ then none else _) = none; rw [if_pos ht])
  have HE3 : Hid (∀ s c, x.src o.sig = some s -> ¬ (o.tok < 0 \/ ((x.tks s).length : Int) <= o.tok) -> x.at_ s o.tok = some c -> opErr x o = kindErr x o s c) := fun s c e ht hc => opErr_k hv hnk hna (place_some.2 ⟨e, by omega, by omega, hc⟩)
  have HSS : Hid (∀ s, x.src o.sig = some s -> s < x.sigla.length) := fun s e => (firstFrom_some.1 e).2.1
  have HAT : Hid (∀ s, s < x.sigla.length -> ¬ (o.tok < 0 \/ ((x.tks s).length : Int) <= o.tok) -> ∃ c, x.at_ s o.tok = some c /\ c < x.cols.length) := fun s hs ht => by
    obtain ⟨c, hc⟩ := at_exists hv hs (t := o.tok) (by omega) (by omega)
    exact ⟨c, hc, (at_some hc).1⟩
  have hgood := (err_iff.1 hv).2
  have hheads := (err_iff.1 hv).1
  have HRL : Hid (∀ r ∈ x.cols, r.length = x.sigla.length) := fun r hr => by rw [hgood.mem hr, lens_len, hheads.len]
  have HTL : Hid (x.toks.length = x.sigla.length) := hheads.len
  have HX := hiq h
  obtain ⟨V, hV⟩ : ∃ V, V = v := ⟨_, rfl⟩
  rw [<- hV] at HX
  have HSN : Hid (v.sn = x.sigla.length) := h.2.2.1.len
  have HCN : Hid (v.cn = x.cols.length) := h.2.2.2.2.len
  have htb := h.2.2.2.1.bound
  have hcb := h.2.2.2.2.bound
  have hsb := h.2.2.1.bound
  clear hm hgood hheads hv hnk hna h
  obtain ⟨sec, sa, sn, sc, ta, tn, tc, ca, cn, cc⟩ := v
  obtain ⟨ok, og, ot, oo, ox⟩ := o
  have hVe : Hid (V = ⟨sec, sa, sn, sc, ta, tn, tc, ca, cn, cc⟩) := hV
  dsimp only at hk h0 h1 htb hcb hsb HSO HCO HE1 HE2 HE3 HSS HAT HSN HCN
  clear hV
  subst hk
  have t5 : ((oo : Int) != 0) = true := by simpa using h0
  have hx0 : ox.toList.isEmpty = true := isEmpty_yes h1
  generalize hE : opErr x _ = E at *
  clear hE
  change Calls _ _ #[.agg #[.string sec, .slice sa sn sc, .slice ta tn tc, .slice ca cn cc], .agg #[.int .i64 3, .string og, .int .i64 ot, .int .i64 oo, .string ox]] _ _
  change Hid (∀ W, _ -> Calls _ _ #[.agg #[.string sec, .slice sa sn sc, .slice ta tn tc, .slice ca cn cc]] _ _) at HC
  change Hid (∀ W, _ -> Calls _ _ #[.agg #[.string sec, .slice sa sn sc, .slice ta tn tc, .slice ca cn cc], _] _ _) at HSO
  change Hid (∀ W (s : Nat), _ -> _ -> Calls _ _ #[.agg #[.string sec, .slice sa sn sc, .slice ta tn tc, .slice ca cn cc], _, _] _ _) at HCO
  obtain ⟨hb0, hC, hO⟩ := box2 w #[.string sec, .slice sa sn sc, .slice ta tn tc, .slice ca cn cc] #[.int .i64 3, .string og, .int .i64 ot, .int .i64 oo, .string ox] 26 28
  have c0 := hC 0 _ rfl
  have c1 := hC 1 _ rfl
  have c2 := hC 2 _ rfl
  have c3 := hC 3 _ rfl
  have o0 := hO 0 _ rfl
  have o1 := hO 1 _ rfl
  have o2 := hO 2 _ rfl
  have o3 := hO 3 _ rfl
  have o4 := hO 4 _ rfl
  have HCC := hiq (HC.out _ hb0)
  clear hC hO HC
  go_enter Tryz.func19, Tryz.ntmps19
  go_wp2_with fail
  generalize (w.alloc (.cells #[.string sec, .slice sa sn sc, .slice ta tn tc, .slice ca cn cc] 26)).alloc (.cells #[.int .i64 3, .string og, .int .i64 ot, .int .i64 oo, .string ox] 28) = W1 at *
  refine HCC.out.mono ?_
  rintro e W2 ⟨rfl, hb2⟩
  have hb3 := hb0.trans (hb2.mono hb0.size)
  replace c0 := clq hb2 c0; replace c1 := clq hb2 c1; replace c2 := clq hb2 c2; replace c3 := clq hb2 c3; replace o0 := clq hb2 o0; replace o1 := clq hb2 o1; replace o2 := clq hb2 o2; replace o3 := clq hb2 o3; replace o4 := clq hb2 o4
  obtain ⟨N, hN⟩ : ∃ N, N = numO (x.src og) := ⟨_, rfl⟩
  rw [<- hN] at HSO
  have HS1 := hiq (HSO.out _ hb3)
  clear HCC hb0 hb2 HSO
  go_wp2_with fail
  refine HS1.out.mono ?_
  rintro e W3 ⟨rfl, hb4⟩
  have hb5 := hb3.trans (hb4.mono hb3.size)
  replace c0 := clq hb4 c0; replace c1 := clq hb4 c1; replace c2 := clq hb4 c2; replace c3 := clq hb4 c3; replace o0 := clq hb4 o0; replace o1 := clq hb4 o1; replace o2 := clq hb4 o2; replace o3 := clq hb4 o3; replace o4 := clq hb4 o4
  have HB5 := hiq hb5
  clear HS1 hb4 hb3 hb5
  cases hsrc : x.src og with
  | none =>
    have HR : Hid (E = 6) := HE1.out hsrc
    rw [hsrc] at hN
    have hN2 : N = -1 := hN
    clear hN
    subst hN2
    clear HE1 HE2 HE3 HSS HAT HCO HX HRL HTL HSN HCN hsrc
    go_wp2_with fail
    go_quiet (fail)
    go_wp2
    go_ret
    exact ⟨ret_int HR.out.symm, below_drewN HB5.out _⟩
  | some s =>
    rw [hsrc] at hN
    have hN2 : N = (s : Int) := hN
    clear hN
    subst hN2
    have hsl := HSS.out s hsrc
    have hss : s < sn := by rw [HSN.out]; exact hsl
    have hx5 := HX.out.below HB5.out
    rw [hVe.out] at hx5
    have hX3 : Tokss S W3 ta tn tc x.toks := hx5.2.2.2.1
    have hX4 : Numss S W3 ca cn cc x.cols := hx5.2.2.2.2
    obtain ⟨tr, tb, tof, ta1, tn1, tk1, htu, htmem, tea, -, -, htr, d1⟩ := hX3.row (j := s) (by rw [hX3.len, HTL.out]; exact hsl)
    subst tea
    have hst : s < tn := by rw [hX3.len, HTL.out]; exact hsl
    have htks : x.tks s = tr := by unfold Col.tks; rw [htu]; rfl
    have htl := htr.len
    have htrb := htr.bound
    have s0 : decide ((s : Int) < 0) = false := decide_eq_false (by omega)
    clear hx5 HX HTL
    by_cases ht : ot < 0
    · have HR : Hid (E = 6) := HE2.out s hsrc (.inl ht)
      clear HE1 HE2 HE3 HSS HAT HCO HRL HSN HCN hsrc hX3 hX4 htu htmem htr htks htl
      go_wp2_with fail
      go_quiet (fail)
      go_wp2
      go_ret
      exact ⟨ret_int HR.out.symm, below_drewN HB5.out _⟩
    · obtain ⟨tk, rfl⟩ : ∃ tk : Nat, ot = (tk : Int) := ⟨ot.toNat, by omega⟩
      have s1 : decide (((tk : Nat) : Int) < 0) = false := decide_eq_false (by omega)
      by_cases ht2 : tn1 <= tk
      · have HR : Hid (E = 6) := HE2.out s hsrc (.inr (by rw [htks, <- htl]; omega))
        clear HE1 HE2 HE3 HSS HAT HCO HRL HSN HCN hsrc hX3 hX4 htu htmem htr htks htl ht
        go_wp2_with fail
        go_quiet (fail)
        go_wp2
        go_ret
        exact ⟨ret_int HR.out.symm, below_drewN HB5.out _⟩
      · have s2 : decide (tn1 <= tk) = false := decide_eq_false ht2
        have hnt : ¬ ((tk : Int) < 0 \/ ((x.tks s).length : Int) <= (tk : Int)) := by rw [htks, <- htl]; omega
        obtain ⟨c, hat, hcl⟩ := HAT.out s hsl hnt
        have HEC := hiq (HE3.out s c hsrc hnt hat)
        have HC1 := HCO.out
        have HC2 : Hid (∀ n, Calls Tryz.prog 44 #[.agg #[.string sec, .slice sa sn sc, .slice (some ⟨tb, tof, none⟩) tn tc, .slice ca cn cc], .int .i64 (s : Int), .int .i64 (tk : Int)] (W3.drewN n) fun e w' => e = .returned (.int .i64 (c : Int)) /\ Below W3.heap.size (W3.drewN n) w') := fun n => by
          have := HC1 (W3.drewN n) s hsl (below_drewN HB5.out n)
          rw [hat] at this; exact this
        have hcl' : c < cn := by rw [HCN.out]; exact hcl
        clear HE1 HE2 HE3 HSS HAT HCO hsrc hX3 htu htmem htr htks htl hsl HC1 hnt hcl hat ht
        go_wp2_with fail
        go_quiet (fail)
        go_wp2_with fail
        refine (HC2.out _).mono ?_
        rintro e W5 ⟨rfl, hb6⟩
        have hb7 : Below W3.heap.size W3 W5 := (below_drewN (Below.refl _ _) _).trans hb6
        have HB9 := hiq (HB5.out.trans (hb7.mono HB5.out.size))
        replace c0 := clq hb7 c0; replace c1 := clq hb7 c1; replace c2 := clq hb7 c2; replace c3 := clq hb7 c3; replace o0 := clq hb7 o0; replace o1 := clq hb7 o1; replace o2 := clq hb7 o2; replace o3 := clq hb7 o3; replace o4 := clq hb7 o4; replace d1 := clq hb7 d1
        replace hX4 := hX4.below (rSl_ok rInt_ok) hb7
        obtain ⟨r, bb, off, a1, n1, k1, hu, hmem, ea, -, -, hr, r1⟩ := hX4.row hcl'
        subst ea
        have er := row_of hu
        clear hb6 hb7 HC2 HB5
        have HEK : Hid (E = (if (oo ≠ -1 /\ oo ≠ 1) \/ (c : Int) + oo < 0 \/ (x.cols.length : Int) <= c + oo then 2 else if 0 <= ent (x.row ((c : Int) + oo).toNat) s then 19 else 0)) := by
          show _ = _; rw [HEC.out]; unfold kindErr; rw [if_neg (by show ¬ (3 : Int) = 1; omega), if_neg (by show ¬ (3 : Int) = 2; omega), if_pos rfl]
        by_cases ha : oo = -1
        · subst ha
          by_cases hq : c = 0
          · have HR : Hid (E = 2) := by show _ = _; rw [HEK.out, if_pos (by rw [<- HCN.out]; omega)]
            subst hq
            clear HEK hX4 hr hu hmem er
            go_wp2
            go_ret
            exact ⟨ret_int HR.out.symm, HB9.out⟩
          · obtain ⟨r2, bb2, off2, a2, n2, k2, hu2, hmem2, ea, -, -, hr2, d2⟩ := hX4.row (j := (c - 1)) (by omega)
            cases ea
            have er2 := row_of hu2
            have hrl2 : n2 = sn := by rw [hr2.len, HRL.out r2 hmem2, HSN.out]
            obtain ⟨u1, b3, off3, hv1, -, ea, -, -, hI1, f1⟩ := hr2.int (j := s) (by omega)
            subst ea
            have e1 := ent_of hv1
            have ho : ((c : Int) + (-1)) = (((c - 1) : Nat) : Int) := by omega
            have hot : ((c : Int) + (-1)).toNat = (c - 1) := by omega
            have hE2 : E = (if 0 <= u1 then 19 else 0) := by rw [HEK.out, if_neg (by rw [<- HCN.out]; omega), hot, er2, e1]
            have HE2' := hiq hE2
            have hrb := hr2.bound
            generalize hcm : (c - 1) = cm at *
            have hcl : cm < cn := by omega
            have hlt : ¬ (cm : Int) < 0 := by omega
            clear HEK hX4 hr hu hmem er hr2 hu2 hmem2 er2 hv1 e1 hE2 hot HRL hcm
            by_cases g1 : 0 <= u1
            · have HR : Hid (E = 19) := by show _ = _; rw [HE2'.out, if_pos g1]
              clear HE2'
              go_wp2
              go_ret
              exact ⟨ret_int HR.out.symm, HB9.out⟩
            · have HR : Hid (E = 0) := by show _ = _; rw [HE2'.out, if_neg g1]
              clear HE2'
              go_wp2
              go_ret
              exact ⟨ret_int HR.out.symm, HB9.out⟩
        · by_cases hb : oo = 1
          · subst hb
            by_cases hq : cn <= c + 1
            · have HR : Hid (E = 2) := by show _ = _; rw [HEK.out, if_pos (by rw [<- HCN.out]; omega)]
              have hlt : ¬ (c : Int) + 1 < 0 := by omega
              have hge : (cn : Int) <= (c : Int) + 1 := by omega
              clear HEK hX4 hr hu hmem er
              go_wp2
              go_ret
              exact ⟨ret_int HR.out.symm, HB9.out⟩
            · obtain ⟨r2, bb2, off2, a2, n2, k2, hu2, hmem2, ea, -, -, hr2, d2⟩ := hX4.row (j := (c + 1)) (by omega)
              cases ea
              have er2 := row_of hu2
              have hrl2 : n2 = sn := by rw [hr2.len, HRL.out r2 hmem2, HSN.out]
              obtain ⟨u1, b3, off3, hv1, -, ea, -, -, hI1, f1⟩ := hr2.int (j := s) (by omega)
              subst ea
              have e1 := ent_of hv1
              have ho : ((c : Int) + 1) = (((c + 1) : Nat) : Int) := by omega
              have hot : ((c : Int) + 1).toNat = (c + 1) := by omega
              have hE2 : E = (if 0 <= u1 then 19 else 0) := by rw [HEK.out, if_neg (by rw [<- HCN.out]; omega), hot, er2, e1]
              have HE2' := hiq hE2
              have hrb := hr2.bound
              generalize hcm : (c + 1) = cm at *
              have hcl : cm < cn := by omega
              have hlt : ¬ (cm : Int) < 0 := by omega
              clear HEK hX4 hr hu hmem er hr2 hu2 hmem2 er2 hv1 e1 hE2 hot HRL hcm
              by_cases g1 : 0 <= u1
              · have HR : Hid (E = 19) := by show _ = _; rw [HE2'.out, if_pos g1]
                clear HE2'
                go_wp2
                go_ret
                exact ⟨ret_int HR.out.symm, HB9.out⟩
              · have HR : Hid (E = 0) := by show _ = _; rw [HE2'.out, if_neg g1]
                clear HE2'
                go_wp2
                go_ret
                exact ⟨ret_int HR.out.symm, HB9.out⟩
          · have u1 : ((oo : Int) != (-1)) = true := by simpa using ha
            have u2 : ((oo : Int) != 1) = true := by simpa using hb
            have HR : Hid (E = 2) := by show _ = _; rw [HEK.out, if_pos (.inl ⟨ha, hb⟩)]
            clear HEK hX4 hr hu hmem er ha hb
            go_wp2
            go_ret
            exact ⟨ret_int HR.out.symm, HB9.out⟩
theorem rck_4e (S : Nat -> Prop) (v : CV) (x : Col) (o : Op) (w : World) (h : RdC S w v x) (hm : Sml x) (hv : x.err = 0) (hk : o.kind = 4) (h0 : o.other = 0) (h1 : o.text.size = 0) :
    Calls Tryz.prog 19 #[v.val, o.val] w fun e w' => e = .returned (.int .i64 (opErr x o)) /\ Below w.heap.size w w' := by
  have hnk : ¬ (o.kind < 1 \/ 4 < o.kind) := by omega
  have hna : ¬ ((o.other ≠ 0 /\ o.kind ≠ 3) \/ (o.text.size ≠ 0 /\ o.kind ≠ 4)) := by rintro (⟨q, r⟩ | ⟨q, r⟩) <;> first | exact q h0 | exact q h1 | exact r hk
  have HC : Hid (∀ W, Below w.heap.size w W -> Calls Tryz.prog 50 #[v.val] W fun e w' => e = .returned (.int .i64 0) /\ Below W.heap.size W w') := fun W hb => by
    have := check_ref S v x W (h.below hb) hm
    rw [hv] at this; exact this
  have HSO : Hid (∀ W, Below w.heap.size w W -> Calls Tryz.prog 43 #[v.val, .string o.sig] W fun e w' => e = .returned (.int .i64 (numO (x.src o.sig))) /\ Below W.heap.size W w') := fun W hb => source_ref S v x o.sig W (h.below hb)
  have HCO : Hid (∀ W (s : Nat), s < x.sigla.length -> Below w.heap.size w W -> Calls Tryz.prog 44 #[v.val, .int .i64 (s : Int), .int .i64 o.tok] W fun e w' => e = .returned (.int .i64 (numO (x.at_ s o.tok))) /\ Below W.heap.size W w') := fun W s hs hb => column_ref S v x s o.tok W (h.below hb) hv hs
  have HE1 : Hid (x.src o.sig = none -> opErr x o = 6) := fun e => opErr_n hv hnk hna (by unfold Col.place; rw [e]; rfl)
  have HE2 : Hid (∀ s, x.src o.sig = some s -> (o.tok < 0 \/ ((x.tks s).length : Int) <= o.tok) -> opErr x o = 6) := fun s e ht => opErr_n hv hnk hna (by unfold Col.place; rw [e]; show (if _ then none else _) = none; rw [if_pos ht])
  have HE3 : Hid (∀ s c, x.src o.sig = some s -> ¬ (o.tok < 0 \/ ((x.tks s).length : Int) <= o.tok) -> x.at_ s o.tok = some c -> opErr x o = kindErr x o s c) := fun s c e ht hc => opErr_k hv hnk hna (place_some.2 ⟨e, by omega, by omega, hc⟩)
  have HSS : Hid (∀ s, x.src o.sig = some s -> s < x.sigla.length) := fun s e => (firstFrom_some.1 e).2.1
  have HAT : Hid (∀ s, s < x.sigla.length -> ¬ (o.tok < 0 \/ ((x.tks s).length : Int) <= o.tok) -> ∃ c, x.at_ s o.tok = some c /\ c < x.cols.length) := fun s hs ht => by
    obtain ⟨c, hc⟩ := at_exists hv hs (t := o.tok) (by omega) (by omega)
    exact ⟨c, hc, (at_some hc).1⟩
  have hgood := (err_iff.1 hv).2
  have hheads := (err_iff.1 hv).1
  have HRL : Hid (∀ r ∈ x.cols, r.length = x.sigla.length) := fun r hr => by rw [hgood.mem hr, lens_len, hheads.len]
  have HTL : Hid (x.toks.length = x.sigla.length) := hheads.len
  have HX := hiq h
  obtain ⟨V, hV⟩ : ∃ V, V = v := ⟨_, rfl⟩
  rw [<- hV] at HX
  have HSN : Hid (v.sn = x.sigla.length) := h.2.2.1.len
  have HCN : Hid (v.cn = x.cols.length) := h.2.2.2.2.len
  have htb := h.2.2.2.1.bound
  have hcb := h.2.2.2.2.bound
  have hsb := h.2.2.1.bound
  clear hm hgood hheads hv hnk hna h
  obtain ⟨sec, sa, sn, sc, ta, tn, tc, ca, cn, cc⟩ := v
  obtain ⟨ok, og, ot, oo, ox⟩ := o
  have hVe : Hid (V = ⟨sec, sa, sn, sc, ta, tn, tc, ca, cn, cc⟩) := hV
  dsimp only at hk h0 h1 htb hcb hsb HSO HCO HE1 HE2 HE3 HSS HAT HSN HCN
  clear hV
  subst hk
  subst h0
  have hx0 : ox.toList.isEmpty = true := isEmpty_yes h1
  generalize hE : opErr x _ = E at *
  clear hE
  change Calls _ _ #[.agg #[.string sec, .slice sa sn sc, .slice ta tn tc, .slice ca cn cc], .agg #[.int .i64 4, .string og, .int .i64 ot, .int .i64 0, .string ox]] _ _
  change Hid (∀ W, _ -> Calls _ _ #[.agg #[.string sec, .slice sa sn sc, .slice ta tn tc, .slice ca cn cc]] _ _) at HC
  change Hid (∀ W, _ -> Calls _ _ #[.agg #[.string sec, .slice sa sn sc, .slice ta tn tc, .slice ca cn cc], _] _ _) at HSO
  change Hid (∀ W (s : Nat), _ -> _ -> Calls _ _ #[.agg #[.string sec, .slice sa sn sc, .slice ta tn tc, .slice ca cn cc], _, _] _ _) at HCO
  obtain ⟨hb0, hC, hO⟩ := box2 w #[.string sec, .slice sa sn sc, .slice ta tn tc, .slice ca cn cc] #[.int .i64 4, .string og, .int .i64 ot, .int .i64 0, .string ox] 26 28
  have c0 := hC 0 _ rfl
  have c1 := hC 1 _ rfl
  have c2 := hC 2 _ rfl
  have c3 := hC 3 _ rfl
  have o0 := hO 0 _ rfl
  have o1 := hO 1 _ rfl
  have o2 := hO 2 _ rfl
  have o3 := hO 3 _ rfl
  have o4 := hO 4 _ rfl
  have HCC := hiq (HC.out _ hb0)
  clear hC hO HC
  go_enter Tryz.func19, Tryz.ntmps19
  go_wp2_with fail
  generalize (w.alloc (.cells #[.string sec, .slice sa sn sc, .slice ta tn tc, .slice ca cn cc] 26)).alloc (.cells #[.int .i64 4, .string og, .int .i64 ot, .int .i64 0, .string ox] 28) = W1 at *
  refine HCC.out.mono ?_
  rintro e W2 ⟨rfl, hb2⟩
  have hb3 := hb0.trans (hb2.mono hb0.size)
  replace c0 := clq hb2 c0; replace c1 := clq hb2 c1; replace c2 := clq hb2 c2; replace c3 := clq hb2 c3; replace o0 := clq hb2 o0; replace o1 := clq hb2 o1; replace o2 := clq hb2 o2; replace o3 := clq hb2 o3; replace o4 := clq hb2 o4
  obtain ⟨N, hN⟩ : ∃ N, N = numO (x.src og) := ⟨_, rfl⟩
  rw [<- hN] at HSO
  have HS1 := hiq (HSO.out _ hb3)
  clear HCC hb0 hb2 HSO
  go_wp2_with fail
  refine HS1.out.mono ?_
  rintro e W3 ⟨rfl, hb4⟩
  have hb5 := hb3.trans (hb4.mono hb3.size)
  replace c0 := clq hb4 c0; replace c1 := clq hb4 c1; replace c2 := clq hb4 c2; replace c3 := clq hb4 c3; replace o0 := clq hb4 o0; replace o1 := clq hb4 o1; replace o2 := clq hb4 o2; replace o3 := clq hb4 o3; replace o4 := clq hb4 o4
  have HB5 := hiq hb5
  clear HS1 hb4 hb3 hb5
  cases hsrc : x.src og with
  | none =>
    have HR : Hid (E = 6) := HE1.out hsrc
    rw [hsrc] at hN
    have hN2 : N = -1 := hN
    clear hN
    subst hN2
    clear HE1 HE2 HE3 HSS HAT HCO HX HRL HTL HSN HCN hsrc
    go_wp2_with fail
    go_quiet (fail)
    go_wp2
    go_ret
    exact ⟨ret_int HR.out.symm, below_drewN HB5.out _⟩
  | some s =>
    rw [hsrc] at hN
    have hN2 : N = (s : Int) := hN
    clear hN
    subst hN2
    have hsl := HSS.out s hsrc
    have hss : s < sn := by rw [HSN.out]; exact hsl
    have hx5 := HX.out.below HB5.out
    rw [hVe.out] at hx5
    have hX3 : Tokss S W3 ta tn tc x.toks := hx5.2.2.2.1
    have hX4 : Numss S W3 ca cn cc x.cols := hx5.2.2.2.2
    obtain ⟨tr, tb, tof, ta1, tn1, tk1, htu, htmem, tea, -, -, htr, d1⟩ := hX3.row (j := s) (by rw [hX3.len, HTL.out]; exact hsl)
    subst tea
    have hst : s < tn := by rw [hX3.len, HTL.out]; exact hsl
    have htks : x.tks s = tr := by unfold Col.tks; rw [htu]; rfl
    have htl := htr.len
    have htrb := htr.bound
    have s0 : decide ((s : Int) < 0) = false := decide_eq_false (by omega)
    clear hx5 HX HTL
    by_cases ht : ot < 0
    · have HR : Hid (E = 6) := HE2.out s hsrc (.inl ht)
      clear HE1 HE2 HE3 HSS HAT HCO HRL HSN HCN hsrc hX3 hX4 htu htmem htr htks htl
      go_wp2_with fail
      go_quiet (fail)
      go_wp2
      go_ret
      exact ⟨ret_int HR.out.symm, below_drewN HB5.out _⟩
    · obtain ⟨tk, rfl⟩ : ∃ tk : Nat, ot = (tk : Int) := ⟨ot.toNat, by omega⟩
      have s1 : decide (((tk : Nat) : Int) < 0) = false := decide_eq_false (by omega)
      by_cases ht2 : tn1 <= tk
      · have HR : Hid (E = 6) := HE2.out s hsrc (.inr (by rw [htks, <- htl]; omega))
        clear HE1 HE2 HE3 HSS HAT HCO HRL HSN HCN hsrc hX3 hX4 htu htmem htr htks htl ht
        go_wp2_with fail
        go_quiet (fail)
        go_wp2
        go_ret
        exact ⟨ret_int HR.out.symm, below_drewN HB5.out _⟩
      · have s2 : decide (tn1 <= tk) = false := decide_eq_false ht2
        have hnt : ¬ ((tk : Int) < 0 \/ ((x.tks s).length : Int) <= (tk : Int)) := by rw [htks, <- htl]; omega
        obtain ⟨c, hat, hcl⟩ := HAT.out s hsl hnt
        have HEC := hiq (HE3.out s c hsrc hnt hat)
        have HC1 := HCO.out
        have HC2 : Hid (∀ n, Calls Tryz.prog 44 #[.agg #[.string sec, .slice sa sn sc, .slice (some ⟨tb, tof, none⟩) tn tc, .slice ca cn cc], .int .i64 (s : Int), .int .i64 (tk : Int)] (W3.drewN n) fun e w' => e = .returned (.int .i64 (c : Int)) /\ Below W3.heap.size (W3.drewN n) w') := fun n => by
          have := HC1 (W3.drewN n) s hsl (below_drewN HB5.out n)
          rw [hat] at this; exact this
        have hcl' : c < cn := by rw [HCN.out]; exact hcl
        obtain ⟨t, b2, off2, hv2, htmem2, ea2, -, -, -, ⟨e0, e1, e2, e3, e4, e5⟩⟩ := htr.tok (j := tk) (by omega)
        subst ea2
        have htk : x.tk s (tk : Int) = t := by unfold Col.tk; rw [htks, Int.toNat_natCast, hv2]; rfl
        have htn : tk < tn1 := by omega
        clear hv2 htmem2
        clear HE1 HE2 HE3 HSS HAT HCO hsrc hX3 htu htmem htr htks htl hsl HC1 hnt hcl hat ht
        go_wp2_with fail
        go_quiet (fail)
        go_wp2_with fail
        refine (HC2.out _).mono ?_
        rintro e W5 ⟨rfl, hb6⟩
        have hb7 : Below W3.heap.size W3 W5 := (below_drewN (Below.refl _ _) _).trans hb6
        have HB9 := hiq (HB5.out.trans (hb7.mono HB5.out.size))
        replace c0 := clq hb7 c0; replace c1 := clq hb7 c1; replace c2 := clq hb7 c2; replace c3 := clq hb7 c3; replace o0 := clq hb7 o0; replace o1 := clq hb7 o1; replace o2 := clq hb7 o2; replace o3 := clq hb7 o3; replace o4 := clq hb7 o4; replace d1 := clq hb7 d1; replace e0 := clq hb7 e0; replace e1 := clq hb7 e1; replace e2 := clq hb7 e2; replace e3 := clq hb7 e3; replace e4 := clq hb7 e4; replace e5 := clq hb7 e5
        replace hX4 := hX4.below (rSl_ok rInt_ok) hb7
        obtain ⟨r, bb, off, a1, n1, k1, hu, hmem, ea, -, -, hr, r1⟩ := hX4.row hcl'
        subst ea
        have er := row_of hu
        clear hb6 hb7 HC2 HB5
        have HEK : Hid (E = (if Tok.err { x.tk s (tk : Int) with norm := ox } ≠ 0 then 11 else 0)) := by
          show _ = _; rw [HEC.out]; unfold kindErr; rw [if_neg (by show ¬ (4 : Int) = 1; omega), if_neg (by show ¬ (4 : Int) = 2; omega), if_neg (by show ¬ (4 : Int) = 3; omega)]
        rw [htk] at HEK
        clear hX4 hr hu hmem er htk
        obtain ⟨tx, nm, pg, ln, fl, na⟩ := t
        dsimp only at HEK e0 e1 e2 e3 e4 e5
        have HF : Hid (∀ W, Calls Tryz.prog 51 #[.agg #[.string tx, .string ox, .string pg, .int .i64 ln, .int .i64 fl, .string na]] W fun e w' => e = .returned (.int .i64 (Tok.err ⟨tx, ox, pg, ln, fl, na⟩)) /\ Below W.heap.size W w') := fun W => tok_ref tx ox pg na ln fl W
        generalize Tok.err ⟨tx, ox, pg, ln, fl, na⟩ = TE at *
        go_wp2_with fail
        obtain ⟨X, Wf, hX, hS1, hS2⟩ := family (fun V => Below W5.heap.size W5 V) W5 (Below.refl _ _)
        have HS2 := hiq hS2
        have q_c2 := fun x => clq (hS1 x) c2
        have q_o2 := fun x => clq (hS1 x) o2
        have q_d1 := fun x => clq (hS1 x) d1
        have q_e0 := fun x => clq (hS1 x) e0
        have q_e1 := fun x => clq (hS1 x) e1
        have q_e2 := fun x => clq (hS1 x) e2
        have q_e3 := fun x => clq (hS1 x) e3
        have q_e4 := fun x => clq (hS1 x) e4
        have q_e5 := fun x => clq (hS1 x) e5
        clear hS1 hS2
        have hd0 : Below W5.heap.size W5 W5.drew := (Below.refl _ _).drew
        refine wp_region_tree (Wf := Wf) 10 (.read 0 (.read 1 (.read 2 (.read 3 (.read 4 (.read 5 (.read 6 (.read 7 (.read 8 (.act 9 .fin)))))))))) (by kernel_rfl) (by kernel_rfl) (fun _ _ d _ _ h => by cases d <;> exact h) (HS2.out _ hd0) ?_
        refine wpTree_read _ rfl (fun K hK => ?_); unfold rOp; go_simp; (refine hK _ ?_; clear hK K)
        refine wpTree_read _ rfl (fun K hK => ?_); unfold rOp; go_simp; (refine hK _ ?_; clear hK K)
        refine wpTree_read _ rfl (fun K hK => ?_); unfold rOp; go_simp; (refine hK _ ?_; clear hK K)
        refine wpTree_read _ rfl (fun K hK => ?_); unfold rOp; go_simp; (refine hK _ ?_; clear hK K)
        refine wpTree_read _ rfl (fun K hK => ?_); unfold rOp; go_simp; (refine hK _ ?_; clear hK K)
        refine wpTree_read _ rfl (fun K hK => ?_); unfold rOp; go_simp; (refine hK _ ?_; clear hK K)
        refine wpTree_read _ rfl (fun K hK => ?_); unfold rOp; go_simp; (refine hK _ ?_; clear hK K)
        refine wpTree_read _ rfl (fun K hK => ?_); unfold rOp; go_simp; (refine hK _ ?_; clear hK K)
        refine wpTree_read _ rfl (fun K hK => ?_); unfold rOp; go_simp; (refine hK _ ?_; clear hK K)
        clear q_c2 q_o2 q_d1 q_e0 q_e1 q_e2 q_e3 q_e4 q_e5
        refine wpTree_act _ rfl ?_
        go_wp2_with fail
        have hc1 : Below W5.heap.size W5 (W5.alloc (.cells #[.string ⟨#[]⟩, .string ⟨#[]⟩, .string ⟨#[]⟩, .int .i64 0, .int .i64 0, .string ⟨#[]⟩] 76)).drew := ((Below.refl _ _).alloc (Nat.le_refl _) _).drew
        refine ⟨HS2.out _ hc1, wpTree_fin ?_⟩
        simp only [List.drop_succ_cons, List.drop_zero]
        have hc2 : Below W5.heap.size W5 (W5.alloc (.cells #[.string tx, .string nm, .string pg, .int .i64 ln, .int .i64 fl, .string na] 76)).drew := ((Below.refl _ _).alloc (Nat.le_refl _) _).drew
        have o4' := clq hc2 o4
        have hc3 : Below W5.heap.size W5 (W5.alloc (.cells #[.string tx, .string ox, .string pg, .int .i64 ln, .int .i64 fl, .string na] 76)).drew := ((Below.refl _ _).alloc (Nat.le_refl _) _).drew
        have hb10 : Below w.heap.size w (W5.alloc (.cells #[.string tx, .string ox, .string pg, .int .i64 ln, .int .i64 fl, .string na] 76)).drew := HB9.out.trans (hc3.mono HB9.out.size)
        have HFF := hiq (HF.out (W5.alloc (.cells #[.string tx, .string ox, .string pg, .int .i64 ln, .int .i64 fl, .string na] 76)).drew)
        clear HS2 hX hc1 hc2 hc3 c0 c1 c2 c3 o0 o1 o2 o3 o4 d1 r1 e0 e1 e2 e3 e4 e5 hd0
        by_cases hT : TE = 0
        · have HR : Hid (E = 0) := by show _ = _; rw [HEK.out, if_neg (by simp [hT])]
          have t0 : ((TE : Int) != 0) = false := by simp [hT]
          clear HEK hT
          go_wp2_with fail
          refine HFF.out.mono ?_
          rintro e W6 ⟨rfl, hb11⟩
          go_wp2
          go_ret
          exact ⟨ret_int HR.out.symm, hb10.trans (hb11.mono hb10.size)⟩
        · have HR : Hid (E = 11) := by show _ = _; rw [HEK.out, if_pos hT]
          have t0 : ((TE : Int) != 0) = true := by simpa using hT
          clear HEK hT
          go_wp2_with fail
          refine HFF.out.mono ?_
          rintro e W6 ⟨rfl, hb11⟩
          go_wp2
          go_ret
          exact ⟨ret_int HR.out.symm, hb10.trans (hb11.mono hb10.size)⟩
theorem rck_4n (S : Nat -> Prop) (v : CV) (x : Col) (o : Op) (w : World) (h : RdC S w v x) (hm : Sml x) (hv : x.err = 0) (hk : o.kind = 4) (h0 : o.other = 0) (h1 : o.text.size ≠ 0) :
    Calls Tryz.prog 19 #[v.val, o.val] w fun e w' => e = .returned (.int .i64 (opErr x o)) /\ Below w.heap.size w w' := by
  have hnk : ¬ (o.kind < 1 \/ 4 < o.kind) := by omega
  have hna : ¬ ((o.other ≠ 0 /\ o.kind ≠ 3) \/ (o.text.size ≠ 0 /\ o.kind ≠ 4)) := by rintro (⟨q, r⟩ | ⟨q, r⟩) <;> first | exact q h0 | exact q h1 | exact r hk
  have HC : Hid (∀ W, Below w.heap.size w W -> Calls Tryz.prog 50 #[v.val] W fun e w' => e = .returned (.int .i64 0) /\ Below W.heap.size W w') := fun W hb => by
    have := check_ref S v x W (h.below hb) hm
    rw [hv] at this; exact this
  have HSO : Hid (∀ W, Below w.heap.size w W -> Calls Tryz.prog 43 #[v.val, .string o.sig] W fun e w' => e = .returned (.int .i64 (numO (x.src o.sig))) /\ Below W.heap.size W w') := fun W hb => source_ref S v x o.sig W (h.below hb)
  have HCO : Hid (∀ W (s : Nat), s < x.sigla.length -> Below w.heap.size w W -> Calls Tryz.prog 44 #[v.val, .int .i64 (s : Int), .int .i64 o.tok] W fun e w' => e = .returned (.int .i64 (numO (x.at_ s o.tok))) /\ Below W.heap.size W w') := fun W s hs hb => column_ref S v x s o.tok W (h.below hb) hv hs
  have HE1 : Hid (x.src o.sig = none -> opErr x o = 6) := fun e => opErr_n hv hnk hna (by unfold Col.place; rw [e]; rfl)
  have HE2 : Hid (∀ s, x.src o.sig = some s -> (o.tok < 0 \/ ((x.tks s).length : Int) <= o.tok) -> opErr x o = 6) := fun s e ht => opErr_n hv hnk hna (by unfold Col.place; rw [e]; show (if _ then none else _) = none; rw [if_pos ht])
  have HE3 : Hid (∀ s c, x.src o.sig = some s -> ¬ (o.tok < 0 \/ ((x.tks s).length : Int) <= o.tok) -> x.at_ s o.tok = some c -> opErr x o = kindErr x o s c) := fun s c e ht hc => opErr_k hv hnk hna (place_some.2 ⟨e, by omega, by omega, hc⟩)
  have HSS : Hid (∀ s, x.src o.sig = some s -> s < x.sigla.length) := fun s e => (firstFrom_some.1 e).2.1
  have HAT : Hid (∀ s, s < x.sigla.length -> ¬ (o.tok < 0 \/ ((x.tks s).length : Int) <= o.tok) -> ∃ c, x.at_ s o.tok = some c /\ c < x.cols.length) := fun s hs ht => by
    obtain ⟨c, hc⟩ := at_exists hv hs (t := o.tok) (by omega) (by omega)
    exact ⟨c, hc, (at_some hc).1⟩
  have hgood := (err_iff.1 hv).2
  have hheads := (err_iff.1 hv).1
  have HRL : Hid (∀ r ∈ x.cols, r.length = x.sigla.length) := fun r hr => by rw [hgood.mem hr, lens_len, hheads.len]
  have HTL : Hid (x.toks.length = x.sigla.length) := hheads.len
  have HX := hiq h
  obtain ⟨V, hV⟩ : ∃ V, V = v := ⟨_, rfl⟩
  rw [<- hV] at HX
  have HSN : Hid (v.sn = x.sigla.length) := h.2.2.1.len
  have HCN : Hid (v.cn = x.cols.length) := h.2.2.2.2.len
  have htb := h.2.2.2.1.bound
  have hcb := h.2.2.2.2.bound
  have hsb := h.2.2.1.bound
  clear hm hgood hheads hv hnk hna h
  obtain ⟨sec, sa, sn, sc, ta, tn, tc, ca, cn, cc⟩ := v
  obtain ⟨ok, og, ot, oo, ox⟩ := o
  have hVe : Hid (V = ⟨sec, sa, sn, sc, ta, tn, tc, ca, cn, cc⟩) := hV
  dsimp only at hk h0 h1 htb hcb hsb HSO HCO HE1 HE2 HE3 HSS HAT HSN HCN
  clear hV
  subst hk
  subst h0
  have hx0 : ox.toList.isEmpty = false := isEmpty_no h1
  generalize hE : opErr x _ = E at *
  clear hE
  change Calls _ _ #[.agg #[.string sec, .slice sa sn sc, .slice ta tn tc, .slice ca cn cc], .agg #[.int .i64 4, .string og, .int .i64 ot, .int .i64 0, .string ox]] _ _
  change Hid (∀ W, _ -> Calls _ _ #[.agg #[.string sec, .slice sa sn sc, .slice ta tn tc, .slice ca cn cc]] _ _) at HC
  change Hid (∀ W, _ -> Calls _ _ #[.agg #[.string sec, .slice sa sn sc, .slice ta tn tc, .slice ca cn cc], _] _ _) at HSO
  change Hid (∀ W (s : Nat), _ -> _ -> Calls _ _ #[.agg #[.string sec, .slice sa sn sc, .slice ta tn tc, .slice ca cn cc], _, _] _ _) at HCO
  obtain ⟨hb0, hC, hO⟩ := box2 w #[.string sec, .slice sa sn sc, .slice ta tn tc, .slice ca cn cc] #[.int .i64 4, .string og, .int .i64 ot, .int .i64 0, .string ox] 26 28
  have c0 := hC 0 _ rfl
  have c1 := hC 1 _ rfl
  have c2 := hC 2 _ rfl
  have c3 := hC 3 _ rfl
  have o0 := hO 0 _ rfl
  have o1 := hO 1 _ rfl
  have o2 := hO 2 _ rfl
  have o3 := hO 3 _ rfl
  have o4 := hO 4 _ rfl
  have HCC := hiq (HC.out _ hb0)
  clear hC hO HC
  go_enter Tryz.func19, Tryz.ntmps19
  go_wp2_with fail
  generalize (w.alloc (.cells #[.string sec, .slice sa sn sc, .slice ta tn tc, .slice ca cn cc] 26)).alloc (.cells #[.int .i64 4, .string og, .int .i64 ot, .int .i64 0, .string ox] 28) = W1 at *
  refine HCC.out.mono ?_
  rintro e W2 ⟨rfl, hb2⟩
  have hb3 := hb0.trans (hb2.mono hb0.size)
  replace c0 := clq hb2 c0; replace c1 := clq hb2 c1; replace c2 := clq hb2 c2; replace c3 := clq hb2 c3; replace o0 := clq hb2 o0; replace o1 := clq hb2 o1; replace o2 := clq hb2 o2; replace o3 := clq hb2 o3; replace o4 := clq hb2 o4
  obtain ⟨N, hN⟩ : ∃ N, N = numO (x.src og) := ⟨_, rfl⟩
  rw [<- hN] at HSO
  have HS1 := hiq (HSO.out _ hb3)
  clear HCC hb0 hb2 HSO
  go_wp2_with fail
  refine HS1.out.mono ?_
  rintro e W3 ⟨rfl, hb4⟩
  have hb5 := hb3.trans (hb4.mono hb3.size)
  replace c0 := clq hb4 c0; replace c1 := clq hb4 c1; replace c2 := clq hb4 c2; replace c3 := clq hb4 c3; replace o0 := clq hb4 o0; replace o1 := clq hb4 o1; replace o2 := clq hb4 o2; replace o3 := clq hb4 o3; replace o4 := clq hb4 o4
  have HB5 := hiq hb5
  clear HS1 hb4 hb3 hb5
  cases hsrc : x.src og with
  | none =>
    have HR : Hid (E = 6) := HE1.out hsrc
    rw [hsrc] at hN
    have hN2 : N = -1 := hN
    clear hN
    subst hN2
    clear HE1 HE2 HE3 HSS HAT HCO HX HRL HTL HSN HCN hsrc
    go_wp2_with fail
    go_quiet (fail)
    go_wp2
    go_ret
    exact ⟨ret_int HR.out.symm, below_drewN HB5.out _⟩
  | some s =>
    rw [hsrc] at hN
    have hN2 : N = (s : Int) := hN
    clear hN
    subst hN2
    have hsl := HSS.out s hsrc
    have hss : s < sn := by rw [HSN.out]; exact hsl
    have hx5 := HX.out.below HB5.out
    rw [hVe.out] at hx5
    have hX3 : Tokss S W3 ta tn tc x.toks := hx5.2.2.2.1
    have hX4 : Numss S W3 ca cn cc x.cols := hx5.2.2.2.2
    obtain ⟨tr, tb, tof, ta1, tn1, tk1, htu, htmem, tea, -, -, htr, d1⟩ := hX3.row (j := s) (by rw [hX3.len, HTL.out]; exact hsl)
    subst tea
    have hst : s < tn := by rw [hX3.len, HTL.out]; exact hsl
    have htks : x.tks s = tr := by unfold Col.tks; rw [htu]; rfl
    have htl := htr.len
    have htrb := htr.bound
    have s0 : decide ((s : Int) < 0) = false := decide_eq_false (by omega)
    clear hx5 HX HTL
    by_cases ht : ot < 0
    · have HR : Hid (E = 6) := HE2.out s hsrc (.inl ht)
      clear HE1 HE2 HE3 HSS HAT HCO HRL HSN HCN hsrc hX3 hX4 htu htmem htr htks htl
      go_wp2_with fail
      go_quiet (fail)
      go_wp2
      go_ret
      exact ⟨ret_int HR.out.symm, below_drewN HB5.out _⟩
    · obtain ⟨tk, rfl⟩ : ∃ tk : Nat, ot = (tk : Int) := ⟨ot.toNat, by omega⟩
      have s1 : decide (((tk : Nat) : Int) < 0) = false := decide_eq_false (by omega)
      by_cases ht2 : tn1 <= tk
      · have HR : Hid (E = 6) := HE2.out s hsrc (.inr (by rw [htks, <- htl]; omega))
        clear HE1 HE2 HE3 HSS HAT HCO HRL HSN HCN hsrc hX3 hX4 htu htmem htr htks htl ht
        go_wp2_with fail
        go_quiet (fail)
        go_wp2
        go_ret
        exact ⟨ret_int HR.out.symm, below_drewN HB5.out _⟩
      · have s2 : decide (tn1 <= tk) = false := decide_eq_false ht2
        have hnt : ¬ ((tk : Int) < 0 \/ ((x.tks s).length : Int) <= (tk : Int)) := by rw [htks, <- htl]; omega
        obtain ⟨c, hat, hcl⟩ := HAT.out s hsl hnt
        have HEC := hiq (HE3.out s c hsrc hnt hat)
        have HC1 := HCO.out
        have HC2 : Hid (∀ n, Calls Tryz.prog 44 #[.agg #[.string sec, .slice sa sn sc, .slice (some ⟨tb, tof, none⟩) tn tc, .slice ca cn cc], .int .i64 (s : Int), .int .i64 (tk : Int)] (W3.drewN n) fun e w' => e = .returned (.int .i64 (c : Int)) /\ Below W3.heap.size (W3.drewN n) w') := fun n => by
          have := HC1 (W3.drewN n) s hsl (below_drewN HB5.out n)
          rw [hat] at this; exact this
        have hcl' : c < cn := by rw [HCN.out]; exact hcl
        obtain ⟨t, b2, off2, hv2, htmem2, ea2, -, -, -, ⟨e0, e1, e2, e3, e4, e5⟩⟩ := htr.tok (j := tk) (by omega)
        subst ea2
        have htk : x.tk s (tk : Int) = t := by unfold Col.tk; rw [htks, Int.toNat_natCast, hv2]; rfl
        have htn : tk < tn1 := by omega
        clear hv2 htmem2
        clear HE1 HE2 HE3 HSS HAT HCO hsrc hX3 htu htmem htr htks htl hsl HC1 hnt hcl hat ht
        go_wp2_with fail
        go_quiet (fail)
        go_wp2_with fail
        refine (HC2.out _).mono ?_
        rintro e W5 ⟨rfl, hb6⟩
        have hb7 : Below W3.heap.size W3 W5 := (below_drewN (Below.refl _ _) _).trans hb6
        have HB9 := hiq (HB5.out.trans (hb7.mono HB5.out.size))
        replace c0 := clq hb7 c0; replace c1 := clq hb7 c1; replace c2 := clq hb7 c2; replace c3 := clq hb7 c3; replace o0 := clq hb7 o0; replace o1 := clq hb7 o1; replace o2 := clq hb7 o2; replace o3 := clq hb7 o3; replace o4 := clq hb7 o4; replace d1 := clq hb7 d1; replace e0 := clq hb7 e0; replace e1 := clq hb7 e1; replace e2 := clq hb7 e2; replace e3 := clq hb7 e3; replace e4 := clq hb7 e4; replace e5 := clq hb7 e5
        replace hX4 := hX4.below (rSl_ok rInt_ok) hb7
        obtain ⟨r, bb, off, a1, n1, k1, hu, hmem, ea, -, -, hr, r1⟩ := hX4.row hcl'
        subst ea
        have er := row_of hu
        clear hb6 hb7 HC2 HB5
        have HEK : Hid (E = (if Tok.err { x.tk s (tk : Int) with norm := ox } ≠ 0 then 11 else 0)) := by
          show _ = _; rw [HEC.out]; unfold kindErr; rw [if_neg (by show ¬ (4 : Int) = 1; omega), if_neg (by show ¬ (4 : Int) = 2; omega), if_neg (by show ¬ (4 : Int) = 3; omega)]
        rw [htk] at HEK
        clear hX4 hr hu hmem er htk
        obtain ⟨tx, nm, pg, ln, fl, na⟩ := t
        dsimp only at HEK e0 e1 e2 e3 e4 e5
        have HF : Hid (∀ W, Calls Tryz.prog 51 #[.agg #[.string tx, .string ox, .string pg, .int .i64 ln, .int .i64 fl, .string na]] W fun e w' => e = .returned (.int .i64 (Tok.err ⟨tx, ox, pg, ln, fl, na⟩)) /\ Below W.heap.size W w') := fun W => tok_ref tx ox pg na ln fl W
        generalize Tok.err ⟨tx, ox, pg, ln, fl, na⟩ = TE at *
        go_wp2_with fail
        obtain ⟨X, Wf, hX, hS1, hS2⟩ := family (fun V => Below W5.heap.size W5 V) W5 (Below.refl _ _)
        have HS2 := hiq hS2
        have q_c2 := fun x => clq (hS1 x) c2
        have q_o2 := fun x => clq (hS1 x) o2
        have q_d1 := fun x => clq (hS1 x) d1
        have q_e0 := fun x => clq (hS1 x) e0
        have q_e1 := fun x => clq (hS1 x) e1
        have q_e2 := fun x => clq (hS1 x) e2
        have q_e3 := fun x => clq (hS1 x) e3
        have q_e4 := fun x => clq (hS1 x) e4
        have q_e5 := fun x => clq (hS1 x) e5
        clear hS1 hS2
        have hd0 : Below W5.heap.size W5 W5.drew := (Below.refl _ _).drew
        refine wp_region_tree (Wf := Wf) 10 (.read 0 (.read 1 (.read 2 (.read 3 (.read 4 (.read 5 (.read 6 (.read 7 (.read 8 (.act 9 .fin)))))))))) (by kernel_rfl) (by kernel_rfl) (fun _ _ d _ _ h => by cases d <;> exact h) (HS2.out _ hd0) ?_
        refine wpTree_read _ rfl (fun K hK => ?_); unfold rOp; go_simp; (refine hK _ ?_; clear hK K)
        refine wpTree_read _ rfl (fun K hK => ?_); unfold rOp; go_simp; (refine hK _ ?_; clear hK K)
        refine wpTree_read _ rfl (fun K hK => ?_); unfold rOp; go_simp; (refine hK _ ?_; clear hK K)
        refine wpTree_read _ rfl (fun K hK => ?_); unfold rOp; go_simp; (refine hK _ ?_; clear hK K)
        refine wpTree_read _ rfl (fun K hK => ?_); unfold rOp; go_simp; (refine hK _ ?_; clear hK K)
        refine wpTree_read _ rfl (fun K hK => ?_); unfold rOp; go_simp; (refine hK _ ?_; clear hK K)
        refine wpTree_read _ rfl (fun K hK => ?_); unfold rOp; go_simp; (refine hK _ ?_; clear hK K)
        refine wpTree_read _ rfl (fun K hK => ?_); unfold rOp; go_simp; (refine hK _ ?_; clear hK K)
        refine wpTree_read _ rfl (fun K hK => ?_); unfold rOp; go_simp; (refine hK _ ?_; clear hK K)
        clear q_c2 q_o2 q_d1 q_e0 q_e1 q_e2 q_e3 q_e4 q_e5
        refine wpTree_act _ rfl ?_
        go_wp2_with fail
        have hc1 : Below W5.heap.size W5 (W5.alloc (.cells #[.string ⟨#[]⟩, .string ⟨#[]⟩, .string ⟨#[]⟩, .int .i64 0, .int .i64 0, .string ⟨#[]⟩] 76)).drew := ((Below.refl _ _).alloc (Nat.le_refl _) _).drew
        refine ⟨HS2.out _ hc1, wpTree_fin ?_⟩
        simp only [List.drop_succ_cons, List.drop_zero]
        have hc2 : Below W5.heap.size W5 (W5.alloc (.cells #[.string tx, .string nm, .string pg, .int .i64 ln, .int .i64 fl, .string na] 76)).drew := ((Below.refl _ _).alloc (Nat.le_refl _) _).drew
        have o4' := clq hc2 o4
        have hc3 : Below W5.heap.size W5 (W5.alloc (.cells #[.string tx, .string ox, .string pg, .int .i64 ln, .int .i64 fl, .string na] 76)).drew := ((Below.refl _ _).alloc (Nat.le_refl _) _).drew
        have hb10 : Below w.heap.size w (W5.alloc (.cells #[.string tx, .string ox, .string pg, .int .i64 ln, .int .i64 fl, .string na] 76)).drew := HB9.out.trans (hc3.mono HB9.out.size)
        have HFF := hiq (HF.out (W5.alloc (.cells #[.string tx, .string ox, .string pg, .int .i64 ln, .int .i64 fl, .string na] 76)).drew)
        clear HS2 hX hc1 hc2 hc3 c0 c1 c2 c3 o0 o1 o2 o3 o4 d1 r1 e0 e1 e2 e3 e4 e5 hd0
        by_cases hT : TE = 0
        · have HR : Hid (E = 0) := by show _ = _; rw [HEK.out, if_neg (by simp [hT])]
          have t0 : ((TE : Int) != 0) = false := by simp [hT]
          clear HEK hT
          go_wp2_with fail
          refine HFF.out.mono ?_
          rintro e W6 ⟨rfl, hb11⟩
          go_wp2
          go_ret
          exact ⟨ret_int HR.out.symm, hb10.trans (hb11.mono hb10.size)⟩
        · have HR : Hid (E = 11) := by show _ = _; rw [HEK.out, if_pos hT]
          have t0 : ((TE : Int) != 0) = true := by simpa using hT
          clear HEK hT
          go_wp2_with fail
          refine HFF.out.mono ?_
          rintro e W6 ⟨rfl, hb11⟩
          go_wp2
          go_ret
          exact ⟨ret_int HR.out.symm, hb10.trans (hb11.mono hb10.size)⟩
theorem rcheck_ref (S : Nat -> Prop) (v : CV) (x : Col) (o : Op) (w : World) (h : RdC S w v x) (hm : Sml x) : Calls Tryz.prog 19 #[v.val, o.val] w fun e w' => e = .returned (.int .i64 (opErr x o)) /\ Below w.heap.size w w' := by
  by_cases hv : x.err = 0
  · by_cases hk : o.kind < 1 \/ 4 < o.kind
    · exact rck_early S v x o w h hm (.inr (.inl hk))
    · by_cases ha : (o.other ≠ 0 /\ o.kind ≠ 3) \/ (o.text.size ≠ 0 /\ o.kind ≠ 4)
      · exact rck_early S v x o w h hm (.inr (.inr ha))
      · have h4 : o.kind = 1 \/ o.kind = 2 \/ o.kind = 3 \/ o.kind = 4 := by omega
        rcases h4 with k | k | k | k
        · exact rck_1 S v x o w h hm hv k (by omega) (by omega)
        · exact rck_2 S v x o w h hm hv k (by omega) (by omega)
        · by_cases h0 : o.other = 0
          · exact rck_3z S v x o w h hm hv k h0 (by omega)
          · exact rck_3n S v x o w h hm hv k h0 (by omega)
        · by_cases h1 : o.text.size = 0
          · exact rck_4e S v x o w h hm hv k (by omega) h1
          · exact rck_4n S v x o w h hm hv k (by omega) h1
  · exact rck_early S v x o w h hm (.inl hv)
end Go.Proofs.YtbdgmgddliploaaGreatDoor
