/- Joined: OWds, ODr, OSrt. -/
import Derived.Test.YtfdipkhbemgojaaGreatDoorP33
import Derived.Test.YtfdipkhbemgojaaGreatDoorP22
import Derived.Test.YtfdipkhbemgojaaGreatDoorP35
set_option linter.unusedVariables false
set_option linter.unusedSimpArgs false
set_option maxRecDepth 100000
set_option maxHeartbeats 16000000
namespace Go.Proofs.YtfdipkhbemgojaaGreatDoor
open Go.RowKit

theorem words_any (S : Nat -> Prop) (a : Option Addr) (n c : Nat) (l : List Tok) (w : World) (h : Toks S w a n c l) (hn : n <= 1000000) :
    Calls Tryz.prog 75 #[.slice a n c] w fun e w' => ∃ a' c', e = .returned (.slice a' n c') /\ OwnQ 9 1 encS w' w.heap.size a' n c' (l.map Tok.text) /\ Below w.heap.size w w' := by
  have HN := hiq h.len
  have hL := h.bound
  go_enter Tryz.func75, Tryz.ntmps75
  go_wp2
  have hstart : OwnQ 9 1 encS w w.heap.size none 0 0 [] := OwnQ.nil _ _ _ _ _
  go_loopw [3, 8] (fun t i wr => ∃ (k : Nat) (a' : Option Addr) (c' : Nat), i = .int .i64 k /\ k <= n /\ t = .slice a' k c' /\ Hid (OwnQ 9 1 encS wr w.heap.size a' k c' ((l.take k).map Tok.text)) /\ Below w.heap.size w wr) (fun _ i _ => n - (intOf i).toNat)
  case atStart => exact ⟨0, none, 0, rfl, Nat.zero_le _, rfl, hstart, Below.refl _ _⟩
  case round =>
    clear hstart
    obtain ⟨k, a', c', rfl, hk, rfl, hO1, hb⟩ := hrel
    by_cases hkl : k < n
    · obtain ⟨t, b, off, hu, -, ea, -, hbl, -, d0⟩ := (h.below rTok_ok hb).tok hkl
      subst ea
      have hm2 : Hid ((l.take (k + 1)).map Tok.text = (l.take k).map Tok.text ++ [t.text]) := by show _ = _; rw [take_next hu, List.map_append]; rfl
      obtain ⟨tx, nm, pg, ln, fl, na⟩ := t
      obtain ⟨d1, d2, d3, d4, d5, d6⟩ := d0
      dsimp only at d1 d2 d3 d4 d5 d6 hm2
      clear hu
      have hb4 : Below wr.heap.size wr ((wr.alloc (.cells #[.string tx, .string nm, .string pg, .int .i64 ln, .int .i64 fl, .string na] 102)).alloc (.cells #[.string tx] 9)) := ((Below.refl _ _).alloc (Nat.le_refl _) _).alloc (by simp) _
      have HO1 := hiq (hO1.out.below hb4)
      have hbB := hb.trans (hb4.mono hb.size)
      have HV : Hid (∀ j u, (([tx] : List ByteArray).flatMap encS)[j]? = some u -> ((wr.alloc (.cells #[.string tx, .string nm, .string pg, .int .i64 ln, .int .i64 fl, .string na] 102)).alloc (.cells #[.string tx] 9)).cell? ((⟨wr.heap.size + 1, 0, none⟩ : Addr).add j) = some u) := fun j u hj => by
        have := lit_cells (w := wr.alloc (.cells #[.string tx, .string nm, .string pg, .int .i64 ln, .int .i64 fl, .string na] 102)) (e := 9) (cs := #[.string tx]) (j := j) (u := u) (by exact hj)
        simpa using this
      have HI := infoS
      have hB9 : w.heap.size <= ((wr.alloc (.cells #[.string tx, .string nm, .string pg, .int .i64 ln, .int .i64 fl, .string na] 102)).alloc (.cells #[.string tx] 9)).heap.size := hbB.size
      clear hO1 hb4
      go_wp2_with (at_builtin; refine wpList_appQ (l := (l.take k).map Tok.text) (ys := [tx]) HI Tryz.underlying22 rfl (by omega) (fun _ => rfl) one_s rfl _ _ rfl rfl rfl HO1.out rfl HV.out (by unfold maxLen; omega) (by omega) hB9 hbB ?_; intro a5 c5 w5 ho5 hb5 hg5 hv5)
      go_roundw
      case rel => exact ⟨k + 1, a5, c5, by go_num, by omega, rfl, by show OwnQ _ _ _ _ _ _ _ _ _; rw [hm2.out]; exact ho5, hb5⟩
      case measure => simp [intOf]; omega
    · obtain rfl : n = k := by omega
      have hO2 := hO1.out
      rw [HN.out, List.take_length, <- HN.out] at hO2
      go_wp2
      go_ret
      exact ⟨a', c', rfl, hO2, hb⟩
theorem text_any (S : Nat -> Prop) (v : CV) (x : Col) (i : Nat) (w : World) (h : RdC S w v x) (hm : Sml x) (hE : Env w) (hv : x.err = 0) (hi : i < x.sigla.length) :
    Calls Tryz.prog 45 #[v.val, .int .i64 (i : Int)] w fun e w' => ∃ a n c, e = .returned (.tuple #[.slice a n c, .int .i64 0]) /\ Strs (fun b => w.heap.size <= b) w' a n c ((x.tks i).map Tok.text) /\ Below w.heap.size w w' := by
  have HC : Hid (∀ W, Below w.heap.size w W -> Calls Tryz.prog 44 #[v.val] W fun e w' => e = .returned (.int .i64 0) /\ Below W.heap.size W w') := fun W hb => by
    have := check_any S v x W (h.below hb) hm (hE.below hb)
    rw [hv] at this; exact this
  have HX := hiq h
  have hT := h.2.2.2.1
  have hl1 : i < v.tn := by rw [hT.len, (err_iff.1 hv).1.len]; exact hi
  have hsn : i < v.sn := by rw [h.2.2.1.len]; exact hi
  have hsb := h.2.2.1.bound
  have htb := hT.bound
  have HL : Hid (∀ r ∈ x.toks, r.length <= 1024) := fun r hr => ((err_iff.1 hv).1.toks r hr).1
  have HSM : Hid (∀ r ∈ x.toks, ∀ t ∈ r, t.text.size <= 1000000) := fun r hr t ht => (hm.2 r hr t ht).1
  obtain ⟨V, hV⟩ : ∃ V, V = v := ⟨_, rfl⟩
  rw [<- hV] at HX
  clear h hm hE hT hv hi
  obtain ⟨sec, sa, sn, sc, ta, tn, tc, ca, cn, cc⟩ := v
  have hVe : Hid (V = ⟨sec, sa, sn, sc, ta, tn, tc, ca, cn, cc⟩) := hV
  dsimp only at hl1 hsn hsb htb
  clear hV
  change Calls _ _ #[.agg #[.string sec, .slice sa sn sc, .slice ta tn tc, .slice ca cn cc], _] _ _
  change Hid (∀ W, _ -> Calls _ _ #[.agg #[.string sec, .slice sa sn sc, .slice ta tn tc, .slice ca cn cc]] _ _) at HC
  have hb0 : Below w.heap.size w (w.alloc (.cells #[.string sec, .slice sa sn sc, .slice ta tn tc, .slice ca cn cc] 26)) := (Below.refl _ _).alloc (Nat.le_refl _) _
  obtain ⟨c0, c1, c2, c3, -⟩ := box_cells4 (World.alloc_heap_new w (.cells #[.string sec, .slice sa sn sc, .slice ta tn tc, .slice ca cn cc] 26))
  have HCC := hiq (HC.out _ hb0)
  go_enter Tryz.func45, Tryz.ntmps45
  go_wp2_with fail
  generalize w.alloc (.cells #[.string sec, .slice sa sn sc, .slice ta tn tc, .slice ca cn cc] 26) = W1 at *
  refine HCC.out.mono ?_
  rintro e W2 ⟨rfl, hb2⟩
  have hb3 := hb0.trans (hb2.mono hb0.size)
  replace c0 := clq hb2 c0; replace c1 := clq hb2 c1; replace c2 := clq hb2 c2; replace c3 := clq hb2 c3
  have hT : Tokss S W2 ta tn tc x.toks := by
    have := HX.out.below hb3
    rw [hVe.out] at this
    exact this.2.2.2.1
  obtain ⟨r, b, off, a', n', c', hu, hmem, ea, -, -, hr, d1⟩ := hT.row hl1
  subst ea
  have hn' : n' <= 1024 := by rw [hr.len]; exact HL.out r hmem
  have HW := hiq (words_any S a' n' c' r W2 hr (by omega))
  have HR : Hid (x.tks i = r) := by show _ = _; unfold Col.tks; rw [hu]; rfl
  have HS := hiq (HSM.out r hmem)
  have HB3 := hiq hb3
  clear hr hu hmem hT HCC hb2 hb3 hb0
  go_wp2_with fail
  refine HW.out.mono ?_
  rintro e W3 ⟨a3, c4, rfl, hO, hb4⟩
  have hb5 := HB3.out.trans (hb4.mono HB3.out.size)
  have hSQ := hO.sq (R := rStr) (S := fun b => w.heap.size <= b) (s := 16) (fun _ => rfl) (by omega) (fun y hy => Nat.le_trans HB3.out.size (hO.lt y hy).1) (fun y hy => ⟨rfl, by
    obtain ⟨t, ht, rfl⟩ := List.mem_map.1 hy
    have := HS.out t ht; omega⟩)
  rw [<- HR.out] at hSQ
  go_wp2
  go_ret2
  exact ⟨a3, n', c4, rfl, hSQ, hb5⟩
end Go.Proofs.YtfdipkhbemgojaaGreatDoor
namespace Go.Proofs.YtfdipkhbemgojaaGreatDoor
open Go.RowKit

theorem did_ref (S : Nat -> Prop) (v : LV) (l : Lg) (o : Op) (w : World) (h : RdL S w v l) (hm : SmL l) (hE : Env w) (ho : o.ok) (hx : o.text.size <= 1000000) : Calls Tryz.prog 17 #[v.val, o.val] w (LogPost S (l.did o) w) := by
  have h2 : RdL (fun b => S b /\ b < w.heap.size) w v l := h.mono (fun b q q' => ⟨q, q'⟩)
  have HC : Hid (∀ W, Below w.heap.size w W -> Calls Tryz.prog 19 #[v.val] W (StatePost S l W)) := fun W hb => state_ref S v l W (h.below hb) hm (hE.below hb)
  have HK : Hid (∀ (T : Nat -> Prop) (u : CV) W, Below w.heap.size w W -> RdC T W u l.run.st -> Calls Tryz.prog 55 #[u.val, o.val] W fun e w' => e = .returned (.int .i64 (opErr l.run.st o)) /\ Below W.heap.size W w') := fun T u W hb hu => rcheck_ref T u _ o W hu (run_sml hm)
  have hok : Hid (∀ p ∈ l.ops ++ [o], p.ok) := fun p hp => by
    rcases List.mem_append.1 hp with q | q
    · exact opsq_ok h.2.1 p q
    · simp at q; subst q; exact ho
  have HX : Hid (∀ W, Below w.heap.size w W -> RdL (fun b => S b /\ b < w.heap.size) W v l) := fun W hb => h2.below hb
  have D1 : Hid (l.err ≠ 0 -> l.did o = (Lg.none, 1)) := did_1
  have D2 : Hid (l.err = 0 -> v.on = 256 -> l.did o = (Lg.none, 4)) := fun a b => did_2 a (by rw [<- h.2.1.len]; exact b)
  have D3 : Hid (l.err = 0 -> v.on ≠ 256 -> opErr l.run.st o ≠ 0 -> l.did o = (Lg.none, opErr l.run.st o)) := fun a b => did_3 a (by rw [<- h.2.1.len]; exact b)
  have D4 : Hid (l.err = 0 -> v.on ≠ 256 -> opErr l.run.st o = 0 -> l.did o = (⟨l.start, l.ops ++ [o], l.und ++ [false]⟩, 0)) := fun a b => did_4 a (by rw [<- h.2.1.len]; exact b)
  have DL : Hid (l.err = 0 -> v.on <= 256 /\ v.un <= 256) := fun a => by rw [h.2.1.len, h.2.2.len]; exact run_len a
  have DS0 : Hid (l.err = 0 -> l.state = (l.run.st, 0)) := fun q => by unfold Lg.state; rw [if_neg (by simp [q])]
  have DS1 : Hid (l.err ≠ 0 -> l.state = (Col.none, 1)) := fun q => by unfold Lg.state; rw [if_pos q]
  obtain ⟨O, hO⟩ : ∃ O, O = o := ⟨_, rfl⟩
  obtain ⟨V, hV⟩ : ∃ V, V = v := ⟨_, rfl⟩
  unfold LogPost
  unfold StatePost at HC
  rw [<- hO] at D1 D2 D3 D4 hok
  rw [<- hV] at HX
  rw [show l.did o = l.did O by rw [hO]]
  have hOe := hiq hO
  generalize l.did O = R at *
  generalize l.state = SS at *
  generalize l.run.st = ST at *
  generalize hOE : opErr ST O = OE at *
  generalize l.err = E at *
  rw [hO] at hOE
  rw [hOE] at HK
  generalize hLST : l.start = LST at *
  generalize hLO : l.ops = LO at *
  generalize hLU : l.und = LU at *
  clear h h2 hm hE ho hx hO hOE
  obtain ⟨⟨sec, sa, sn, sc, ta, tn, tc, ca, cn, cc⟩, oa, on, oc, ua, un, uc⟩ := v
  obtain ⟨ok, og, ot, oo, ox⟩ := o
  have hVe : Hid (V = ⟨⟨sec, sa, sn, sc, ta, tn, tc, ca, cn, cc⟩, oa, on, oc, ua, un, uc⟩) := hV
  clear hV
  dsimp only at D2 D3 D4 DL
  have HRC : Hid (∀ W, Below w.heap.size w W -> RdC (fun b => S b /\ b < w.heap.size) W ⟨sec, sa, sn, sc, ta, tn, tc, ca, cn, cc⟩ LST /\ Opsq (fun b => S b /\ b < w.heap.size) W oa on oc LO /\ Flgs (fun b => S b /\ b < w.heap.size) W ua un uc LU) := fun W hb => by
    have := HX.out W hb
    rw [hVe.out] at this
    rw [<- hLST, <- hLO, <- hLU]; exact this
  clear HX hLST hLO hLU hVe
  change Calls _ _ #[.agg #[.string sec, .slice sa sn sc, .slice ta tn tc, .slice ca cn cc, .slice oa on oc, .slice ua un uc], .agg #[.int .i64 ok, .string og, .int .i64 ot, .int .i64 oo, .string ox]] _ _
  change Hid (∀ W, _ -> Calls _ _ #[.agg #[.string sec, .slice sa sn sc, .slice ta tn tc, .slice ca cn cc, .slice oa on oc, .slice ua un uc]] _ _) at HC
  change Hid (∀ (T : Nat -> Prop) (u : CV) W, _ -> _ -> Calls _ _ #[_, .agg #[.int .i64 ok, .string og, .int .i64 ot, .int .i64 oo, .string ox]] _ _) at HK
  obtain ⟨W1, hW1, hb, hs1, gX, gO, gR⟩ := box3q w #[.string sec, .slice sa sn sc, .slice ta tn tc, .slice ca cn cc, .slice oa on oc, .slice ua un uc] #[.int .i64 ok, .string og, .int .i64 ot, .int .i64 oo, .string ox] #[.string ⟨#[]⟩, .slice none 0 0, .slice none 0 0, .slice none 0 0, .slice none 0 0, .slice none 0 0] 30 32 30
  have HCC := hiq (HC.out _ hb)
  obtain ⟨c0, c1, c2, c3, c4, c5⟩ := box_cells6 gX
  rw [hW1] at c0 c1 c2 c3 c4 c5
  clear HC
  go_enter Tryz.func17, Tryz.ntmps17
  go_wp2_with fail
  rw [<- hW1] at *
  clear hW1
  refine HCC.out.mono ?_
  rintro e W2 ⟨v2, he, hR3, hb4⟩
  obtain ⟨SC, SE⟩ := SS
  dsimp only at he hR3
  obtain ⟨sec2, sa2, sn2, sc2, ta2, tn2, tc2, ca2, cn2, cc2⟩ := v2
  change e = .returned (.tuple #[.agg #[.string sec2, .slice sa2 sn2 sc2, .slice ta2 tn2 tc2, .slice ca2 cn2 cc2], .int .i64 SE]) at he
  subst he
  have hal : Below W2.heap.size W2 (W2.alloc (.cells #[.string sec2, .slice sa2 sn2 sc2, .slice ta2 tn2 tc2, .slice ca2 cn2 cc2] 26)) := (Below.refl _ _).alloc (Nat.le_refl _) _
  have hb5 := hb4.trans (hal.mono hb4.size)
  obtain ⟨z0, z1, z2, z3, -⟩ := box_cells4 (World.alloc_heap_new W2 (.cells #[.string sec2, .slice sa2 sn2 sc2, .slice ta2 tn2 tc2, .slice ca2 cn2 cc2] 26))
  replace c0 := clq hb5 c0; replace c1 := clq hb5 c1; replace c2 := clq hb5 c2; replace c3 := clq hb5 c3; replace c4 := clq hb5 c4; replace c5 := clq hb5 c5
  replace gX := (hb5.block _ (by omega)).trans gX
  replace gO := (hb5.block _ (by omega)).trans gO
  replace gR := (hb5.block _ (by omega)).trans gR
  have hs4 := hb5.size
  replace hb := hb.trans (hb5.mono hb.size)
  have HRS := hiq (hR3.below hal)
  have HAL := hiq hal
  clear HCC hR3 hb4 hb5 hal
  by_cases e0 : E = 0
  · have hss := DS0.out e0
    cases hss
    obtain ⟨hon, hun⟩ := DL.out e0
    by_cases e1 : on = 256
    · subst e1
      have HEQ := hiq (D2.out e0 rfl)
      clear gX gO HK D1 D2 D3 D4 DL DS0 DS1 z0 z1 z2 z3 HRS
      obtain ⟨y0, y1, y2, y3, y4, y5⟩ := box_cells6 gR
      have yf0 := frozen5 gR 0
      have yf1 := frozen5 gR 1
      have yf2 := frozen5 gR 2
      have yf3 := frozen5 gR 3
      have yf4 := frozen5 gR 4
      have yf5 := frozen5 gR 5
      have HALL := hiq (And.intro gR hb)
      clear gR hb 
      go_wp2
      change bodyPost _ _ _ _ _ (put6 (W2.alloc (.cells #[.string sec2, .slice sa2 sn2 sc2, .slice ta2 tn2 tc2, .slice ca2 cn2 cc2] 26)) (w.heap.size + 1 + 1) (.string ⟨#[]⟩) (.slice none 0 0) (.slice none 0 0) (.slice none 0 0) (.slice none 0 0) (.slice none 0 0))
      obtain ⟨gR, hb⟩ := HALL.out
      obtain ⟨r0, r1, r2, r3, r4, r5⟩ := box_cells6 (put6_at gR (.string ⟨#[]⟩) (.slice none 0 0) (.slice none 0 0) (.slice none 0 0) (.slice none 0 0) (.slice none 0 0))
      have hbf := put6_below hb (b := w.heap.size + 1 + 1) (by omega) (.string ⟨#[]⟩) (.slice none 0 0) (.slice none 0 0) (.slice none 0 0) (.slice none 0 0) (.slice none 0 0)
      generalize put6 (W2.alloc (.cells #[.string sec2, .slice sa2 sn2 sc2, .slice ta2 tn2 tc2, .slice ca2 cn2 cc2] 26)) (w.heap.size + 1 + 1) (.string ⟨#[]⟩) (.slice none 0 0) (.slice none 0 0) (.slice none 0 0) (.slice none 0 0) (.slice none 0 0) = WF at *
      refine bodyPost_ret (v := .tuple #[.agg #[.string ⟨#[]⟩, .slice none 0 0, .slice none 0 0, .slice none 0 0, .slice none 0 0, .slice none 0 0], .int .i64 4]) (by simp [results, Tryz.results17, go_sem, r0, r1, r2, r3, r4, r5]) rfl ?_
      rw [HEQ.out]
      exact ⟨⟨⟨⟨#[]⟩, none, 0, 0, none, 0, 0, none, 0, 0⟩, none, 0, 0, none, 0, 0⟩, rfl, rdL_none _ _, hbf⟩
    · have t1 : ((on : Int) == 256) = false := by simp; omega
      have D5 : Hid (OE ≠ 0 -> R = (Lg.none, OE)) := D3.out e0 e1
      have D6 : Hid (OE = 0 -> R = (⟨LST, LO ++ [O], LU ++ [false]⟩, 0)) := D4.out e0 e1
      have HKQ := hiq (HK.out _ ⟨sec2, sa2, sn2, sc2, ta2, tn2, tc2, ca2, cn2, cc2⟩ _ hb HRS.out)
      change Hid (Calls _ _ #[.agg #[.string sec2, .slice sa2 sn2 sc2, .slice ta2 tn2 tc2, .slice ca2 cn2 cc2], .agg #[.int .i64 ok, .string og, .int .i64 ot, .int .i64 oo, .string ox]] _ _) at HKQ
      obtain ⟨o0, o1, o2, o3, o4⟩ := box_cells5 gO
      clear HK D1 D2 D3 D4 DL DS0 DS1 e0 e1 HRS HAL
      go_wp2_with fail
      generalize W2.alloc (.cells #[.string sec2, .slice sa2 sn2 sc2, .slice ta2 tn2 tc2, .slice ca2 cn2 cc2] 26) = W4 at *
      refine HKQ.out.mono ?_
      rintro e W5 ⟨rfl, hb6⟩
      replace gX := (hb6.block _ (by omega)).trans gX
      replace gO := (hb6.block _ (by omega)).trans gO
      replace gR := (hb6.block _ (by omega)).trans gR
      replace hb := hb.trans (hb6.mono hb.size)
      have hs5 := hb6.size
      replace c0 := clq hb6 c0; replace c1 := clq hb6 c1; replace c2 := clq hb6 c2; replace c3 := clq hb6 c3; replace c4 := clq hb6 c4; replace c5 := clq hb6 c5; replace o0 := clq hb6 o0; replace o1 := clq hb6 o1; replace o2 := clq hb6 o2; replace o3 := clq hb6 o3; replace o4 := clq hb6 o4
      clear HKQ hb6 z0 z1 z2 z3
      by_cases m0 : OE = 0
      · have t9 : ((OE : Int) != 0) = false := by simp [m0]
        have HEQ := hiq (D6.out m0)
        have HB5 := hiq hb
        have hsw : w.heap.size + 3 <= W5.heap.size := by omega
        have HGX := hiq gX
        have HGR := hiq gR
        clear D5 D6 m0 hs1 hs4 hs5
        go_wp2_with fail
        obtain ⟨X, Wf, hX, hS1, hS2⟩ := family (fun V => Below W5.heap.size W5 V) W5 (Below.refl _ _)
        have HS2 := hiq hS2
        have q_c4 := fun x => clq (hS1 x) c4
        have q_o0 := fun x => clq (hS1 x) o0
        have q_o1 := fun x => clq (hS1 x) o1
        have q_o2 := fun x => clq (hS1 x) o2
        have q_o3 := fun x => clq (hS1 x) o3
        have q_o4 := fun x => clq (hS1 x) o4
        clear hS1 hS2
        have hd0 : Below W5.heap.size W5 W5.drew := (Below.refl _ _).drew
        refine wp_region_tree (Wf := Wf) 7 (.read 1 (.read 2 (.read 4 (.two 0 (.two 3 (.act 5 (.act 6 .fin)) 5 (.act 3 (.act 6 .fin))) 5 (.act 0 (.act 3 (.act 6 .fin))))))) (by kernel_rfl) (by kernel_rfl) (fun _ _ d _ _ h => by cases d <;> exact h) (HS2.out _ hd0) ?_
        refine wpTree_read _ rfl (fun K hK => ?_); unfold rOp; go_simp; (refine hK _ ?_; clear hK K)
        refine wpTree_read _ rfl (fun K hK => ?_); unfold rOp; go_simp; (refine hK _ ?_; clear hK K)
        refine wpTree_read _ rfl (fun K hK => ?_); unfold rOp; go_simp; (refine hK _ ?_; clear hK K)
        clear q_c4 q_o0 q_o1 q_o2 q_o3 q_o4
        have hd := hd0
        clear hd0
        generalize W5.drew = V at *
        have HIO := infoO
        have HIB := infoB
        repeat' first
          | refine wpTree_two ?_ ?_
          | (refine wpTree_act (k := 0) _ rfl ?_
             have hst : Below V.heap.size V (V.alloc (.cells #[] 32)) := (Below.refl _ _).alloc (Nat.le_refl _) _
             have hO := (OwnQ.lit0 32 5 Op.cells V V.heap.size (Nat.le_refl _)).mono hd.size
             try (have hLO : bL ≠ V.heap.size := by omega)
             try (replace hF := (hst.block _ (Array.getElem?_eq_some_iff.1 hF).1).trans hF)
             replace hd := hd.trans (hst.mono hd.size)
             clear hst
             go_wp2_with fail
             generalize V.heap.size = bO at *
             generalize V.alloc (.cells #[] 32) = V at *
             refine ⟨HS2.out _ hd, ?_⟩)
          | (refine wpTree_act (k := 5) _ rfl ?_
             have hst : Below V.heap.size V (V.alloc (.cells #[.int .i64 ok, .string og, .int .i64 ot, .int .i64 oo, .string ox] 32)) := (Below.refl _ _).alloc (Nat.le_refl _) _
             have hF := World.alloc_heap_new V (.cells #[.int .i64 ok, .string og, .int .i64 ot, .int .i64 oo, .string ox] 32)
             have hvF : V.heap.size < (V.alloc (.cells #[.int .i64 ok, .string og, .int .i64 ot, .int .i64 oo, .string ox] 32)).heap.size := by simp
             try (have hLO : V.heap.size ≠ bO := fun e => by have q : bO < V.heap.size := (hO.lt ⟨bO, 0, none⟩ rfl).2; omega)
             try (replace hO := hO.below hst)
             replace hd := hd.trans (hst.mono hd.size)
             clear hst
             go_wp2_with fail
             generalize V.heap.size = bL at *
             generalize V.alloc (.cells #[.int .i64 ok, .string og, .int .i64 ot, .int .i64 oo, .string ox] 32) = V at *
             refine ⟨HS2.out _ hd, ?_⟩)
          | (refine wpTree_act (k := 3) _ rfl ?_
             have hsq := (HRC.out V (HB5.out.trans (hd.mono HB5.out.size))).2.1
             go_wp2_with (at_builtin; refine wpList_appR (w0 := W5) (l := []) (ys := LO) HIO Tryz.underlying27 rfl (by decide) op_len op_one rfl _ _ rfl rfl rfl hO hsq (fun _ _ h => h.1) (by unfold maxLen; omega) (by omega) hd.size hd ?_; intro a1 k1 V2 hO2 hb2 hg2 hv2; rw [List.nil_append] at hO2; simp only [Nat.zero_add] at hO2 ⊢)
             try (replace hF := (hg2.block bL (Array.getElem?_eq_some_iff.1 hF).1 (fun e => hLO (Option.some.inj e))).trans hF)
             replace hd := hb2
             clear hO hsq hb2 hg2 hv2
             have hO := hO2
             clear hO2
             generalize V2 = V at *
             refine ⟨HS2.out _ hd, ?_⟩)
          | (refine wpTree_act (k := 6) _ rfl ?_
             have hLo : ∀ j u, (([O] : List Op).flatMap Op.cells)[j]? = some u -> V.cell? ((⟨bL, 0, none⟩ : Addr).add j) = some u := fun j u hj => by
               rw [hOe.out] at hj
               have hc : V.cell? ⟨bL, j, none⟩ = (#[.int .i64 ok, .string og, .int .i64 ot, .int .i64 oo, .string ox] : Array Value)[j]? := by simp [World.cell?, hF]
               rw [Addr.add_lit, Nat.zero_add, hc]
               simpa [Op.cells] using hj
             go_wp2_with (at_builtin; refine wpList_appQ (w0 := W5) (l := LO) (ys := [O]) HIO Tryz.underlying27 rfl (by decide) op_len op_one rfl _ _ rfl rfl rfl hO rfl hLo (by unfold maxLen; omega) (by omega) hd.size hd ?_; intro a2 k2 V2 hO2 hb2 hg2 hv2)
             replace hd := hb2
             replace hO := hO2
             clear hO2 hb2 hg2 hv2 hLo hF
             generalize V2 = V at *
             refine ⟨HS2.out _ hd, ?_⟩)
        all_goals
          refine wpTree_fin ?_
          have gXd := (hd.block _ (by omega)).trans gX
          have gRd := (hd.block _ (by omega)).trans gR
          have hvs := hd.size
          obtain ⟨x0, x1, x2, x3, x4, x5⟩ := box_cells6 gXd
          have hst : Below V.heap.size V (V.alloc (.cells #[] 4)) := (Below.refl _ _).alloc (Nat.le_refl _) _
          have hU0 := (OwnQ.lit0 4 1 encB V V.heap.size (Nat.le_refl _)).mono hvs
          have hsq := (HRC.out _ (HB5.out.trans ((hd.trans (hst.mono hd.size)).mono HB5.out.size))).2.2
          have hdA := hd.trans (hst.mono hd.size)
          have x5A := clq hst x5
          have hOA := hO.below hst
          have gXA := (hst.block _ (by omega)).trans gXd
          have gRA := (hst.block _ (by omega)).trans gRd
          have hOb : ∀ y, a2 = some y -> y.block < V.heap.size := fun y hy => (hO.lt y hy).2
          have hsA : (V.alloc (.cells #[] 4)).heap.size = V.heap.size + 1 := by simp
          have HAA := hiq (And.intro hU0 (And.intro hsq (And.intro hdA (And.intro hOA (And.intro gXA gRA)))))
          clear hst hU0 hsq hdA hOA gXA gRA hO gXd gRd gX gO gR c0 c1 c2 c3 c4 c5 o0 o1 o2 o3 o4 hd
          go_wp2_with (at_builtin; first
            | (refine wpList_appR (w0 := W5) (l := []) (ys := LU) HIB Tryz.underlying28 rfl (by decide) (fun _ => rfl) one_b rfl _ _ rfl rfl rfl HAA.out.1 HAA.out.2.1 (fun _ _ h => h) (by unfold maxLen; omega) (by omega) HAA.out.2.2.1.size HAA.out.2.2.1 ?_
               intro a3 k3 W6 hU2 hb2 hg2 hv2
               rw [List.nil_append] at hU2
               simp only [Nat.zero_add] at hU2 ⊢
               have hst : Below W6.heap.size W6 (W6.alloc (.cells #[.bool false] 4)) := (Below.refl _ _).alloc (Nat.le_refl _) _
               have hHX := hU2.below hst
               have hLf : ∀ j u, (([false] : List Bool).flatMap encB)[j]? = some u -> (W6.alloc (.cells #[.bool false] 4)).cell? ((⟨W6.heap.size, 0, none⟩ : Addr).add j) = some u := fun j u hj => lit_cells hj
               have hdB := hb2.trans (hst.mono hb2.size)
               have hg6 := hg2.size
               have hOB : OwnQ 32 5 Op.cells (W6.alloc (.cells #[.bool false] 4)) W5.heap.size a2 (on + 1) k2 (LO ++ [O]) := (HAA.out.2.2.2.1.kept hg2 (fun y hy e => by have q1 := hOb y hy; have q2 : y.block = V.heap.size := Option.some.inj e; omega)).below hst
               have h3 : ∀ z, a3 = some z -> V.heap.size <= z.block := fun z hz => by
                 subst hz
                 rcases hv2 with e | e
                 · exact Nat.le_of_eq (Option.some.inj e).symm
                 · have q : z.block = (V.alloc (.cells #[] 4)).heap.size := Option.some.inj e
                   omega
               have gXB := (hdB.block w.heap.size (by omega))
               have HBB := hiq (And.intro hHX (And.intro hLf (And.intro hdB (And.intro hOB h3))))
               clear hHX hLf hdB hOB h3 hst hg2 hv2 hU2 hb2 gXB hg6)
            | (refine wpList_appQ (w0 := W5) (l := LU) (ys := [false]) HIB Tryz.underlying28 rfl (by decide) (fun _ => rfl) one_b rfl _ _ rfl rfl rfl HBB.out.1 rfl HBB.out.2.1 (by unfold maxLen; omega) (by omega) HBB.out.2.2.1.size HBB.out.2.2.1 ?_
               intro a4 k4 W7 hU3 hb3 hg3 hv3
               have hO9 := HBB.out.2.2.2.1.kept hg3 (fun y hy e => by
                 cases a3 with
                 | none => cases e
                 | some z => have q1 := hOb y hy; have q2 := HBB.out.2.2.2.2 z rfl; have q3 : y.block = z.block := Option.some.inj e; omega)
               have hbw := HB5.out.trans (hb3.mono HB5.out.size)
               have hvw := hb3.size
               have gX7 := (hb3.block w.heap.size (by omega))
               have gR7 := (hb3.block (w.heap.size + 1 + 1) (by omega))
               rw [HGX.out] at gX7
               rw [HGR.out] at gR7
               obtain ⟨u0, u1, u2, u3, u4, u5⟩ := box_cells6 gX7
               obtain ⟨s0, s1, s2, s3, s4, s5⟩ := box_cells6 gR7
               have sf0 := frozen5 gR7 0
               have sf1 := frozen5 gR7 1
               have sf2 := frozen5 gR7 2
               have sf3 := frozen5 gR7 3
               have sf4 := frozen5 gR7 4
               have sf5 := frozen5 gR7 5
               have H7 := hiq (And.intro gR7 (And.intro hO9 (And.intro hU3 hbw)))
               clear gX7 gR7 hO9 hU3 hbw hb3 hg3 hv3))
          change bodyPost _ _ _ _ _ (put6 W7 (w.heap.size + 1 + 1) (.string sec) (.slice sa sn sc) (.slice ta tn tc) (.slice ca cn cc) (.slice a2 (on + 1) k2) (.slice a4 (un + 1) k4))
          obtain ⟨gR7, hO9, hU9, hbw⟩ := H7.out
          have hbf := put6_below hbw (b := w.heap.size + 1 + 1) (by omega) (.string sec) (.slice sa sn sc) (.slice ta tn tc) (.slice ca cn cc) (.slice a2 (on + 1) k2) (.slice a4 (un + 1) k4)
          obtain ⟨r0, r1, r2, r3, r4, r5⟩ := box_cells6 (put6_at gR7 (.string sec) (.slice sa sn sc) (.slice ta tn tc) (.slice ca cn cc) (.slice a2 (on + 1) k2) (.slice a4 (un + 1) k4))
          have hOf := hO9.same (w' := put6 W7 (w.heap.size + 1 + 1) (.string sec) (.slice sa sn sc) (.slice ta tn tc) (.slice ca cn cc) (.slice a2 (on + 1) k2) (.slice a4 (un + 1) k4)) (fun y hy => put6_other (by have := (hO9.lt y hy).1; omega) _ _ _ _ _ _)
          have hUf := hU9.same (w' := put6 W7 (w.heap.size + 1 + 1) (.string sec) (.slice sa sn sc) (.slice ta tn tc) (.slice ca cn cc) (.slice a2 (on + 1) k2) (.slice a4 (un + 1) k4)) (fun y hy => put6_other (by have := (hU9.lt y hy).1; omega) _ _ _ _ _ _)
          generalize put6 W7 (w.heap.size + 1 + 1) (.string sec) (.slice sa sn sc) (.slice ta tn tc) (.slice ca cn cc) (.slice a2 (on + 1) k2) (.slice a4 (un + 1) k4) = WF at *
          refine bodyPost_ret (v := .tuple #[.agg #[.string sec, .slice sa sn sc, .slice ta tn tc, .slice ca cn cc, .slice a2 (on + 1) k2, .slice a4 (un + 1) k4], .int .i64 0]) (by simp [results, Tryz.results17, go_sem, r0, r1, r2, r3, r4, r5]) rfl ?_
          rw [HEQ.out]
          refine ⟨⟨⟨sec, sa, sn, sc, ta, tn, tc, ca, cn, cc⟩, a2, on + 1, k2, a4, un + 1, k4⟩, rfl, ⟨(HRC.out _ hbf).1.mono (fun b q _ => .inl q.1), ?_, ?_⟩, hbf⟩
          · exact hOf.opsq (by omega) (fun b q _ => .inr (by omega)) hok.out
          · exact hUf.flgs (by omega) (fun b q _ => .inr (by omega))
      · have t9 : ((OE : Int) != 0) = true := by simpa using m0
        have HEQ := hiq (D5.out m0)
        clear D5 D6 m0 gX gO HRC c0 c1 c2 c3 c4 c5 o0 o1 o2 o3 o4
        obtain ⟨y0, y1, y2, y3, y4, y5⟩ := box_cells6 gR
        have yf0 := frozen5 gR 0
        have yf1 := frozen5 gR 1
        have yf2 := frozen5 gR 2
        have yf3 := frozen5 gR 3
        have yf4 := frozen5 gR 4
        have yf5 := frozen5 gR 5
        have HALL := hiq (And.intro gR hb)
        clear gR hb 
        go_wp2
        change bodyPost _ _ _ _ _ (put6 W5 (w.heap.size + 1 + 1) (.string ⟨#[]⟩) (.slice none 0 0) (.slice none 0 0) (.slice none 0 0) (.slice none 0 0) (.slice none 0 0))
        obtain ⟨gR, hb⟩ := HALL.out
        obtain ⟨r0, r1, r2, r3, r4, r5⟩ := box_cells6 (put6_at gR (.string ⟨#[]⟩) (.slice none 0 0) (.slice none 0 0) (.slice none 0 0) (.slice none 0 0) (.slice none 0 0))
        have hbf := put6_below hb (b := w.heap.size + 1 + 1) (by omega) (.string ⟨#[]⟩) (.slice none 0 0) (.slice none 0 0) (.slice none 0 0) (.slice none 0 0) (.slice none 0 0)
        generalize put6 W5 (w.heap.size + 1 + 1) (.string ⟨#[]⟩) (.slice none 0 0) (.slice none 0 0) (.slice none 0 0) (.slice none 0 0) (.slice none 0 0) = WF at *
        refine bodyPost_ret (v := .tuple #[.agg #[.string ⟨#[]⟩, .slice none 0 0, .slice none 0 0, .slice none 0 0, .slice none 0 0, .slice none 0 0], .int .i64 OE]) (by simp [results, Tryz.results17, go_sem, r0, r1, r2, r3, r4, r5]) rfl ?_
        rw [HEQ.out]
        exact ⟨⟨⟨⟨#[]⟩, none, 0, 0, none, 0, 0, none, 0, 0⟩, none, 0, 0, none, 0, 0⟩, rfl, rdL_none _ _, hbf⟩
  · have hss := DS1.out e0
    cases hss
    have HEQ := hiq (D1.out e0)
    clear gX gO HK D1 D2 D3 D4 DL DS0 DS1 c0 c1 c2 c3 c4 c5 z0 z1 z2 z3 HRS HRC
    obtain ⟨y0, y1, y2, y3, y4, y5⟩ := box_cells6 gR
    have yf0 := frozen5 gR 0
    have yf1 := frozen5 gR 1
    have yf2 := frozen5 gR 2
    have yf3 := frozen5 gR 3
    have yf4 := frozen5 gR 4
    have yf5 := frozen5 gR 5
    have HALL := hiq (And.intro gR hb)
    clear gR hb 
    go_wp2
    change bodyPost _ _ _ _ _ (put6 (W2.alloc (.cells #[.string sec2, .slice sa2 sn2 sc2, .slice ta2 tn2 tc2, .slice ca2 cn2 cc2] 26)) (w.heap.size + 1 + 1) (.string ⟨#[]⟩) (.slice none 0 0) (.slice none 0 0) (.slice none 0 0) (.slice none 0 0) (.slice none 0 0))
    obtain ⟨gR, hb⟩ := HALL.out
    obtain ⟨r0, r1, r2, r3, r4, r5⟩ := box_cells6 (put6_at gR (.string ⟨#[]⟩) (.slice none 0 0) (.slice none 0 0) (.slice none 0 0) (.slice none 0 0) (.slice none 0 0))
    have hbf := put6_below hb (b := w.heap.size + 1 + 1) (by omega) (.string ⟨#[]⟩) (.slice none 0 0) (.slice none 0 0) (.slice none 0 0) (.slice none 0 0) (.slice none 0 0)
    generalize put6 (W2.alloc (.cells #[.string sec2, .slice sa2 sn2 sc2, .slice ta2 tn2 tc2, .slice ca2 cn2 cc2] 26)) (w.heap.size + 1 + 1) (.string ⟨#[]⟩) (.slice none 0 0) (.slice none 0 0) (.slice none 0 0) (.slice none 0 0) (.slice none 0 0) = WF at *
    refine bodyPost_ret (v := .tuple #[.agg #[.string ⟨#[]⟩, .slice none 0 0, .slice none 0 0, .slice none 0 0, .slice none 0 0, .slice none 0 0], .int .i64 1]) (by simp [results, Tryz.results17, go_sem, r0, r1, r2, r3, r4, r5]) rfl ?_
    rw [HEQ.out]
    exact ⟨⟨⟨⟨#[]⟩, none, 0, 0, none, 0, 0, none, 0, 0⟩, none, 0, 0, none, 0, 0⟩, rfl, rdL_none _ _, hbf⟩
end Go.Proofs.YtfdipkhbemgojaaGreatDoor
namespace Go.Proofs.YtfdipkhbemgojaaGreatDoor
open Go.RowKit

theorem less_any (a b : Int) (w : World) : Calls Tryz.prog 72 #[.int .i64 a, .int .i64 b] w fun e w' => e = .returned (.bool (decide (a < b))) /\ w' = w := by
  go_enter Tryz.func72, Tryz.ntmps72
  go_wp2
  go_ret
  exact ⟨rfl, rfl⟩
theorem sorted_any (S : Nat -> Prop) (a : Option Addr) (n c : Nat) (l : List Int) (w : World) (h : Nums S w a n c l) (hs : l.Pairwise (· < ·)) :
    Calls Tryz.prog 42 #[.slice a n c] w fun e w' => e = .returned (.bool true) /\ Below w.heap.size w w' := by
  have hb := h.bound
  have HN := hiq h.len
  have HS := hiq hs
  clear hs
  go_enter Tryz.func42, Tryz.ntmps42
  have HLT : Hid (∀ (u v : Int), v < u -> ∀ W, Calls Tryz.prog 72 #[.int .i64 u, .int .i64 v] W fun e w' => e = .returned (.bool false) /\ w' = W) := fun u v hl W => by
    have := less_any u v W
    rw [decide_eq_false (by omega)] at this; exact this
  go_wp2
  go_loopw [3] (fun i wr => ∃ k : Nat, (i = .int .i64 (k : Int) \/ (k = 0 /\ i = .int .i64 (-1))) /\ (k = 0 \/ k < n) /\ Drew w wr) (fun i _ => (intOf i).toNat)
  case atStart =>
    refine ⟨n - 1, ?_, by omega, Drew.refl _⟩
    by_cases n0 : n = 0
    · right; subst n0; exact ⟨rfl, rfl⟩
    · left; congr 1; omega
  case round =>
    obtain ⟨k, hi, hk, hd⟩ := hrel
    rcases hi with rfl | ⟨rfl, rfl⟩
    · cases k with
      | zero =>
        go_wp2
        go_ret
        exact ⟨rfl, hd.below _⟩
      | succ j =>
        have hjn : j + 1 < n := by omega
        have hj2 : j < n := by omega
        obtain ⟨u, b1, o1, hu, -, ea, -, -, hI1, d1⟩ := (h.below rInt_ok (hd.below _)).int hjn
        obtain ⟨v, b2, o2, hv, -, eb, -, -, hI2, d2⟩ := (h.below rInt_ok (hd.below _)).int hj2
        subst ea
        cases eb
        have hlt : v < u := by
          obtain ⟨p1, e1⟩ := List.getElem?_eq_some_iff.1 hu
          obtain ⟨p2, e2⟩ := List.getElem?_eq_some_iff.1 hv
          rw [<- e1, <- e2]
          exact List.pairwise_iff_getElem.1 HS.out j (j + 1) p2 p1 (by omega)
        have HL := hiq (HLT.out u v hlt)
        have hji : (0 : Int) < (j : Int) + 1 := by omega
        have hjz : (0 : Int) <= (j : Int) + 1 := by omega
        have hjt : ((j : Int) + 1).toNat = j + 1 := by omega
        have hjm : (j : Int) + 1 < (n : Int) := by omega
        clear hu hv hlt hk HLT
        go_wp2
        go_quiet ((go_at_call 72; exact Calls.quiet_of_same (HL.out _)))
        go_wp2
        go_roundw
        case rel => exact ⟨j, .inl (by go_num), .inr hj2, hd.drewN _⟩
        case measure => simp [intOf]
    · go_wp2
      go_ret
      exact ⟨rfl, hd.below _⟩
end Go.Proofs.YtfdipkhbemgojaaGreatDoor
