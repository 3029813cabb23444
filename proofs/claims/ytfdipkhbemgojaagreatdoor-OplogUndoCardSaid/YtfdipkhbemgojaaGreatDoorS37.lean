/- Joined: OGre, OTrd, OUnc, ODel. -/
import Derived.Test.YtfdipkhbemgojaaGreatDoorS33
import Derived.Test.YtfdipkhbemgojaaGreatDoorS13
import Derived.Test.YtfdipkhbemgojaaGreatDoorS34
import Derived.Test.YtfdipkhbemgojaaGreatDoorS36
import Derived.Test.YtfdipkhbemgojaaGreatDoorS14
import Derived.Test.YtfdipkhbemgojaaGreatDoorS00
import Derived.Lib.SliceRun
set_option linter.unusedVariables false
set_option linter.unusedSimpArgs false
set_option maxRecDepth 100000
set_option maxHeartbeats 16000000
namespace Go.Proofs.YtfdipkhbemgojaaGreatDoor
open Go.RowKit

/-- What it says of operations that they are not too great. -/
def SmO (ops : List Op) (und : List Bool) : Prop := (∀ o ∈ ops, o.text.size <= 80 /\ o.sig.size <= 20) /\ ops.length <= 258 /\ und.length <= 258
/-- A bool, and what it says where it is b. -/
def BPost (b : Bool) (P : Prop) (w : World) (e : Ending) (w' : World) : Prop := ∃ g, e = .returned (.bool g) /\ Below w.heap.size w w' /\ (g = b -> P)
theorem bpost {b : Bool} {P : Prop} {w w' : World} {e : Ending} (g : Bool) (h1 : e = .returned (.bool g)) (h2 : Below w.heap.size w w') (h3 : g = b -> P) : BPost b P w e w' := ⟨g, h1, h2, h3⟩
theorem greatOps_ref (S : Nat -> Prop) (oa : Option Addr) (on oc : Nat) (ua : Option Addr) (un uc : Nat) (ops : List Op) (und : List Bool) (w : World) (ho : Opsq S w oa on oc ops) (hu : Flgs S w ua un uc und) :
    Calls Tryz.prog 40 #[.slice oa on oc, .slice ua un uc] w (BPost false (SmO ops und) w) := by
  have hob := ho.bound
  have hub := hu.bound
  have HLO := hiq ho.len
  have HLU := hiq hu.len
  have HO := hiq ho
  have HU := hiq hu
  clear ho hu
  go_enter Tryz.func40, Tryz.ntmps40
  go_wp2
  go_loop [5] (fun i => ∃ k : Nat, i = .int .i64 k /\ k <= on /\ Hid (∀ o ∈ ops.take k, o.text.size <= 80 /\ o.sig.size <= 20)) (fun i => on - (intOf i).toNat)
  case atStart => exact ⟨0, rfl, Nat.zero_le _, fun o ho => by simp at ho⟩
  case round =>
    obtain ⟨k, rfl, hk, hx⟩ := hrel
    by_cases hkl : k < on
    · obtain ⟨o, b, off, eo, -, ea, -, -, hoo, d0, d1, d2, d3, d4⟩ := HO.out.op hkl
      subst ea
      obtain ⟨ok, og, ot, oo, ox⟩ := o
      dsimp only at d0 d1 d2 d3 d4
      by_cases x1 : 80 < ox.size
      · clear eo
        go_wp2
        go_ret
        exact bpost true rfl (Below.refl _ _) (fun h => by cases h)
      · by_cases x2 : 20 < og.size
        · clear eo
          go_wp2
          go_ret
          exact bpost true rfl (Below.refl _ _) (fun h => by cases h)
        · have HN2 : Hid (∀ o ∈ ops.take (k + 1), o.text.size <= 80 /\ o.sig.size <= 20) := fun o ho => by
            rw [List.take_add_one, eo] at ho
            rcases List.mem_append.1 ho with q | q
            · exact hx.out o q
            · simp at q; subst q; exact ⟨by show ox.size <= 80; omega, by show og.size <= 20; omega⟩
          clear eo hx
          by_cases k8 : 8 <= k
          · by_cases ku : un <= k
            · go_wp2
              go_ret
              exact bpost true rfl (Below.refl _ _) (fun h => by cases h)
            · obtain ⟨u, bu, ofu, eu, -, rfl, -, -, du⟩ := HU.out.flg (j := k) (by omega)
              have kub : k < un := by omega
              clear eu
              cases u with
              | false =>
                go_wp2
                go_ret
                exact bpost true rfl (Below.refl _ _) (fun h => by cases h)
              | true =>
                go_wp2
                go_round
                case rel => exact ⟨k + 1, by go_num, by omega, HN2.out⟩
                case measure => simp [intOf]; omega
          · go_wp2
            go_round
            case rel => exact ⟨k + 1, by go_num, by omega, HN2.out⟩
            case measure => simp [intOf]; omega
    · have HA : Hid (∀ o ∈ ops, o.text.size <= 80 /\ o.sig.size <= 20) := fun o ho => hx.out o (by rw [List.take_of_length_le (by rw [<- HLO.out]; omega)]; exact ho)
      clear hx
      by_cases p1 : 8 < on
      · by_cases p2 : on < 256
        · go_wp2
          go_ret
          exact bpost true (ret_bool (by simp; try omega)) (Below.refl _ _) (fun h => by cases h)
        · by_cases p3 : 258 < on
          · go_wp2
            go_ret
            exact bpost true (ret_bool (by simp; try omega)) (Below.refl _ _) (fun h => by cases h)
          · by_cases p4 : 258 < un
            · go_wp2
              go_ret
              exact bpost true (ret_bool (by simp; try omega)) (Below.refl _ _) (fun h => by cases h)
            · go_wp2
              go_ret
              exact bpost false (ret_bool (by simp; try omega)) (Below.refl _ _) (fun _ => ⟨HA.out, by rw [<- HLO.out]; omega, by rw [<- HLU.out]; omega⟩)
      · by_cases p3 : 258 < on
        · omega
        · by_cases p4 : 258 < un
          · go_wp2
            go_ret
            exact bpost true (ret_bool (by simp; try omega)) (Below.refl _ _) (fun h => by cases h)
          · go_wp2
            go_ret
            exact bpost false (ret_bool (by simp; try omega)) (Below.refl _ _) (fun _ => ⟨HA.out, by rw [<- HLO.out]; omega, by rw [<- HLU.out]; omega⟩)
/-- What it says of a log that it is not too great. -/
def SmG (l : Lg) : Prop := great l.start = false /\ SmO l.ops l.und
theorem SmG.sml {l : Lg} (h : SmG l) : SmL l := ⟨great_sml h.1, fun o ho => by have := (h.2.1 o ho).1; omega⟩
theorem greatL_ref (S : Nat -> Prop) (v : LV) (l : Lg) (w : World) (h : RdL S w v l) : Calls Tryz.prog 12 #[v.val] w (BPost false (SmG l) w) := by
  have HG : Hid (∀ W, Below w.heap.size w W -> Calls Tryz.prog 38 #[v.c.val] W fun e w' => e = .returned (.bool (great l.start)) /\ Below W.heap.size W w') := fun W hb => great_ref S v.c l.start W (h.1.below hb)
  have HO : Hid (∀ W, Below w.heap.size w W -> Calls Tryz.prog 40 #[.slice v.oa v.on v.oc, .slice v.ua v.un v.uc] W (BPost false (SmO l.ops l.und) W)) := fun W hb => greatOps_ref S _ _ _ _ _ _ _ _ W (h.2.1.below rOpn_ok hb) (h.2.2.below rBool_ok hb)
  have HX : Hid (great l.start = false -> SmO l.ops l.und -> SmG l) := fun a b => ⟨a, b⟩
  generalize great l.start = G at *
  generalize SmO l.ops l.und = PO at *
  generalize SmG l = PG at *
  clear h
  obtain ⟨⟨sec, sa, sn, sc, ta, tn, tc, ca, cn, cc⟩, oa, on, oc, ua, un, uc⟩ := v
  change Calls _ _ #[.agg #[.string sec, .slice sa sn sc, .slice ta tn tc, .slice ca cn cc, .slice oa on oc, .slice ua un uc]] _ _
  change Hid (∀ W, _ -> Calls _ _ #[.agg #[.string sec, .slice sa sn sc, .slice ta tn tc, .slice ca cn cc]] _ _) at HG
  have hb0 : Below w.heap.size w (w.alloc (.cells #[.string sec, .slice sa sn sc, .slice ta tn tc, .slice ca cn cc, .slice oa on oc, .slice ua un uc] 30)) := (Below.refl _ _).alloc (Nat.le_refl _) _
  obtain ⟨c0, c1, c2, c3, c4, c5⟩ := box_cells6 (World.alloc_heap_new w (.cells #[.string sec, .slice sa sn sc, .slice ta tn tc, .slice ca cn cc, .slice oa on oc, .slice ua un uc] 30))
  have HGG := hiq (HG.out _ hb0)
  clear HG
  go_enter Tryz.func12, Tryz.ntmps12
  go_wp2_with fail
  generalize w.alloc (.cells #[.string sec, .slice sa sn sc, .slice ta tn tc, .slice ca cn cc, .slice oa on oc, .slice ua un uc] 30) = W1 at *
  refine HGG.out.mono ?_
  rintro e W2 ⟨rfl, hb2⟩
  have hb3 := hb0.trans (hb2.mono hb0.size)
  replace c0 := clq hb2 c0; replace c1 := clq hb2 c1; replace c2 := clq hb2 c2; replace c3 := clq hb2 c3; replace c4 := clq hb2 c4; replace c5 := clq hb2 c5
  clear HGG hb0 hb2
  cases G with
  | true =>
    go_wp2
    go_ret
    exact bpost true rfl hb3 (fun h => by cases h)
  | false =>
    have HOO := hiq (HO.out _ hb3)
    clear HO
    go_wp2_with (go_at_call 40; refine HOO.out.mono ?_; rintro e w' ⟨g, rfl, hb4, hg⟩)
    go_ret
    exact bpost g (by simp) (hb3.trans (hb4.mono hb3.size)) (fun h => HX.out (by simp) (hg h))
theorem fineL_any (S : Nat -> Prop) (v : LV) (l : Lg) (w : World) (h : RdL S w v l) (hE : Env w) : Calls Tryz.prog 24 #[v.val] w (BPost true (SmG l /\ l.ops.length <= 8 /\ l.err = 0) w) := by
  have HG : Hid (∀ W, Below w.heap.size w W -> Calls Tryz.prog 12 #[v.val] W (BPost false (SmG l) W)) := fun W hb => greatL_ref S v l W (h.below hb)
  have HK : Hid (SmG l -> ∀ W, Below w.heap.size w W -> Calls Tryz.prog 21 #[v.val] W fun e w' => e = .returned (.int .i64 l.err) /\ Below W.heap.size W w') := fun hm W hb => lck_ref S v l W (h.below hb) hm.sml (hE.below hb)
  have HLO : Hid (v.on = l.ops.length) := h.2.1.len
  have hob := h.2.1.bound
  generalize SmG l = PG at *
  generalize l.err = E at *
  clear h hE
  obtain ⟨⟨sec, sa, sn, sc, ta, tn, tc, ca, cn, cc⟩, oa, on, oc, ua, un, uc⟩ := v
  change Calls _ _ #[.agg #[.string sec, .slice sa sn sc, .slice ta tn tc, .slice ca cn cc, .slice oa on oc, .slice ua un uc]] _ _
  change Hid (∀ W, _ -> Calls _ _ #[.agg #[.string sec, .slice sa sn sc, .slice ta tn tc, .slice ca cn cc, .slice oa on oc, .slice ua un uc]] _ _) at HG
  change Hid (_ -> ∀ W, _ -> Calls _ _ #[.agg #[.string sec, .slice sa sn sc, .slice ta tn tc, .slice ca cn cc, .slice oa on oc, .slice ua un uc]] _ _) at HK
  dsimp only at HLO hob
  have hb0 : Below w.heap.size w (w.alloc (.cells #[.string sec, .slice sa sn sc, .slice ta tn tc, .slice ca cn cc, .slice oa on oc, .slice ua un uc] 30)) := (Below.refl _ _).alloc (Nat.le_refl _) _
  obtain ⟨c0, c1, c2, c3, c4, c5⟩ := box_cells6 (World.alloc_heap_new w (.cells #[.string sec, .slice sa sn sc, .slice ta tn tc, .slice ca cn cc, .slice oa on oc, .slice ua un uc] 30))
  have HGG := hiq (HG.out _ hb0)
  clear HG
  go_enter Tryz.func24, Tryz.ntmps24
  go_wp2_with fail
  generalize w.alloc (.cells #[.string sec, .slice sa sn sc, .slice ta tn tc, .slice ca cn cc, .slice oa on oc, .slice ua un uc] 30) = W1 at *
  refine HGG.out.mono ?_
  rintro e W2 ⟨g, rfl, hb2, hg⟩
  have hb3 := hb0.trans (hb2.mono hb0.size)
  replace c0 := clq hb2 c0; replace c1 := clq hb2 c1; replace c2 := clq hb2 c2; replace c3 := clq hb2 c3; replace c4 := clq hb2 c4; replace c5 := clq hb2 c5
  clear HGG hb0 hb2
  cases g with
  | true =>
    go_wp2
    go_ret
    exact bpost false rfl hb3 (fun h => by cases h)
  | false =>
    have hp := hiq (hg rfl)
    clear hg
    by_cases h8 : on <= 8
    · have HKK := hiq (HK.out hp.out _ hb3)
      clear HK
      go_wp2_with fail
      refine HKK.out.mono ?_
      rintro e W3 ⟨rfl, hb4⟩
      have hb5 := hb3.trans (hb4.mono hb3.size)
      clear HKK hb4 c0 c1 c2 c3 c4 c5
      by_cases e0 : E = 0
      · have t0 : ((E : Int) == 0) = true := by simp [e0]
        have HE0 := hiq e0
        clear e0
        go_wp2
        go_ret
        exact bpost true rfl hb5 (fun _ => ⟨hp.out, by rw [<- HLO.out]; exact h8, HE0.out⟩)
      · have t0 : ((E : Int) == 0) = false := by simpa using e0
        clear e0
        go_wp2
        go_ret
        exact bpost false rfl hb5 (fun h => by cases h)
    · go_wp2
      go_ret
      exact bpost false rfl hb3 (fun h => by cases h)
end Go.Proofs.YtfdipkhbemgojaaGreatDoor
namespace Go.Proofs.YtfdipkhbemgojaaGreatDoor
open Go.RowKit

theorem deps_any (S : Nat -> Prop) (v : LV) (l : Lg) (i : Int) (w : World) (h : RdL S w v l) (hm : SmL l) (hE : Env w) : Calls Tryz.prog 31 #[v.val, .int .i64 i] w (DepPost (l.deps i) w) := by
  have h2 : RdL (fun b => S b /\ b < w.heap.size) w v l := h.mono (fun b q q' => ⟨q, q'⟩)
  have HIX : Hid (∀ W, Below w.heap.size w W -> Calls Tryz.prog 63 #[v.val, .int .i64 i] W fun e w' => e = .returned (.int .i64 (l.idx i)) /\ Below W.heap.size W w') := fun W hb => idx_any S v l i W (h.below hb) hm (hE.below hb)
  have hub := h2.2.2.bound
  unfold DepPost
  by_cases i0 : l.idx i = 0
  · obtain ⟨k, rfl, hk1, hk2⟩ := idx_nat i0
    have hkn : k < v.un := by rw [h2.2.2.len]; exact hk2
    have hle := (err_zero.1 (idx_zero.1 i0).1).1
    have HD1 : Hid (unK l.und k = false -> l.deps (k : Int) = ((l.set k true).run.sk, 0)) := fun q => by unfold Lg.deps; rw [if_neg (by simp [i0]), Int.toNat_natCast, if_neg (by simp [q])]
    have HD2 : Hid (unK l.und k = true -> l.deps (k : Int) = ([], 7)) := fun q => by unfold Lg.deps; rw [if_neg (by simp [i0]), Int.toNat_natCast, if_pos q]
    have HSET : Hid (∀ W, Below w.heap.size w W -> Calls Tryz.prog 67 #[v.val, .int .i64 (k : Int), .bool true] W (SetPost (fun b => S b /\ b < w.heap.size) l k true W)) := fun W hb => with_any _ v l k true W (h2.below hb) hk2
    have HRN : Hid (∀ (T : Nat -> Prop) (u : LV) W, Below w.heap.size w W -> RdL T W u (l.set k true) -> Calls Tryz.prog 54 #[u.c.val, .slice u.oa u.on u.oc, .slice u.ua u.un u.uc] W (RunPost T l.start l.ops (l.set k true).und W)) := fun T u W hb hu =>
      replay_any T u.c l.start _ _ _ _ _ _ l.ops _ W hu.1 hu.2.1 hu.2.2 (by show _ = (l.und.set k true).length; rw [List.length_set]; exact hle.2.1) hm.1 hm.2 (by have := hu.2.1.len; change _ = l.ops.length at this; have := hle.2.2; omega) (hE.below hb)
    obtain ⟨u, bu, ofu, eu, -, eua, -, hbu, du⟩ := h2.2.2.flg hkn
    have hun : unK l.und k = u := by unfold unK; rw [eu]; rfl
    rw [hun] at HD1 HD2
    rw [i0] at HIX
    unfold SetPost at HSET
    unfold RunPost at HRN
    change Hid (_ -> l.deps (k : Int) = ((runL l.start l.ops (l.set k true).und).sk, 0)) at HD1
    generalize l.deps (k : Int) = R at *
    generalize (runL l.start l.ops (l.set k true).und).er = ER at *
    generalize (runL l.start l.ops (l.set k true).und).st = ST at *
    generalize (runL l.start l.ops (l.set k true).und).sk = SK at *
    generalize l.set k true = M at *
    clear h h2 hm hE i0 eu hun hk1 hk2 hle
    obtain ⟨⟨sec, sa, sn, sc, ta, tn, tc, ca, cn, cc⟩, oa, on, oc, ua, un, uc⟩ := v
    dsimp only at hkn hub eua
    subst eua
    change Calls _ _ #[.agg #[.string sec, .slice sa sn sc, .slice ta tn tc, .slice ca cn cc, .slice oa on oc, .slice (some ⟨bu, ofu, none⟩) un uc], _] _ _
    change Hid (∀ W, _ -> Calls _ _ #[.agg #[.string sec, .slice sa sn sc, .slice ta tn tc, .slice ca cn cc, .slice oa on oc, .slice (some ⟨bu, ofu, none⟩) un uc], _] _ _) at HIX
    change Hid (∀ W, _ -> Calls _ _ #[.agg #[.string sec, .slice sa sn sc, .slice ta tn tc, .slice ca cn cc, .slice oa on oc, .slice (some ⟨bu, ofu, none⟩) un uc], _, _] _ _) at HSET
    have hb : Below w.heap.size w (w.alloc (.cells #[.string sec, .slice sa sn sc, .slice ta tn tc, .slice ca cn cc, .slice oa on oc, .slice (some ⟨bu, ofu, none⟩) un uc] 30)) := (Below.refl _ _).alloc (Nat.le_refl _) _
    obtain ⟨c0, c1, c2, c3, c4, c5⟩ := box_cells6 (World.alloc_heap_new w (.cells #[.string sec, .slice sa sn sc, .slice ta tn tc, .slice ca cn cc, .slice oa on oc, .slice (some ⟨bu, ofu, none⟩) un uc] 30))
    have HIQ := hiq (HIX.out _ hb)
    clear HIX
    go_enter Tryz.func31, Tryz.ntmps31
    go_wp2_with fail
    generalize w.alloc (.cells #[.string sec, .slice sa sn sc, .slice ta tn tc, .slice ca cn cc, .slice oa on oc, .slice (some ⟨bu, ofu, none⟩) un uc] 30) = W1 at *
    refine HIQ.out.mono ?_
    rintro e W2 ⟨rfl, hb2⟩
    replace c0 := clq hb2 c0; replace c1 := clq hb2 c1; replace c2 := clq hb2 c2; replace c3 := clq hb2 c3; replace c4 := clq hb2 c4; replace c5 := clq hb2 c5
    replace hb := hb.trans (hb2.mono hb.size)
    replace du := clq hb du
    clear HIQ hb2
    cases u with
    | true =>
      have HEQ := hiq (HD2.out rfl)
      clear HD1 HD2
      go_wp2
      refine bodyPost_ret (results_tmp2 rfl _ _ _) rfl ?_
      rw [HEQ.out]
      exact ⟨none, 0, 0, rfl, Sq.nil _ _ _ _ _, hb⟩
    | false =>
      have HEQ := hiq (HD1.out rfl)
      clear HD1 HD2
      have HSQ := hiq (HSET.out _ hb)
      go_wp2_with fail
      refine HSQ.out.mono ?_
      rintro e W3 ⟨v2, he, hR3, hb4⟩
      obtain ⟨⟨sec2, sa2, sn2, sc2, ta2, tn2, tc2, ca2, cn2, cc2⟩, oa2, on2, oc2, ua2, un2, uc2⟩ := v2
      change e = .returned (.agg #[.string sec2, .slice sa2 sn2 sc2, .slice ta2 tn2 tc2, .slice ca2 cn2 cc2, .slice oa2 on2 oc2, .slice ua2 un2 uc2]) at he
      subst he
      have hal : Below W3.heap.size W3 (W3.alloc (.cells #[.string sec2, .slice sa2 sn2 sc2, .slice ta2 tn2 tc2, .slice ca2 cn2 cc2, .slice oa2 on2 oc2, .slice ua2 un2 uc2] 30)) := (Below.refl _ _).alloc (Nat.le_refl _) _
      have hb5 := hb4.trans (hal.mono hb4.size)
      obtain ⟨z0, z1, z2, z3, z4, z5⟩ := box_cells6 (World.alloc_heap_new W3 (.cells #[.string sec2, .slice sa2 sn2 sc2, .slice ta2 tn2 tc2, .slice ca2 cn2 cc2, .slice oa2 on2 oc2, .slice ua2 un2 uc2] 30))
      have hRV := hR3.below hal
      replace hb := hb.trans (hb5.mono hb.size)
      have HRQ := hiq (HRN.out _ ⟨⟨sec2, sa2, sn2, sc2, ta2, tn2, tc2, ca2, cn2, cc2⟩, oa2, on2, oc2, ua2, un2, uc2⟩ _ hb hRV)
      change Hid (Calls _ _ #[.agg #[.string sec2, .slice sa2 sn2 sc2, .slice ta2 tn2 tc2, .slice ca2 cn2 cc2], .slice oa2 on2 oc2, .slice ua2 un2 uc2] _ _) at HRQ
      clear hR3 hb4 hb5 hal HSQ hRV HRN HSET
      go_wp2_with fail
      generalize W3.alloc (.cells #[.string sec2, .slice sa2 sn2 sc2, .slice ta2 tn2 tc2, .slice ca2 cn2 cc2, .slice oa2 on2 oc2, .slice ua2 un2 uc2] 30) = W4 at *
      refine HRQ.out.mono ?_
      rintro e W5 ⟨⟨sec3, sa3, sn3, sc3, ta3, tn3, tc3, ca3, cn3, cc3⟩, a, n, c, he, hR5, hN5, hb6⟩
      change e = .returned (.tuple #[.agg #[.string sec3, .slice sa3 sn3 sc3, .slice ta3 tn3 tc3, .slice ca3 cn3 cc3], .slice a n c, .int .i64 ER]) at he
      subst he
      have hal : Below W5.heap.size W5 (W5.alloc (.cells #[.string sec3, .slice sa3 sn3 sc3, .slice ta3 tn3 tc3, .slice ca3 cn3 cc3] 26)) := (Below.refl _ _).alloc (Nat.le_refl _) _
      have hbf := hb.trans ((hb6.trans (hal.mono hb6.size)).mono hb.size)
      have hNf := hN5.below rInt_ok hal
      have hsz := hb.size
      clear hR5 hN5 hb6 hal HRQ z0 z1 z2 z3 z4 z5
      go_wp2
      refine bodyPost_ret (results_tmp2 rfl _ _ _) rfl ?_
      rw [HEQ.out]
      exact ⟨a, n, c, rfl, hNf.mono rInt_ok (fun b q _ => by omega), hbf⟩
  · have HEQ : Hid (l.deps i = ([], l.idx i)) := by show _ = _; unfold Lg.deps; rw [if_pos i0]
    have t0 : ((l.idx i : Int) != 0) = true := by simpa using i0
    generalize l.deps i = R at *
    generalize l.idx i = I at *
    clear h h2 hm hE i0
    obtain ⟨⟨sec, sa, sn, sc, ta, tn, tc, ca, cn, cc⟩, oa, on, oc, ua, un, uc⟩ := v
    change Calls _ _ #[.agg #[.string sec, .slice sa sn sc, .slice ta tn tc, .slice ca cn cc, .slice oa on oc, .slice ua un uc], _] _ _
    change Hid (∀ W, _ -> Calls _ _ #[.agg #[.string sec, .slice sa sn sc, .slice ta tn tc, .slice ca cn cc, .slice oa on oc, .slice ua un uc], _] _ _) at HIX
    have hb : Below w.heap.size w (w.alloc (.cells #[.string sec, .slice sa sn sc, .slice ta tn tc, .slice ca cn cc, .slice oa on oc, .slice ua un uc] 30)) := (Below.refl _ _).alloc (Nat.le_refl _) _
    obtain ⟨c0, c1, c2, c3, c4, c5⟩ := box_cells6 (World.alloc_heap_new w (.cells #[.string sec, .slice sa sn sc, .slice ta tn tc, .slice ca cn cc, .slice oa on oc, .slice ua un uc] 30))
    have HIQ := hiq (HIX.out _ hb)
    clear HIX
    go_enter Tryz.func31, Tryz.ntmps31
    go_wp2_with fail
    generalize w.alloc (.cells #[.string sec, .slice sa sn sc, .slice ta tn tc, .slice ca cn cc, .slice oa on oc, .slice ua un uc] 30) = W1 at *
    refine HIQ.out.mono ?_
    rintro e W2 ⟨rfl, hb2⟩
    replace hb := hb.trans (hb2.mono hb.size)
    clear HIQ hb2 c0 c1 c2 c3 c4 c5
    go_wp2
    refine bodyPost_ret (results_tmp2 rfl _ _ _) rfl ?_
    rw [HEQ.out]
    exact ⟨none, 0, 0, rfl, Sq.nil _ _ _ _ _, hb⟩
end Go.Proofs.YtfdipkhbemgojaaGreatDoor
namespace Go.Proofs.YtfdipkhbemgojaaGreatDoor
open Go.RowKit
set_option maxRecDepth 100000
set_option maxHeartbeats 8000000

theorem undoC_no (S : Nat -> Prop) (oa : Option Addr) (on oc : Nat) (ua : Option Addr) (un uc : Nat) (und : List Bool) (i j : Nat) (w : World) (bi bl : Nat) (hu : Flgs S w ua un uc und)
    (ci : w.cell? ⟨bi, 0, none⟩ = some (.int .i64 i)) (c4 : w.cell? ⟨bl, 4, none⟩ = some (.slice oa on oc)) (c5 : w.cell? ⟨bl, 5, none⟩ = some (.slice ua un uc)) (hij : i < j) (hjn : j < on) (hju : j < un) (hx : unK und j = false) :
    Calls Tryz.prog 33 #[.int .i64 (j : Int), .pointer (some ⟨bi, 0, none⟩), .pointer (some ⟨bl, 0, none⟩)] w fun e w' => e = .returned (.bool false) /\ Below w.heap.size w w' := by
  obtain ⟨x, b, off, hg, -, rfl, -, hbl, cc⟩ := hu.flg hju
  have hxx : x = false := by unfold unK at hx; rw [hg] at hx; exact hx
  subst hxx
  clear hu hg hx
  go_enter Tryz.func33, Tryz.ntmps33
  have t1 : decide (j <= i) = false := by simp; omega
  have t2 : decide (on <= j) = false := by simp; omega
  go_wp2
  go_ret
  exact ⟨ret_bool rfl, Below.refl _ _⟩

theorem index_no (S : Nat -> Prop) (a : Option Addr) (n c : Nat) (l : List Int) (w : World) (bi bl : Nat) (h : Nums S w a n c l)
    (hg : ∀ x ∈ l, ∀ W, Below w.heap.size w W -> Calls Tryz.prog 33 #[.int .i64 x, .pointer (some ⟨bi, 0, none⟩), .pointer (some ⟨bl, 0, none⟩)] W fun e w' => e = .returned (.bool false) /\ Below W.heap.size W w') :
    Calls Tryz.prog 68 #[.slice a n c, .func (.func 33) #[] #[.pointer (some ⟨bi, 0, none⟩), .pointer (some ⟨bl, 0, none⟩)]] w fun e w' => e = .returned (.int .i64 (-1)) /\ Below w.heap.size w w' := by
  have hL := h.bound
  have HG := hiq hg
  clear hg
  go_enter Tryz.func68, Tryz.ntmps68
  go_wp2
  go_loopw [8] (fun i wr => ∃ (j : Nat), i = .int .i64 j /\ j <= n /\ Below w.heap.size w wr) (fun i _ => n - (intOf i).toNat)
  case atStart => exact ⟨0, rfl, Nat.zero_le _, Below.refl _ _⟩
  case round =>
    obtain ⟨j, rfl, hj, hb⟩ := hrel
    by_cases hlj : j < n
    · obtain ⟨u, bb, off, hu, hmem, rfl, -, hbl, hi64, c1⟩ := (h.below rInt_ok hb).int hlj
      have HF := hiq (HG.out u hmem wr hb)
      clear hu hmem
      go_wp2_with (go_at_call 33; refine HF.out.mono ?_; rintro e w' ⟨rfl, hb'⟩)
      go_roundw
      case rel => exact ⟨j + 1, by go_num, by omega, hb.trans (hb'.mono hb.size)⟩
      case measure => simp [intOf]; omega
    · obtain rfl : j = n := by omega
      go_wp2
      go_ret
      exact ⟨rfl, hb⟩

theorem contains_no (S : Nat -> Prop) (a : Option Addr) (n c : Nat) (l : List Int) (w : World) (bi bl : Nat) (h : Nums S w a n c l)
    (hg : ∀ x ∈ l, ∀ W, Below w.heap.size w W -> Calls Tryz.prog 33 #[.int .i64 x, .pointer (some ⟨bi, 0, none⟩), .pointer (some ⟨bl, 0, none⟩)] W fun e w' => e = .returned (.bool false) /\ Below W.heap.size W w') :
    Calls Tryz.prog 32 #[.slice a n c, .func (.func 33) #[] #[.pointer (some ⟨bi, 0, none⟩), .pointer (some ⟨bl, 0, none⟩)]] w fun e w' => e = .returned (.bool false) /\ Below w.heap.size w w' := by
  have F := hiq (index_no S a n c l w bi bl h hg)
  clear h hg
  go_enter Tryz.func32, Tryz.ntmps32
  go_wp2_with (go_at_call 68; refine F.out.mono ?_; rintro e w' ⟨rfl, hb'⟩)
  go_ret
  exact ⟨rfl, hb'⟩
end Go.Proofs.YtfdipkhbemgojaaGreatDoor
namespace Go.Proofs.YtfdipkhbemgojaaGreatDoor
open Go.RowKit

theorem zero_op (w : World) : (zeroValue 32).run Tryz.prog w = .ok (.agg #[.int .i64 0, .string ⟨#[]⟩, .int .i64 0, .int .i64 0, .string ⟨#[]⟩]) w := Tryz.zeroValue32 w
theorem run_clear_op (w : World) (ty : TypeId) (b o c : Nat) (hc : ∀ j, j < 5 -> (w.cell? ⟨b, o + j, none⟩).isSome = true) (hf : ∀ j, j < 5 -> w.frozen? ⟨b, o + j, none⟩ = false) :
    (Builtin.clear_ #[27] ty #[.slice (some ⟨b, o, none⟩) 1 c]).run Tryz.prog w = .ok (.tuple #[]) (w.setCells b o [.int .i64 0, .string ⟨#[]⟩, .int .i64 0, .int .i64 0, .string ⟨#[]⟩]) := by
  have hzc : (Builtin.zeroCells (Value.agg #[.int .i64 0, .string ⟨#[]⟩, .int .i64 0, .int .i64 0, .string ⟨#[]⟩]).cells 1).toList = [.int .i64 0, .string ⟨#[]⟩, .int .i64 0, .int .i64 0, .string ⟨#[]⟩] := by kernel_rfl
  have hst := run_storeCells_cells (P := Tryz.prog) b o [.int .i64 0, .string ⟨#[]⟩, .int .i64 0, .int .i64 0, .string ⟨#[]⟩] 0 w (by simpa using hc) (by simpa using hf) (by
    intro v hv
    rcases List.mem_cons.1 hv with rfl | hv
    · rfl
    rcases List.mem_cons.1 hv with rfl | hv
    · rfl
    rcases List.mem_cons.1 hv with rfl | hv
    · rfl
    rcases List.mem_cons.1 hv with rfl | hv
    · rfl
    rcases List.mem_cons.1 hv with rfl | hv
    · rfl
    cases hv)
  simp only [Nat.add_zero] at hst
  simp [Builtin.clear_, run_underlying Tryz.underlying27, zero_op, hzc, hst]
theorem OwnQ.first {α : Type} {e size : Nat} {enc : α -> List Value} {w : World} {B n cap i : Nat} {a : Option Addr} {l : List α} (h : OwnQ e size enc w B a n cap l) (henc : ∀ x, (enc x).length = size) (hi : i <= n) (hn : 0 < n) : OwnQ e size enc w B a i cap (l.take i) := by
  refine ⟨by rw [List.length_take, <- h.1]; omega, ?_⟩
  obtain ⟨h1, h2⟩ := h.2
  have hfl : (l.take i).flatMap enc = (l.flatMap enc).take (i * size) := by
    clear h h1 h2 hn hi
    induction l generalizing i with
    | nil => simp
    | cons x r ih =>
      cases i with
      | zero => simp
      | succ i =>
        simp only [List.take_succ_cons, List.flatMap_cons]
        rw [ih, List.take_append, henc x, show (i + 1) * size - size = i * size by rw [Nat.add_mul, Nat.one_mul]; omega]
        congr 1
        rw [List.take_of_length_le]
        rw [henc x, Nat.add_mul]; omega
  rcases h2 with ⟨_, h0⟩ | ⟨g, cap', cur, hv, hB, hg, hc, hm, hs, ht⟩
  · omega
  · cases hv
    refine ⟨?_, .inr ⟨g, _, cur, rfl, hB, hg, by omega, hm, hs, ?_⟩⟩
    · rw [flat_len henc, List.length_take, <- h.1]; congr 1; omega
    · rw [hfl, <- ht, List.take_take]; congr 1; rw [Nat.min_eq_left]; exact Nat.mul_le_mul_right _ hi
theorem OwnQ.cellAt {α : Type} {e size : Nat} {enc : α -> List Value} {w : World} {B n cap g : Nat} {l : List α} (h : OwnQ e size enc w B (some ⟨g, 0, none⟩) n cap l) (hn : 0 < n) {k : Nat} {u : Value} (hk : (l.flatMap enc)[k]? = some u) : w.cell? ⟨g, k, none⟩ = some u := by
  rcases h.2.2 with ⟨_, h0⟩ | ⟨g', cap', cur, hv, hB, hg, hc, hm, hs, ht⟩
  · omega
  · cases hv
    rw [cell_row hg]
    rw [<- ht] at hk
    rw [List.getElem?_take] at hk
    split at hk
    · simpa using hk
    · cases hk
theorem OwnQ.there {α : Type} {e size : Nat} {enc : α -> List Value} {w : World} {B n cap g : Nat} {l : List α} (h : OwnQ e size enc w B (some ⟨g, 0, none⟩) n cap l) {k : Nat} (hk : k < cap * size) : (w.cell? ⟨g, k, none⟩).isSome = true := by
  rcases h.2.2 with ⟨h0, _⟩ | ⟨g', cap', cur, hv, hB, hg, hc, hm, hs, ht⟩
  · cases h0
  · cases hv
    rw [cell_row hg, Array.getElem?_eq_getElem (by omega)]; rfl
theorem OwnQ.past {α : Type} {e size : Nat} {enc : α -> List Value} {w : World} {B n cap g j : Nat} {l : List α} (h : OwnQ e size enc w B (some ⟨g, 0, none⟩) n cap l) (hj : n * size <= j) (v : Value) : OwnQ e size enc (w.setCell ⟨g, j, none⟩ v) B (some ⟨g, 0, none⟩) n cap l := by
  rcases h.2.2 with ⟨h0, _⟩ | ⟨g', cap', cur, hv, hB, hg, hc, hm, hs, ht⟩
  · cases h0
  · cases hv
    refine ⟨h.1, h.2.1, .inr ⟨g, _, _, rfl, hB, heap_set_at (j := j) hg v, hc, hm, by simpa using hs, ?_⟩⟩
    rw [<- ht]
    simp only [Array.toList_setIfInBounds]
    rw [List.take_set_of_le hj]
theorem del_ops (w : World) (B : Nat) (a : Option Addr) (n cap i : Nat) (l : List Op) (h : OwnQ 32 5 Op.cells w B a n cap l) (hi : i < n) (hn : n <= 4096) :
    Calls Tryz.prog 34 #[.slice a n cap, .int .i64 (i : Int), .int .i64 ((i : Int) + 1)] w fun e w' => e = .returned (.slice a (n - 1) cap) /\ OwnQ 32 5 Op.cells w' B a (n - 1) cap (l.eraseIdx i) /\ w.grownBy w' (Value.slice a n cap).ownBlock := by
  obtain ⟨m, rfl⟩ : ∃ m, n = m + 1 := ⟨n - 1, by omega⟩
  rw [Nat.add_sub_cancel]
  have hFo := hiq (h.first (i := i) op_len (by omega) (by omega))
  obtain ⟨o, g, hj, -, rfl, hB, hgl, hgf, hgc⟩ := h.at_ op_len hi
  have hcap := h.cap_le
  have hlen : Hid (m + 1 = l.length) := h.len
  have hnews : Hid (∀ j u, ((l.drop (i + 1)).flatMap Op.cells)[j]? = some u -> w.cell? ((⟨g, (i + 1) * 5, none⟩ : Addr).add j) = some u) := fun j u hu => by
    rw [Addr.add_lit]
    refine h.cellAt (by omega) ?_
    have hsp : l.flatMap Op.cells = (l.take (i + 1)).flatMap Op.cells ++ (l.drop (i + 1)).flatMap Op.cells := by rw [<- List.flatMap_append, List.take_append_drop]
    have hl5 : ((l.take (i + 1)).flatMap Op.cells).length = (i + 1) * 5 := by rw [flat_len op_len, List.length_take, <- hlen.out]; congr 1; omega
    rw [hsp, List.getElem?_append_right (by omega), hl5, show (i + 1) * 5 + j - (i + 1) * 5 = j by omega]
    exact hu
  have hnl : Hid (((l.drop (i + 1)).flatMap Op.cells).length = (m - i) * 5) := by show _ = _; rw [flat_len op_len, List.length_drop, <- hlen.out, Nat.add_sub_add_right]
  have hone : Hid (∀ u ∈ (l.drop (i + 1)).flatMap Op.cells, u.oneCell' = true) := fun u hu => by
    obtain ⟨y, _, hy⟩ := List.mem_flatMap.1 hu
    exact op_one y u hy
  obtain ⟨i0, hi0, hz0, hz1, hz2⟩ := info_parts infoO
  obtain ⟨X, Wf, hX, hS1, hS2⟩ := family (fun _ : World => True) w.drew trivial
  have HS2 := hiq hS2
  have hic : i <= cap := by omega
  have hin : i + 1 <= m + 1 := by omega
  have hinI : (i : Int) + 1 <= (m : Int) + 1 := by omega
  have h0i : (0 : Int) <= (i : Int) + 1 := by omega
  have HI := hiq (And.intro hi0 hz1)
  have hgdr : Hid (∀ w2, w.drew.grownBy w2 (some g) -> w.grownBy w2 (some g)) := fun w2 q => ⟨q.os, q.tape, q.output, q.size, q.block⟩
  clear h hgf hgc hj hS1 hS2 hi0 hz0 hz1 hz2
  have TAILQ : ∀ w2, w2.ownsRow B 32 5 (.slice (some ⟨g, 0, none⟩) m cap) m ((l.take i).flatMap Op.cells ++ (l.drop (i + 1)).flatMap Op.cells) -> w.drew.grownBy w2 (some g) ->
      Hid (OwnQ 32 5 Op.cells w2 B (some ⟨g, 0, none⟩) m cap (l.eraseIdx i)) /\ (∀ ty, (Builtin.clear_ #[27] ty #[.slice (some ⟨g, m * 5, none⟩) 1 (cap - m)]).run Tryz.prog w2 = .ok (.tuple #[]) (w2.setCells g (m * 5) [.int .i64 0, .string ⟨#[]⟩, .int .i64 0, .int .i64 0, .string ⟨#[]⟩])) /\
        OwnQ 32 5 Op.cells (w2.setCells g (m * 5) [.int .i64 0, .string ⟨#[]⟩, .int .i64 0, .int .i64 0, .string ⟨#[]⟩]) B (some ⟨g, 0, none⟩) m cap (l.eraseIdx i) /\ w.grownBy (w2.setCells g (m * 5) [.int .i64 0, .string ⟨#[]⟩, .int .i64 0, .int .i64 0, .string ⟨#[]⟩]) (some g) := by
    intro w2 hO hg
    have hO9 : OwnQ 32 5 Op.cells w2 B (some ⟨g, 0, none⟩) m cap (l.eraseIdx i) := by
      refine ⟨by rw [List.length_eraseIdx_of_lt (by have := hlen.out; omega)]; have := hlen.out; omega, ?_⟩
      rw [List.eraseIdx_eq_take_drop_succ, List.flatMap_append]; exact hO
    refine ⟨hO9, fun ty => run_clear_op w2 ty g (m * 5) _ (fun j hj => hO9.there (by have : (m + 1) * 5 <= cap * 5 := Nat.mul_le_mul_right _ hcap; omega)) (fun j hj => hO9.frozenAt _), ?_, ?_⟩
    · exact ((((hO9.past (j := m * 5) (by omega) _).past (j := m * 5 + 1) (by omega) _).past (j := m * 5 + 1 + 1) (by omega) _).past (j := m * 5 + 1 + 1 + 1) (by omega) _).past (j := m * 5 + 1 + 1 + 1 + 1) (by omega) _
    · have hs : (w2.setCells g (m * 5) [.int .i64 0, .string ⟨#[]⟩, .int .i64 0, .int .i64 0, .string ⟨#[]⟩]).heap.size = w2.heap.size := by simp [World.setCells, World.setCell]
      have hq := World.keptBut_setCells g (may := fun _ => True) [.int .i64 0, .string ⟨#[]⟩, .int .i64 0, .int .i64 0, .string ⟨#[]⟩] (m * 5) w2 (fun _ _ => trivial)
      refine ⟨hg.os, hg.tape, hg.output, by rw [hs]; exact hg.size, fun b hb hne => ?_⟩
      have hbg : b ≠ g := fun e => hne (by rw [e])
      simp only [World.setCells]
      rw [heap_setCell_other hbg, heap_setCell_other hbg, heap_setCell_other hbg, heap_setCell_other hbg, heap_setCell_other hbg]
      exact hg.block b hb hne
  by_cases hce : i + 1 = cap
  · obtain rfl : i = m := by omega
    subst hce
    have hii : (i : Int) <= (i : Int) + 1 := by omega
    have hd : Hid ((l.drop (i + 1)).flatMap Op.cells = []) := by show _ = _; rw [List.drop_of_length_le (by have := hlen.out; omega)]; rfl
    go_enter Tryz.func34, Tryz.ntmps34
    go_wp2_with fail
    refine wp_region_tree (Wf := Wf) 7 (.read 0 (.read 1 (.read 2 (.read 3 (.read 4 (.read 5 (.act 6 .fin))))))) (by kernel_rfl) (by kernel_rfl) (fun _ _ d _ _ h => by cases d <;> exact h) (HS2.out _ trivial) ?_
    refine wpTree_read _ rfl (fun K hK => ?_); unfold rOp; go_simp; (refine hK _ ?_; clear hK K)
    refine wpTree_read _ rfl (fun K hK => ?_); unfold rOp; go_simp; (refine hK _ ?_; clear hK K)
    refine wpTree_read _ rfl (fun K hK => ?_); unfold rOp; go_simp; (refine hK _ ?_; clear hK K)
    refine wpTree_read _ rfl (fun K hK => ?_); unfold rOp; go_simp; (refine hK _ ?_; clear hK K)
    refine wpTree_read _ rfl (fun K hK => ?_); unfold rOp; go_simp; (refine hK _ ?_; clear hK K)
    refine wpTree_read _ rfl (fun K hK => ?_); unfold rOp; go_simp; (refine hK _ ?_; clear hK K)
    refine wpTree_act (k := 6) _ rfl ?_
    go_wp2_with (at_builtin; refine wpList_append_fits _ rfl _ _ 27 rfl B 32 i0 5 Tryz.underlying27 HI.out.1 HI.out.2 g i (i + 1) _ rfl hFo.out.2 ⟨g, 0, none⟩ 0 0 [] rfl rfl (fun j u h => by simp at h) (fun u h => by cases h) (by omega) ?_; intro w2 hO2 hg2)
    refine ⟨HS2.out _ trivial, wpTree_fin ?_⟩
    rw [Nat.add_zero] at hO2 ⊢
    obtain ⟨hO9, hcl, hO10, hgr⟩ := TAILQ w2 (by rw [hd.out]; exact hO2) hg2
    rw [show i + 1 - i = 1 by omega] at hcl
    clear hO2 hg2
    go_wp2
    go_ret
    exact ⟨rfl, hO10, hgr⟩
  · have hce' : ¬ cap = i + 1 := fun e => hce e.symm
    go_enter Tryz.func34, Tryz.ntmps34
    go_wp2_with fail
    refine wp_region_tree (Wf := Wf) 7 (.read 0 (.read 1 (.read 2 (.read 3 (.read 4 (.read 5 (.act 6 .fin))))))) (by kernel_rfl) (by kernel_rfl) (fun _ _ d _ _ h => by cases d <;> exact h) (HS2.out _ trivial) ?_
    refine wpTree_read _ rfl (fun K hK => ?_); unfold rOp; go_simp; (refine hK _ ?_; clear hK K)
    refine wpTree_read _ rfl (fun K hK => ?_); unfold rOp; go_simp; (refine hK _ ?_; clear hK K)
    refine wpTree_read _ rfl (fun K hK => ?_); unfold rOp; go_simp; (refine hK _ ?_; clear hK K)
    refine wpTree_read _ rfl (fun K hK => ?_); unfold rOp; go_simp; (refine hK _ ?_; clear hK K)
    refine wpTree_read _ rfl (fun K hK => ?_); unfold rOp; go_simp; (refine hK _ ?_; clear hK K)
    refine wpTree_read _ rfl (fun K hK => ?_); unfold rOp; go_simp; (refine hK _ ?_; clear hK K)
    refine wpTree_act (k := 6) _ rfl ?_
    go_wp2_with (at_builtin; refine wpList_append_fits _ rfl _ _ 27 rfl B 32 i0 5 Tryz.underlying27 HI.out.1 HI.out.2 g i cap _ rfl hFo.out.2 _ _ _ _ rfl hnl.out hnews.out hone.out (by omega) ?_; intro w2 hO2 hg2)
    refine ⟨HS2.out _ trivial, wpTree_fin ?_⟩
    rw [show i + (m - i) = m by omega] at hO2 ⊢
    obtain ⟨hO9, hcl, hO10, hgr⟩ := TAILQ w2 hO2 hg2
    clear hO2 hg2
    go_wp2
    go_ret
    exact ⟨rfl, hO10, hgr⟩
theorem boolV_oneCell : OneCell (fun b : Bool => Value.bool b) := fun _ => rfl
theorem del_flgs (w : World) (B : Nat) (a : Option Addr) (n cap i : Nat) (l : List Bool) (h : OwnQ 4 1 encB w B a n cap l) (hi : i < n) :
    Calls Tryz.prog 36 #[.slice a n cap, .int .i64 (i : Int), .int .i64 ((i : Int) + 1)] w fun e w' => e = .returned (.slice a (n - 1) cap) /\ OwnQ 4 1 encB w' B a (n - 1) cap (l.eraseIdx i) /\ w.grownBy w' (Value.slice a n cap).ownBlock := by
  have hl : l.length = n := h.len.symm
  rcases h.2.2 with ⟨_, h0⟩ | ⟨g, cap', cur, hv, hB, hg, hnc, hcm, hcs, ht⟩
  · omega
  · cases hv
    obtain ⟨i0, hi0, hz0, hz1, hz2⟩ := info_parts infoB
    have hH : Sort.Holds (fun b : Bool => Value.bool b) w g 0 l.toArray := by
      intro j hj
      rw [List.size_toArray] at hj
      obtain ⟨r, g', e1, _, e2, _, _, e3, e4⟩ := h.at_ (j := j) (fun _ => rfl) (by omega)
      cases e2
      refine ⟨?_, by rw [Nat.zero_add]; exact e3 j⟩
      have := e4 0 _ rfl
      rw [Nat.mul_one, Nat.add_zero] at this
      rw [Nat.zero_add, this, getElem!_pos _ j (by simpa using hj)]
      rw [List.getElem?_eq_getElem hj] at e1
      cases e1
      simp
    have hsz : l.toArray.size = n := by rw [List.size_toArray, hl]
    have := Tryz.slices_Delete_f36 (fun b : Bool => Value.bool b) boolV_oneCell false Tryz.zeroValue4 i0 hi0 hz1 g 0 cap i (i + 1) l.toArray w hH (by rw [hsz]; exact hnc) (by unfold maxLen at hcm; omega) (by omega) (by rw [hsz]; omega)
    rw [hsz, show i + 1 - i = 1 by omega] at this
    refine this.mono ?_
    rintro e w' ⟨rfl, q, rfl⟩
    have hd : (l.toArray.toList.take i ++ l.toArray.toList.drop (i + 1) ++ List.replicate 1 false : List Bool) = l.eraseIdx i ++ [false] := by
      simp [List.eraseIdx_eq_take_drop_succ]
    rw [hd]
    have hgr := putRow_grown (fun b : Bool => Value.bool b) w g q (l.eraseIdx i ++ [false]).toArray
    have hle : (l.eraseIdx i).length = n - 1 := by rw [List.length_eraseIdx_of_lt (by omega), hl]
    refine ⟨rfl, ⟨hle.symm, ?_, .inr ⟨g, cap, _, rfl, hB, heap_putRow (fun b : Bool => Value.bool b) w g q _ hg, by omega, hcm, by simp [Sort.putCells, hcs], ?_⟩⟩, hgr⟩
    · have := flat_len (enc := encB) (size := 1) (fun _ => rfl) (l.eraseIdx i); rw [this, hle]
    · apply List.ext_getElem?
      intro k
      rw [List.getElem?_take]
      have hfl : (l.eraseIdx i).flatMap encB = (l.eraseIdx i).map (fun b : Bool => Value.bool b) := flat_one
      rw [hfl, List.getElem?_map]
      by_cases hk : k < (n - 1) * 1
      · rw [if_pos hk]
        have hkl : k < (l.eraseIdx i).length := by omega
        have hkc : k < cur.size := by rw [hcs]; omega
        rw [List.getElem?_eq_getElem hkl]
        simp only [Sort.putCells, Array.getElem?_toList, Array.getElem?_mapIdx, Array.getElem?_eq_getElem hkc, Option.map_some]
        rw [if_pos ⟨Nat.zero_le _, by simp; omega⟩, getElem!_pos _ _ (by simp; omega)]
        simp only [Nat.sub_zero, List.getElem_toArray]
        rw [List.getElem_append_left hkl]
      · rw [if_neg hk, List.getElem?_eq_none (by omega)]; rfl
end Go.Proofs.YtfdipkhbemgojaaGreatDoor
