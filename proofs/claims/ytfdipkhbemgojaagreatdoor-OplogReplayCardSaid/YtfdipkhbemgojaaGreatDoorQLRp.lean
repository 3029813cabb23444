/- The law OplogReplay (printed by gen_olaws.py). -/
import Derived.Test.YtfdipkhbemgojaaGreatDoorP38
import Derived.Test.YtfdipkhbemgojaaGreatDoorP41
set_option linter.unusedVariables false
set_option linter.unusedSimpArgs false
set_option maxRecDepth 100000
set_option maxHeartbeats 16000000
namespace Go.Proofs.YtfdipkhbemgojaaGreatDoor
open Go.RowKit

theorem replay_facts {x : Col} {ops : List Op} {und : List Bool} (h1 : x.err = 0) (h2 : ops.length = und.length) (h3 : ops.length <= 8) :
    replayed x ops und = ((runL x ops und).st, (runL x ops und).sk, 0) /\ (⟨x, ops, skipAll und (runL x ops und).sk⟩ : Lg).state = ((runL x ops und).st, 0) /\ ((⟨x, ops, und⟩ : Lg).err = 0 ↔ (runL x ops und).sk = []) /\
      (runL x ops und).sk.Pairwise (· < ·) /\ (runL x ops und).sk.length <= 8 /\ (∀ (k : Nat) i, (runL x ops und).sk[k]? = some i -> 0 <= i /\ i < (und.length : Int) /\ unK (skipAll und ((runL x ops und).sk.take k)) i.toNat = false /\ skipAll und ((runL x ops und).sk.take (k + 1)) = (skipAll und ((runL x ops und).sk.take k)).set i.toNat true) := by
  have hz : listsErr x ops und = 0 := lists_zero.2 ⟨h1, h2, by omega⟩
  have hs : (∀ i ∈ (runL x ops und).sk, ∃ j, j < ops.length /\ i = (j : Int) /\ unK und j = false /\ opErr (runN x ops und j).st (opK ops j) ≠ 0) /\ (runL x ops und).sk.Pairwise (· < ·) := runN_sk ops.length
  have hr := replay_rest (x := x) h2
  have he : (⟨x, ops, skipAll und (runL x ops und).sk⟩ : Lg).err = 0 := err_zero.2 ⟨⟨h1, by show ops.length = (skipAll und _).length; rw [skipAll_len]; exact h2, by show ops.length <= 256; omega⟩, hr.2⟩
  refine ⟨by unfold replayed; rw [if_neg (by simp [hz])], ?_, ?_, hs.2, ?_, fun k i hi => ?_⟩
  · rw [state_ok he]; exact congrArg (fun z => (z, (0 : Int))) hr.1
  · rw [err_sk]; exact ⟨fun q => q.2, fun q => ⟨⟨h1, h2, by show ops.length <= 256; omega⟩, q⟩⟩
  · have hsub : (runL x ops und).sk.length <= ops.length := runN_len x ops und ops.length
    omega
  · have hmem : i ∈ (runL x ops und).sk := List.mem_of_getElem? hi
    obtain ⟨j, hj, e, hu, -⟩ := hs.1 i hmem
    have hnn : ∀ q ∈ (runL x ops und).sk.take k, 0 <= q := fun q hq => by obtain ⟨j', -, e', -⟩ := hs.1 q (List.mem_of_mem_take hq); omega
    refine ⟨by omega, by omega, ?_, ?_⟩
    · have hjt : i.toNat = j := by omega
      rw [hjt, skipAll_get _ _ _ hnn (by omega), hu, Bool.false_or]
      refine decide_eq_false (fun hm => ?_)
      obtain ⟨q, hq, eq⟩ := List.getElem_of_mem hm
      rw [List.getElem_take] at eq
      have hqk : q < k := by rw [List.length_take] at hq; omega
      obtain ⟨hkl, ek⟩ := List.getElem?_eq_some_iff.1 hi
      have := List.pairwise_iff_getElem.1 hs.2 q k (by rw [List.length_take] at hq; omega) hkl hqk
      rw [eq, ek, e] at this
      omega
    · rw [List.take_add_one, hi]
      exact skipAll_snoc _ _ _
theorem replay_law (S : Nat -> Prop) (v : CV) (x : Col) (oa : Option Addr) (on oc : Nat) (ops : List Op) (ua : Option Addr) (un uc : Nat) (und : List Bool) (w : World) (h : RdC S w v x) (hE : Env w) (ho : Opsq S w oa on oc ops) (hu : Flgs S w ua un uc und) :
    Calls Tryz.prog 8 #[v.val, .slice oa on oc, .slice ua un uc] w fun e w' => e = .returned (.bool true) /\ Below w.heap.size w w' := by
  have HAW : Hid (∀ W, Below w.heap.size w W -> Calls Tryz.prog 13 #[] W fun e w' => e = .returned (.bool true) /\ Below W.heap.size W w') := fun W hb => awake_any W (hE.below hb)
  have HSM : Hid (∀ u v x W, RC W u x -> RC W v x -> Calls Tryz.prog 23 #[u.val, v.val] W fun e w' => e = .returned (.bool true) /\ Below W.heap.size W w') := fun u v x W h k => sameC_yes h k
  have HG : Hid (∀ W, Below w.heap.size w W -> Calls Tryz.prog 38 #[v.val] W fun e w' => e = .returned (.bool (great x)) /\ Below W.heap.size W w') := fun W hb => great_ref S v x W (h.below hb)
  have HK : Hid (great x = false -> ∀ W, Below w.heap.size w W -> Calls Tryz.prog 39 #[v.val] W fun e w' => e = .returned (.int .i64 x.err) /\ Below W.heap.size W w') := fun hg W hb => check_ref S v x W (h.below hb) (great_sml hg)
  have HO : Hid (∀ W, Below w.heap.size w W -> Calls Tryz.prog 40 #[.slice oa on oc, .slice ua un uc] W (BPost false (SmO ops und) W)) := fun W hb => greatOps_ref S oa on oc ua un uc ops und W (ho.below rOpn_ok hb) (hu.below rBool_ok hb)
  have HRP : Hid (great x = false -> x.err = 0 -> SmO ops und -> on <= 8 -> on = un -> ∀ W, Below w.heap.size w W -> Calls Tryz.prog 41 #[v.val, .slice oa on oc, .slice ua un uc] W fun e w' => ∃ (v' : CV) (a : Option Addr) (n c : Nat), e = .returned (.tuple #[v'.val, .slice a n c, .int .i64 0]) /\ RC w' v' (runL x ops und).st /\ Nums (fun _ => True) w' a n c (runL x ops und).sk /\ Below W.heap.size W w') := fun g0 e0 hs h8 hn W hb => by
    have := replayE_any (fun _ => True) v x oa on oc ua un uc ops und W (h.below hb).t ((ho.below rOpn_ok hb).mono rOpn_ok (fun _ _ _ => trivial)) ((hu.below rBool_ok hb).mono rBool_ok (fun _ _ _ => trivial)) (great_sml g0) (fun o ho => by have := (hs.1 o ho).1; omega) (hE.below hb)
    rw [(replay_facts e0 (by rw [<- ho.len, <- hu.len]; exact hn) (by rw [<- ho.len]; exact h8)).1] at this
    exact this.mono (fun e w' ⟨v', a, n, c, q1, q2, q3, q4⟩ => ⟨v', a, n, c, q1, q2.t, q3.mono rInt_ok (fun _ _ _ => trivial), q4⟩)
  have HIS : Hid (x.err = 0 -> on <= 8 -> on = un -> ∀ a n c W, Nums (fun _ => True) W a n c (runL x ops und).sk -> Calls Tryz.prog 42 #[.slice a n c] W fun e w' => e = .returned (.bool true) /\ Below W.heap.size W w') := fun e0 h8 hn a n c W hN => sorted_any _ a n c _ W hN (replay_facts e0 (by rw [<- ho.len, <- hu.len]; exact hn) (by rw [<- ho.len]; exact h8)).2.2.2.1
  have HCL : Hid (∀ W, Below w.heap.size w W -> Calls Tryz.prog 37 #[.slice ua un uc] W fun e w' => ∃ a' c', e = .returned (.slice a' un c') /\ OwnQ 4 1 encB w' W.heap.size a' un c' und /\ Below W.heap.size W w') := fun W hb => clone_flgs S ua un uc und W (hu.below rBool_ok hb)
  have HSS : Hid (great x = false -> x.err = 0 -> SmO ops und -> on <= 8 -> on = un -> ∀ a c W, Below w.heap.size w W -> Flgs (fun _ => True) W a un c (skipAll und (runL x ops und).sk) -> Calls Tryz.prog 18 #[.agg #[.string v.sec, .slice v.sa v.sn v.sc, .slice v.ta v.tn v.tc, .slice v.ca v.cn v.cc, .slice oa on oc, .slice a un c]] W (ColP (runL x ops und).st 0 W)) := fun g0 e0 hs h8 hn a c W hb hf => by
    have := (state_any (fun _ => True) ⟨v, oa, on, oc, a, un, c⟩ ⟨x, ops, skipAll und (runL x ops und).sk⟩ W ⟨(h.below hb).t, (ho.below rOpn_ok hb).mono rOpn_ok (fun _ _ _ => trivial), hf⟩ ⟨great_sml g0, fun o ho => by have := (hs.1 o ho).1; omega⟩ (hE.below hb)).mono (fun e w' h => h.p)
    rw [(replay_facts e0 (by rw [<- ho.len, <- hu.len]; exact hn) (by rw [<- ho.len]; exact h8)).2.1] at this
    exact this
  have HLK : Hid (great x = false -> SmO ops und -> ∀ W, Below w.heap.size w W -> Calls Tryz.prog 20 #[.agg #[.string v.sec, .slice v.sa v.sn v.sc, .slice v.ta v.tn v.tc, .slice v.ca v.cn v.cc, .slice oa on oc, .slice ua un uc]] W fun e w' => e = .returned (.int .i64 (⟨x, ops, und⟩ : Lg).err) /\ Below W.heap.size W w') := fun g0 hs W hb =>
    lck_any (fun _ => True) ⟨v, oa, on, oc, ua, un, uc⟩ ⟨x, ops, und⟩ W ⟨(h.below hb).t, (ho.below rOpn_ok hb).mono rOpn_ok (fun _ _ _ => trivial), (hu.below rBool_ok hb).mono rBool_ok (fun _ _ _ => trivial)⟩ ⟨great_sml g0, fun o ho => by have := (hs.1 o ho).1; omega⟩ (hE.below hb)
  have HF : Hid (x.err = 0 -> on <= 8 -> on = un -> ((⟨x, ops, und⟩ : Lg).err = 0 ↔ (runL x ops und).sk = []) /\ (runL x ops und).sk.length <= 8 /\ (∀ (k : Nat) i, (runL x ops und).sk[k]? = some i -> 0 <= i /\ i < (un : Int) /\ unK (skipAll und ((runL x ops und).sk.take k)) i.toNat = false /\ skipAll und ((runL x ops und).sk.take (k + 1)) = (skipAll und ((runL x ops und).sk.take k)).set i.toNat true)) := fun e0 h8 hn => by
    have q := (replay_facts e0 (by rw [<- ho.len, <- hu.len]; exact hn) (by rw [<- ho.len]; exact h8)).2.2
    rw [<- hu.len] at q
    exact ⟨q.1, q.2.2.1, q.2.2.2⟩
  have hub := hu.bound
  have hob := ho.bound
  generalize (⟨x, ops, und⟩ : Lg).err = LE at *
  generalize (runL x ops und).sk = SK at *
  generalize (runL x ops und).st = ST at *
  generalize SmO ops und = PO at *
  generalize great x = GX at *
  generalize x.err = XE at *
  clear h hE ho hu
  obtain ⟨sec, sa, sn, sc, ta, tn, tc, ca, cn, cc⟩ := v
  dsimp only at HSS HLK
  have hb : Below w.heap.size w (w.alloc (.cells #[.string sec, .slice sa sn sc, .slice ta tn tc, .slice ca cn cc] 26)) := (Below.refl _ _).alloc (Nat.le_refl _) _
  obtain ⟨x0, x1, x2, x3, -⟩ := box_cells4 (World.alloc_heap_new w (.cells #[.string sec, .slice sa sn sc, .slice ta tn tc, .slice ca cn cc] 26))
  change Calls _ _ #[.agg #[.string sec, .slice sa sn sc, .slice ta tn tc, .slice ca cn cc], _, _] _ _
  go_enter Tryz.func8, Tryz.ntmps8
  have HQ := hiq (HG.out _ hb)
  change Hid (Calls _ _ #[.agg #[.string sec, .slice sa sn sc, .slice ta tn tc, .slice ca cn cc]] _ _) at HQ
  go_wp2_with fail
  generalize w.alloc (.cells #[.string sec, .slice sa sn sc, .slice ta tn tc, .slice ca cn cc] 26) = W1 at *
  refine HQ.out.mono ?_
  rintro e W2 ⟨rfl, hbk⟩
  replace x0 := clq hbk x0; replace x1 := clq hbk x1; replace x2 := clq hbk x2; replace x3 := clq hbk x3
  replace hb := hb.trans (hbk.mono hb.size)
  clear hbk HQ
  cases GX with
  | true =>
    have HQ := hiq (HAW.out _ hb)
    go_wp2_with fail
    refine HQ.out.mono ?_
    rintro e W3 ⟨rfl, hbk⟩
    replace x0 := clq hbk x0; replace x1 := clq hbk x1; replace x2 := clq hbk x2; replace x3 := clq hbk x3
    replace hb := hb.trans (hbk.mono hb.size)
    clear hbk HQ
    go_wp2
    go_ret
    exact ⟨rfl, hb⟩
  | false =>
    have HQ := hiq (HK.out (by simp) _ hb)
    change Hid (Calls _ _ #[.agg #[.string sec, .slice sa sn sc, .slice ta tn tc, .slice ca cn cc]] _ _) at HQ
    go_wp2_with fail
    refine HQ.out.mono ?_
    rintro e W3 ⟨rfl, hbk⟩
    replace x0 := clq hbk x0; replace x1 := clq hbk x1; replace x2 := clq hbk x2; replace x3 := clq hbk x3
    replace hb := hb.trans (hbk.mono hb.size)
    clear hbk HQ
    by_cases e0 : XE = 0
    · have t0 : ((XE : Int) != 0) = false := by simp [e0]
      have HE0 := hiq e0
      clear e0
      have HQ := hiq (HO.out _ hb)
      go_wp2_with fail
      refine HQ.out.mono ?_
      rintro e W4 ⟨g, rfl, hbk, hpg⟩
      replace x0 := clq hbk x0; replace x1 := clq hbk x1; replace x2 := clq hbk x2; replace x3 := clq hbk x3
      replace hb := hb.trans (hbk.mono hb.size)
      clear hbk HQ
      cases g with
      | true =>
        have HQ := hiq (HAW.out _ hb)
        go_wp2_with fail
        refine HQ.out.mono ?_
        rintro e W5 ⟨rfl, hbk⟩
        replace x0 := clq hbk x0; replace x1 := clq hbk x1; replace x2 := clq hbk x2; replace x3 := clq hbk x3
        replace hb := hb.trans (hbk.mono hb.size)
        clear hbk HQ
        go_wp2
        go_ret
        exact ⟨rfl, hb⟩
      | false =>
        have HP := hiq (hpg rfl)
        clear hpg
        by_cases h8 : 8 < on
        · have HQ := hiq (HAW.out _ hb)
          go_wp2_with fail
          refine HQ.out.mono ?_
          rintro e W5 ⟨rfl, hbk⟩
          replace x0 := clq hbk x0; replace x1 := clq hbk x1; replace x2 := clq hbk x2; replace x3 := clq hbk x3
          replace hb := hb.trans (hbk.mono hb.size)
          clear hbk HQ
          go_wp2
          go_ret
          exact ⟨rfl, hb⟩
        · by_cases hn : on = un
          · have t1 : ((on : Int) != (un : Int)) = false := by simp [hn]
            have h8H : Hid (on <= 8) := by show _ <= _; omega
            have hnH := hiq hn
            clear hn
            have HQ := hiq (HRP.out (by simp) HE0.out HP.out h8H.out hnH.out _ hb)
            change Hid (Calls _ _ #[.agg #[.string sec, .slice sa sn sc, .slice ta tn tc, .slice ca cn cc], _, _] _ _) at HQ
            go_wp2_with fail
            refine HQ.out.mono ?_
            rintro e W5 ⟨v, ka, kn, kc, he, hR, hN, hbk⟩
            obtain ⟨secY, saY, snY, scY, taY, tnY, tcY, caY, cnY, ccY⟩ := v
            change e = .returned (.tuple #[.agg #[.string secY, .slice saY snY scY, .slice taY tnY tcY, .slice caY cnY ccY], .slice ka kn kc, .int .i64 0]) at he
            subst he
            have hal : Below W5.heap.size W5 (W5.alloc (.cells #[.string secY, .slice saY snY scY, .slice taY tnY tcY, .slice caY cnY ccY] 26)) := (Below.refl _ _).alloc (Nat.le_refl _) _
            have hst := hbk.trans (hal.mono hbk.size)
            obtain ⟨y0, y1, y2, y3, -⟩ := box_cells4 (World.alloc_heap_new W5 (.cells #[.string secY, .slice saY snY scY, .slice taY tnY tcY, .slice caY cnY ccY] 26))
            replace x0 := clq hst x0; replace x1 := clq hst x1; replace x2 := clq hst x2; replace x3 := clq hst x3
            have HRY := hiq (hR.below hal)
            have HNK := hiq (hN.below rInt_ok hal)
            replace hb := hb.trans (hst.mono hb.size)
            clear hR hN hbk hal hst HQ
            have HQ := hiq (HIS.out HE0.out h8H.out hnH.out _ _ _ _ HNK.out)
            go_wp2_with fail
            generalize W5.alloc (.cells #[.string secY, .slice saY snY scY, .slice taY tnY tcY, .slice caY cnY ccY] 26) = W6 at *
            refine HQ.out.mono ?_
            rintro e W7 ⟨rfl, hbk⟩
            replace x0 := clq hbk x0; replace x1 := clq hbk x1; replace x2 := clq hbk x2; replace x3 := clq hbk x3; replace y0 := clq hbk y0; replace y1 := clq hbk y1; replace y2 := clq hbk y2; replace y3 := clq hbk y3
            replace HRY := hiq (HRY.out.below hbk)
            replace HNK := hiq (HNK.out.below rInt_ok hbk)
            replace hb := hb.trans (hbk.mono hb.size)
            clear hbk HQ
            have hvb := hb.size
            have HNS := hiq (HNK.out.mono rInt_ok (S' := fun b => b < W7.heap.size) (fun _ _ h => h))
            have HBW := hiq hb
            have HQ := hiq (HCL.out _ hb)
            go_wp2_with fail
            refine HQ.out.mono ?_
            rintro e W8 ⟨ra, rc, rfl, hO, hbk⟩
            have HB0 := hiq hbk
            have hsz := hbk.size
            clear HQ hbk
            have hkn : kn <= 8 := by rw [HNK.out.len]; exact (HF.out HE0.out h8H.out hnH.out).2.1
            have hun8 : un <= 8 := by have := h8H.out; have := hnH.out; omega
            have HO0 := hiq hO
            clear hO
            go_wp2_with fail
            go_loopw [60] (fun i wr => ∃ (k : Nat), i = .int .i64 k /\ k <= kn /\ Below W7.heap.size W8 wr /\ Hid (OwnQ 4 1 encB wr W7.heap.size ra un rc (skipAll und (SK.take k)))) (fun i _ => kn - (intOf i).toNat)
            case atStart => exact ⟨0, rfl, Nat.zero_le _, (Below.refl W8.heap.size W8).mono hsz, HO0.out⟩
            case round =>
              obtain ⟨k, rfl, hk, hbl, hO⟩ := hrel
              by_cases hkl : k < kn
              · obtain ⟨i, b1, o1, hi, -, ea, hS1, hlb, hI1, d1⟩ := HNS.out.int hkl
                obtain ⟨i0, i1, i2, i3⟩ := (HF.out HE0.out h8H.out hnH.out).2.2 k i hi
                obtain ⟨j, rfl⟩ : ∃ j : Nat, i = (j : Int) := ⟨i.toNat, by omega⟩
                have hj : j < un := by omega
                rw [Int.toNat_natCast] at i2 i3
                have hq := hO.out
                obtain ⟨q, gq, hqx, -, era, hgB, hgl, hgf, hgc⟩ := hq.at_ (fun _ => rfl) hj
                have hqf : q = false := by
                  have : unK (skipAll und (SK.take k)) j = q := by unfold unK; rw [hqx]; rfl
                  rw [<- this]; exact i2
                have dr : wr.cell? ⟨gq, j, none⟩ = some (.bool q) := by
                  have := hgc 0 _ rfl
                  rw [Nat.mul_one, Nat.add_zero] at this; exact this
                have dk := cell_out hbl (clq HB0.out d1) (by show b1 < _; exact hS1)
                have hf := hgf j
                subst hqf
                subst era
                subst ea
                have hO2 := hq.put1 one_bool j true (.bool true) rfl
                have hb2 := hbl.setCell (p := ⟨gq, j, none⟩) (by show _ <= gq; omega) (.bool true)
                have HN := hiq (And.intro hO2 (And.intro hb2 i3))
                clear hi i0 i1 i2 i3 hqx hgc hgf d1 hO hO2 hb2 hq hbl hS1 hlb hI1 HO0
                go_wp2
                go_roundw
                case rel => exact ⟨k + 1, by go_num, by omega, HN.out.2.1, by show OwnQ _ _ _ _ _ _ _ _ _; rw [HN.out.2.2]; exact HN.out.1⟩
                case measure => simp [intOf]; omega
              · obtain rfl : kn = k := by omega
                have hO9 := hO.out
                rw [show SK.take kn = SK by rw [HNK.out.len, List.take_length]] at hO9
                have hlw : Below W7.heap.size W7 wr := (Below.refl _ _).mono (Nat.le_refl _) |>.trans (HB0.out.trans (hbl))
                replace x0 := clq hlw x0; replace x1 := clq hlw x1; replace x2 := clq hlw x2; replace x3 := clq hlw x3; replace y0 := clq hlw y0; replace y1 := clq hlw y1; replace y2 := clq hlw y2; replace y3 := clq hlw y3
                replace HRY := hiq (HRY.out.below hlw)
                replace HNK := hiq (HNK.out.below rInt_ok hlw)
                replace HNS := hiq (HNS.out.below rInt_ok hlw)
                replace hb := HBW.out.trans (hlw.mono HBW.out.size)
                have hfl : Flgs (fun _ => True) wr ra un rc (skipAll und SK) := hO9.flgs (by omega) (fun _ _ _ => trivial)
                clear hO hO9
                have HQ := hiq (HSS.out (by simp) HE0.out HP.out h8H.out hnH.out _ _ _ hb hfl)
                change Hid (Calls _ _ #[.agg #[.string sec, .slice sa sn sc, .slice ta tn tc, .slice ca cn cc, .slice oa on oc, .slice ra un rc]] _ _) at HQ
                go_wp2_with fail
                refine HQ.out.mono ?_
                rintro e W60 ⟨v, he, hR, hbk⟩
                obtain ⟨secZ, saZ, snZ, scZ, taZ, tnZ, tcZ, caZ, cnZ, ccZ⟩ := v
                change e = .returned (.tuple #[.agg #[.string secZ, .slice saZ snZ scZ, .slice taZ tnZ tcZ, .slice caZ cnZ ccZ], .int .i64 0]) at he
                subst he
                have hal : Below W60.heap.size W60 (W60.alloc (.cells #[.string secZ, .slice saZ snZ scZ, .slice taZ tnZ tcZ, .slice caZ cnZ ccZ] 26)) := (Below.refl _ _).alloc (Nat.le_refl _) _
                have hst := hbk.trans (hal.mono hbk.size)
                obtain ⟨z0, z1, z2, z3, -⟩ := box_cells4 (World.alloc_heap_new W60 (.cells #[.string secZ, .slice saZ snZ scZ, .slice taZ tnZ tcZ, .slice caZ cnZ ccZ] 26))
                replace x0 := clq hst x0; replace x1 := clq hst x1; replace x2 := clq hst x2; replace x3 := clq hst x3; replace y0 := clq hst y0; replace y1 := clq hst y1; replace y2 := clq hst y2; replace y3 := clq hst y3
                replace HRY := hiq (HRY.out.below hst)
                replace HNK := hiq (HNK.out.below rInt_ok hst)
                replace HNS := hiq (HNS.out.below rInt_ok hst)
                have HRZ := hiq (hR.below hal)
                replace hb := hb.trans (hst.mono hb.size)
                clear hR hbk hal hst HQ
                have HQ := hiq (HLK.out (by simp) HP.out _ hb)
                change Hid (Calls _ _ #[.agg #[.string sec, .slice sa sn sc, .slice ta tn tc, .slice ca cn cc, .slice oa on oc, .slice ua un uc]] _ _) at HQ
                go_wp2_with fail
                generalize W60.alloc (.cells #[.string secZ, .slice saZ snZ scZ, .slice taZ tnZ tcZ, .slice caZ cnZ ccZ] 26) = W61 at *
                refine HQ.out.mono ?_
                rintro e W62 ⟨rfl, hbk⟩
                replace x0 := clq hbk x0; replace x1 := clq hbk x1; replace x2 := clq hbk x2; replace x3 := clq hbk x3; replace y0 := clq hbk y0; replace y1 := clq hbk y1; replace y2 := clq hbk y2; replace y3 := clq hbk y3; replace z0 := clq hbk z0; replace z1 := clq hbk z1; replace z2 := clq hbk z2; replace z3 := clq hbk z3
                replace HRY := hiq (HRY.out.below hbk)
                replace HNK := hiq (HNK.out.below rInt_ok hbk)
                replace HNS := hiq (HNS.out.below rInt_ok hbk)
                replace HRZ := hiq (HRZ.out.below hbk)
                replace hb := hb.trans (hbk.mono hb.size)
                clear hbk HQ
                have hlk : Hid (LE = 0 ↔ kn = 0) := by
                  show _ ↔ _
                  rw [(HF.out HE0.out h8H.out hnH.out).1, HNK.out.len]
                  exact List.length_eq_zero_iff.symm
                by_cases q : kn = 0
                · have q9 := hlk.out.2 q
                  have t4 : ((LE : Int) == 0) = true := by simp [q9]
                  have t5 : ((kn : Int) == 0) = true := by simp [q]
                  clear q q9
                  have HQ := hiq (HSM.out ⟨secY, saY, snY, scY, taY, tnY, tcY, caY, cnY, ccY⟩ ⟨secZ, saZ, snZ, scZ, taZ, tnZ, tcZ, caZ, cnZ, ccZ⟩ _ _ HRY.out HRZ.out)
                  change Hid (Calls _ _ #[.agg #[.string secY, .slice saY snY scY, .slice taY tnY tcY, .slice caY cnY ccY], .agg #[.string secZ, .slice saZ snZ scZ, .slice taZ tnZ tcZ, .slice caZ cnZ ccZ]] _ _) at HQ
                  go_wp2_with fail
                  refine HQ.out.mono ?_
                  rintro e W63 ⟨rfl, hbk⟩
                  replace x0 := clq hbk x0; replace x1 := clq hbk x1; replace x2 := clq hbk x2; replace x3 := clq hbk x3; replace y0 := clq hbk y0; replace y1 := clq hbk y1; replace y2 := clq hbk y2; replace y3 := clq hbk y3; replace z0 := clq hbk z0; replace z1 := clq hbk z1; replace z2 := clq hbk z2; replace z3 := clq hbk z3
                  replace HRY := hiq (HRY.out.below hbk)
                  replace HNK := hiq (HNK.out.below rInt_ok hbk)
                  replace HNS := hiq (HNS.out.below rInt_ok hbk)
                  replace HRZ := hiq (HRZ.out.below hbk)
                  replace hb := hb.trans (hbk.mono hb.size)
                  clear hbk HQ
                  have HQ := hiq (HAW.out _ hb)
                  go_wp2_with fail
                  refine HQ.out.mono ?_
                  rintro e W64 ⟨rfl, hbk⟩
                  replace x0 := clq hbk x0; replace x1 := clq hbk x1; replace x2 := clq hbk x2; replace x3 := clq hbk x3; replace y0 := clq hbk y0; replace y1 := clq hbk y1; replace y2 := clq hbk y2; replace y3 := clq hbk y3; replace z0 := clq hbk z0; replace z1 := clq hbk z1; replace z2 := clq hbk z2; replace z3 := clq hbk z3
                  replace HRY := hiq (HRY.out.below hbk)
                  replace HNK := hiq (HNK.out.below rInt_ok hbk)
                  replace HNS := hiq (HNS.out.below rInt_ok hbk)
                  replace HRZ := hiq (HRZ.out.below hbk)
                  replace hb := hb.trans (hbk.mono hb.size)
                  clear hbk HQ
                  go_wp2
                  go_ret
                  exact ⟨rfl, hb⟩
                · have q9 := fun e => q (hlk.out.1 e)
                  have t4 : ((LE : Int) == 0) = false := by simpa using q9
                  have t5 : ((kn : Int) == 0) = false := by simp; omega
                  clear q q9
                  have HQ := hiq (HSM.out ⟨secY, saY, snY, scY, taY, tnY, tcY, caY, cnY, ccY⟩ ⟨secZ, saZ, snZ, scZ, taZ, tnZ, tcZ, caZ, cnZ, ccZ⟩ _ _ HRY.out HRZ.out)
                  change Hid (Calls _ _ #[.agg #[.string secY, .slice saY snY scY, .slice taY tnY tcY, .slice caY cnY ccY], .agg #[.string secZ, .slice saZ snZ scZ, .slice taZ tnZ tcZ, .slice caZ cnZ ccZ]] _ _) at HQ
                  go_wp2_with fail
                  refine HQ.out.mono ?_
                  rintro e W63 ⟨rfl, hbk⟩
                  replace x0 := clq hbk x0; replace x1 := clq hbk x1; replace x2 := clq hbk x2; replace x3 := clq hbk x3; replace y0 := clq hbk y0; replace y1 := clq hbk y1; replace y2 := clq hbk y2; replace y3 := clq hbk y3; replace z0 := clq hbk z0; replace z1 := clq hbk z1; replace z2 := clq hbk z2; replace z3 := clq hbk z3
                  replace HRY := hiq (HRY.out.below hbk)
                  replace HNK := hiq (HNK.out.below rInt_ok hbk)
                  replace HNS := hiq (HNS.out.below rInt_ok hbk)
                  replace HRZ := hiq (HRZ.out.below hbk)
                  replace hb := hb.trans (hbk.mono hb.size)
                  clear hbk HQ
                  have HQ := hiq (HAW.out _ hb)
                  go_wp2_with fail
                  refine HQ.out.mono ?_
                  rintro e W64 ⟨rfl, hbk⟩
                  replace x0 := clq hbk x0; replace x1 := clq hbk x1; replace x2 := clq hbk x2; replace x3 := clq hbk x3; replace y0 := clq hbk y0; replace y1 := clq hbk y1; replace y2 := clq hbk y2; replace y3 := clq hbk y3; replace z0 := clq hbk z0; replace z1 := clq hbk z1; replace z2 := clq hbk z2; replace z3 := clq hbk z3
                  replace HRY := hiq (HRY.out.below hbk)
                  replace HNK := hiq (HNK.out.below rInt_ok hbk)
                  replace HNS := hiq (HNS.out.below rInt_ok hbk)
                  replace HRZ := hiq (HRZ.out.below hbk)
                  replace hb := hb.trans (hbk.mono hb.size)
                  clear hbk HQ
                  go_wp2
                  go_ret
                  exact ⟨rfl, hb⟩
          · have t1 : ((on : Int) != (un : Int)) = true := by simp; omega
            clear hn
            have HQ := hiq (HAW.out _ hb)
            go_wp2_with fail
            refine HQ.out.mono ?_
            rintro e W5 ⟨rfl, hbk⟩
            replace x0 := clq hbk x0; replace x1 := clq hbk x1; replace x2 := clq hbk x2; replace x3 := clq hbk x3
            replace hb := hb.trans (hbk.mono hb.size)
            clear hbk HQ
            go_wp2
            go_ret
            exact ⟨rfl, hb⟩
    · have t0 : ((XE : Int) != 0) = true := by simpa using e0
      clear e0
      have HQ := hiq (HAW.out _ hb)
      go_wp2_with fail
      refine HQ.out.mono ?_
      rintro e W4 ⟨rfl, hbk⟩
      replace x0 := clq hbk x0; replace x1 := clq hbk x1; replace x2 := clq hbk x2; replace x3 := clq hbk x3
      replace hb := hb.trans (hbk.mono hb.size)
      clear hbk HQ
      go_wp2
      go_ret
      exact ⟨rfl, hb⟩
end Go.Proofs.YtfdipkhbemgojaaGreatDoor
