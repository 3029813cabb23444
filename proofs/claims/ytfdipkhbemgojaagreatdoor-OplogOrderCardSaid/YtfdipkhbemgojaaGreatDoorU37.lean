/- Joined: OGre, OSlc. -/
import Derived.Test.YtfdipkhbemgojaaGreatDoorU33
import Derived.Test.YtfdipkhbemgojaaGreatDoorU13
set_option linter.unusedVariables false
set_option linter.unusedSimpArgs false
set_option maxRecDepth 100000
set_option maxHeartbeats 16000000
namespace Go.Proofs.YtfdipkhbemgojaaGreatDoor
open Go.RowKit

/-- What it says of operations that they are not too great. -/
def SmO (ops : List Op) (und : List Bool) : Prop := (∀ o ∈ ops, o.text.size <= 80 /\ o.sig.size <= 20) /\ ops.length <= 258 /\ und.length <= 258
/-- A bool, and what it says where it is b. -/
def BPost (b : Bool) (P : Prop) (w : World) (e : Ending) (w' : World) : Prop := ∃ g, e = .returned (.bool g) /\ Below w.heap.size w w' /\ (g = b -> P)
theorem bpost {b : Bool} {P : Prop} {w w' : World} {e : Ending} (g : Bool) (h1 : e = .returned (.bool g)) (h2 : Below w.heap.size w w') (h3 : g = b -> P) : BPost b P w e w' := ⟨g, h1, h2, h3⟩
theorem greatOps_ref (S : Nat -> Prop) (oa : Option Addr) (on oc : Nat) (ua : Option Addr) (un uc : Nat) (ops : List Op) (und : List Bool) (w : World) (ho : Opsq S w oa on oc ops) (hu : Flgs S w ua un uc und) :
    Calls Tryz.prog 40 #[.slice oa on oc, .slice ua un uc] w (BPost false (SmO ops und) w) := by
  have hob := ho.bound
  have hub := hu.bound
  have HLO := hiq ho.len
  have HLU := hiq hu.len
  have HO := hiq ho
  have HU := hiq hu
  clear ho hu
  go_enter Tryz.func40, Tryz.ntmps40
  go_wp2
  go_loop [5] (fun i => ∃ k : Nat, i = .int .i64 k /\ k <= on /\ Hid (∀ o ∈ ops.take k, o.text.size <= 80 /\ o.sig.size <= 20)) (fun i => on - (intOf i).toNat)
  case atStart => exact ⟨0, rfl, Nat.zero_le _, fun o ho => by simp at ho⟩
  case round =>
    obtain ⟨k, rfl, hk, hx⟩ := hrel
    by_cases hkl : k < on
    · obtain ⟨o, b, off, eo, -, ea, -, -, hoo, d0, d1, d2, d3, d4⟩ := HO.out.op hkl
      subst ea
      obtain ⟨ok, og, ot, oo, ox⟩ := o
      dsimp only at d0 d1 d2 d3 d4
      by_cases x1 : 80 < ox.size
      · clear eo
        go_wp2
        go_ret
        exact bpost true rfl (Below.refl _ _) (fun h => by cases h)
      · by_cases x2 : 20 < og.size
        · clear eo
          go_wp2
          go_ret
          exact bpost true rfl (Below.refl _ _) (fun h => by cases h)
        · have HN2 : Hid (∀ o ∈ ops.take (k + 1), o.text.size <= 80 /\ o.sig.size <= 20) := fun o ho => by
            rw [List.take_add_one, eo] at ho
            rcases List.mem_append.1 ho with q | q
            · exact hx.out o q
            · simp at q; subst q; exact ⟨by show ox.size <= 80; omega, by show og.size <= 20; omega⟩
          clear eo hx
          by_cases k8 : 8 <= k
          · by_cases ku : un <= k
            · go_wp2
              go_ret
              exact bpost true rfl (Below.refl _ _) (fun h => by cases h)
            · obtain ⟨u, bu, ofu, eu, -, rfl, -, -, du⟩ := HU.out.flg (j := k) (by omega)
              have kub : k < un := by omega
              clear eu
              cases u with
              | false =>
                go_wp2
                go_ret
                exact bpost true rfl (Below.refl _ _) (fun h => by cases h)
              | true =>
                go_wp2
                go_round
                case rel => exact ⟨k + 1, by go_num, by omega, HN2.out⟩
                case measure => simp [intOf]; omega
          · go_wp2
            go_round
            case rel => exact ⟨k + 1, by go_num, by omega, HN2.out⟩
            case measure => simp [intOf]; omega
    · have HA : Hid (∀ o ∈ ops, o.text.size <= 80 /\ o.sig.size <= 20) := fun o ho => hx.out o (by rw [List.take_of_length_le (by rw [<- HLO.out]; omega)]; exact ho)
      clear hx
      by_cases p1 : 8 < on
      · by_cases p2 : on < 256
        · go_wp2
          go_ret
          exact bpost true (ret_bool (by simp; try omega)) (Below.refl _ _) (fun h => by cases h)
        · by_cases p3 : 258 < on
          · go_wp2
            go_ret
            exact bpost true (ret_bool (by simp; try omega)) (Below.refl _ _) (fun h => by cases h)
          · by_cases p4 : 258 < un
            · go_wp2
              go_ret
              exact bpost true (ret_bool (by simp; try omega)) (Below.refl _ _) (fun h => by cases h)
            · go_wp2
              go_ret
              exact bpost false (ret_bool (by simp; try omega)) (Below.refl _ _) (fun _ => ⟨HA.out, by rw [<- HLO.out]; omega, by rw [<- HLU.out]; omega⟩)
      · by_cases p3 : 258 < on
        · omega
        · by_cases p4 : 258 < un
          · go_wp2
            go_ret
            exact bpost true (ret_bool (by simp; try omega)) (Below.refl _ _) (fun h => by cases h)
          · go_wp2
            go_ret
            exact bpost false (ret_bool (by simp; try omega)) (Below.refl _ _) (fun _ => ⟨HA.out, by rw [<- HLO.out]; omega, by rw [<- HLU.out]; omega⟩)
/-- What it says of a log that it is not too great. -/
def SmG (l : Lg) : Prop := great l.start = false /\ SmO l.ops l.und
theorem SmG.sml {l : Lg} (h : SmG l) : SmL l := ⟨great_sml h.1, fun o ho => by have := (h.2.1 o ho).1; omega⟩
theorem greatL_ref (S : Nat -> Prop) (v : LV) (l : Lg) (w : World) (h : RdL S w v l) : Calls Tryz.prog 12 #[v.val] w (BPost false (SmG l) w) := by
  have HG : Hid (∀ W, Below w.heap.size w W -> Calls Tryz.prog 38 #[v.c.val] W fun e w' => e = .returned (.bool (great l.start)) /\ Below W.heap.size W w') := fun W hb => great_ref S v.c l.start W (h.1.below hb)
  have HO : Hid (∀ W, Below w.heap.size w W -> Calls Tryz.prog 40 #[.slice v.oa v.on v.oc, .slice v.ua v.un v.uc] W (BPost false (SmO l.ops l.und) W)) := fun W hb => greatOps_ref S _ _ _ _ _ _ _ _ W (h.2.1.below rOpn_ok hb) (h.2.2.below rBool_ok hb)
  have HX : Hid (great l.start = false -> SmO l.ops l.und -> SmG l) := fun a b => ⟨a, b⟩
  generalize great l.start = G at *
  generalize SmO l.ops l.und = PO at *
  generalize SmG l = PG at *
  clear h
  obtain ⟨⟨sec, sa, sn, sc, ta, tn, tc, ca, cn, cc⟩, oa, on, oc, ua, un, uc⟩ := v
  change Calls _ _ #[.agg #[.string sec, .slice sa sn sc, .slice ta tn tc, .slice ca cn cc, .slice oa on oc, .slice ua un uc]] _ _
  change Hid (∀ W, _ -> Calls _ _ #[.agg #[.string sec, .slice sa sn sc, .slice ta tn tc, .slice ca cn cc]] _ _) at HG
  have hb0 : Below w.heap.size w (w.alloc (.cells #[.string sec, .slice sa sn sc, .slice ta tn tc, .slice ca cn cc, .slice oa on oc, .slice ua un uc] 30)) := (Below.refl _ _).alloc (Nat.le_refl _) _
  obtain ⟨c0, c1, c2, c3, c4, c5⟩ := box_cells6 (World.alloc_heap_new w (.cells #[.string sec, .slice sa sn sc, .slice ta tn tc, .slice ca cn cc, .slice oa on oc, .slice ua un uc] 30))
  have HGG := hiq (HG.out _ hb0)
  clear HG
  go_enter Tryz.func12, Tryz.ntmps12
  go_wp2_with fail
  generalize w.alloc (.cells #[.string sec, .slice sa sn sc, .slice ta tn tc, .slice ca cn cc, .slice oa on oc, .slice ua un uc] 30) = W1 at *
  refine HGG.out.mono ?_
  rintro e W2 ⟨rfl, hb2⟩
  have hb3 := hb0.trans (hb2.mono hb0.size)
  replace c0 := clq hb2 c0; replace c1 := clq hb2 c1; replace c2 := clq hb2 c2; replace c3 := clq hb2 c3; replace c4 := clq hb2 c4; replace c5 := clq hb2 c5
  clear HGG hb0 hb2
  cases G with
  | true =>
    go_wp2
    go_ret
    exact bpost true rfl hb3 (fun h => by cases h)
  | false =>
    have HOO := hiq (HO.out _ hb3)
    clear HO
    go_wp2_with (go_at_call 40; refine HOO.out.mono ?_; rintro e w' ⟨g, rfl, hb4, hg⟩)
    go_ret
    exact bpost g (by simp) (hb3.trans (hb4.mono hb3.size)) (fun h => HX.out (by simp) (hg h))
theorem fineL_any (S : Nat -> Prop) (v : LV) (l : Lg) (w : World) (h : RdL S w v l) (hE : Env w) : Calls Tryz.prog 24 #[v.val] w (BPost true (SmG l /\ l.ops.length <= 8 /\ l.err = 0) w) := by
  have HG : Hid (∀ W, Below w.heap.size w W -> Calls Tryz.prog 12 #[v.val] W (BPost false (SmG l) W)) := fun W hb => greatL_ref S v l W (h.below hb)
  have HK : Hid (SmG l -> ∀ W, Below w.heap.size w W -> Calls Tryz.prog 21 #[v.val] W fun e w' => e = .returned (.int .i64 l.err) /\ Below W.heap.size W w') := fun hm W hb => lck_ref S v l W (h.below hb) hm.sml (hE.below hb)
  have HLO : Hid (v.on = l.ops.length) := h.2.1.len
  have hob := h.2.1.bound
  generalize SmG l = PG at *
  generalize l.err = E at *
  clear h hE
  obtain ⟨⟨sec, sa, sn, sc, ta, tn, tc, ca, cn, cc⟩, oa, on, oc, ua, un, uc⟩ := v
  change Calls _ _ #[.agg #[.string sec, .slice sa sn sc, .slice ta tn tc, .slice ca cn cc, .slice oa on oc, .slice ua un uc]] _ _
  change Hid (∀ W, _ -> Calls _ _ #[.agg #[.string sec, .slice sa sn sc, .slice ta tn tc, .slice ca cn cc, .slice oa on oc, .slice ua un uc]] _ _) at HG
  change Hid (_ -> ∀ W, _ -> Calls _ _ #[.agg #[.string sec, .slice sa sn sc, .slice ta tn tc, .slice ca cn cc, .slice oa on oc, .slice ua un uc]] _ _) at HK
  dsimp only at HLO hob
  have hb0 : Below w.heap.size w (w.alloc (.cells #[.string sec, .slice sa sn sc, .slice ta tn tc, .slice ca cn cc, .slice oa on oc, .slice ua un uc] 30)) := (Below.refl _ _).alloc (Nat.le_refl _) _
  obtain ⟨c0, c1, c2, c3, c4, c5⟩ := box_cells6 (World.alloc_heap_new w (.cells #[.string sec, .slice sa sn sc, .slice ta tn tc, .slice ca cn cc, .slice oa on oc, .slice ua un uc] 30))
  have HGG := hiq (HG.out _ hb0)
  clear HG
  go_enter Tryz.func24, Tryz.ntmps24
  go_wp2_with fail
  generalize w.alloc (.cells #[.string sec, .slice sa sn sc, .slice ta tn tc, .slice ca cn cc, .slice oa on oc, .slice ua un uc] 30) = W1 at *
  refine HGG.out.mono ?_
  rintro e W2 ⟨g, rfl, hb2, hg⟩
  have hb3 := hb0.trans (hb2.mono hb0.size)
  replace c0 := clq hb2 c0; replace c1 := clq hb2 c1; replace c2 := clq hb2 c2; replace c3 := clq hb2 c3; replace c4 := clq hb2 c4; replace c5 := clq hb2 c5
  clear HGG hb0 hb2
  cases g with
  | true =>
    go_wp2
    go_ret
    exact bpost false rfl hb3 (fun h => by cases h)
  | false =>
    have hp := hiq (hg rfl)
    clear hg
    by_cases h8 : on <= 8
    · have HKK := hiq (HK.out hp.out _ hb3)
      clear HK
      go_wp2_with fail
      refine HKK.out.mono ?_
      rintro e W3 ⟨rfl, hb4⟩
      have hb5 := hb3.trans (hb4.mono hb3.size)
      clear HKK hb4 c0 c1 c2 c3 c4 c5
      by_cases e0 : E = 0
      · have t0 : ((E : Int) == 0) = true := by simp [e0]
        have HE0 := hiq e0
        clear e0
        go_wp2
        go_ret
        exact bpost true rfl hb5 (fun _ => ⟨hp.out, by rw [<- HLO.out]; exact h8, HE0.out⟩)
      · have t0 : ((E : Int) == 0) = false := by simpa using e0
        clear e0
        go_wp2
        go_ret
        exact bpost false rfl hb5 (fun h => by cases h)
    · go_wp2
      go_ret
      exact bpost false rfl hb3 (fun h => by cases h)
end Go.Proofs.YtfdipkhbemgojaaGreatDoor
namespace Go.Proofs.YtfdipkhbemgojaaGreatDoor
open Go.RowKit

theorem index_flgs (S : Nat -> Prop) (a : Option Addr) (n c : Nat) (l : List Bool) (w : World) (h : Flgs S w a n c l) :
    Calls Tryz.prog 66 #[.slice a n c, .bool true] w fun e w' => ∃ i : Int, e = .returned (.int .i64 i) /\ decide (0 <= i) = l.any id /\ w = w' := by
  have hL := h.bound
  have hE0 : Hid (l.any id = (l.drop 0).any id) := rfl
  have HN := hiq h.len
  generalize l.any id = R at *
  go_enter Tryz.func66, Tryz.ntmps66
  go_wp2
  go_loop [8] (fun i => ∃ (j : Nat), i = .int .i64 j /\ j <= n /\ Hid (R = (l.drop j).any id)) (fun i => n - (intOf i).toNat)
  case atStart => exact ⟨0, rfl, Nat.zero_le _, hE0.out⟩
  case round =>
    obtain ⟨j, rfl, hj, hx⟩ := hrel
    by_cases hlj : j < n
    · obtain ⟨u, bb, off, hu, -, rfl, -, -, du⟩ := h.flg hlj
      have hst := hx.out
      rw [any_drop hu] at hst
      have HST := hiq hst
      clear hst hx hu
      cases u with
      | true =>
        have HST2 : Hid (R = true) := by show _ = _; rw [HST.out]; rfl
        clear HST
        go_wp2
        go_ret
        exact ⟨j, by first | rfl | go_num, by rw [HST2.out]; simp, rfl⟩
      | false =>
        have HST2 : Hid (R = (l.drop (j + 1)).any id) := by show _ = _; rw [HST.out]; rfl
        clear HST
        go_wp2
        go_round
        case rel => exact ⟨j + 1, by go_num, by omega, HST2.out⟩
        case measure => simp [intOf]; omega
    · obtain rfl : j = n := by omega
      have HST2 : Hid (R = false) := by show _ = _; rw [hx.out, List.drop_of_length_le (by rw [<- HN.out]; exact Nat.le_refl _)]; rfl
      go_wp2
      go_ret
      exact ⟨-1, rfl, by rw [HST2.out]; rfl, rfl⟩
theorem contains_flgs (S : Nat -> Prop) (a : Option Addr) (n c : Nat) (l : List Bool) (w : World) (h : Flgs S w a n c l) :
    Calls Tryz.prog 30 #[.slice a n c, .bool true] w fun e w' => e = .returned (.bool (l.any id)) /\ Below w.heap.size w w' := by
  have F := hiq (index_flgs S a n c l w h)
  generalize l.any id = R at *
  clear h
  go_enter Tryz.func30, Tryz.ntmps30
  go_wp2_with (go_at_call 66; refine F.out.mono ?_; rintro e w' ⟨i, rfl, hi, rfl⟩)
  go_ret
  exact ⟨by rw [<- hi]; simp, Below.refl _ _⟩
end Go.Proofs.YtfdipkhbemgojaaGreatDoor
