/- Joined: EKn2. -/
import Derived.Test.YtbdgmgddliploaaGreatDoorJ12
import Derived.Test.YtbdgmgddliploaaGreatDoorJ13
set_option linter.unusedVariables false
set_option linter.unusedSimpArgs false
set_option maxRecDepth 100000
set_option maxHeartbeats 16000000
namespace Go.Proofs.YtbdgmgddliploaaGreatDoor
open Go.RowKit

/-- The other column of an operation's place. -/
def Op.oth (o : Op) (c : Nat) : Int := if o.kind = 3 /\ o.other = -1 then (c : Int) - 1 else (c : Int) + 1
def FindPost (x : Col) (o : Op) (w : World) (e : Ending) (w' : World) : Prop :=
  ∃ s c p : Int, e = .returned (.tuple #[.agg #[.int .i64 s, .int .i64 c, .int .i64 p], .int .i64 (opErr x o)]) /\ (opErr x o = 0 -> ∃ s' c' : Nat, x.place o = some (s', c') /\ s = s' /\ c = c' /\ p = o.oth c') /\ Below w.heap.size w w'
theorem opErr_1 {x : Col} {o : Op} (h : x.err ≠ 0) : opErr x o = 1 := by unfold opErr; rw [if_pos h]
theorem opErr_8 {x : Col} {o : Op} (h : x.err = 0) (hk : o.kind < 1 \/ 4 < o.kind) : opErr x o = 8 := by unfold opErr; rw [if_neg (by simp [h]), if_pos hk]
theorem opErr_a {x : Col} {o : Op} (h : x.err = 0) (hk : ¬ (o.kind < 1 \/ 4 < o.kind)) (ha : (o.other ≠ 0 /\ o.kind ≠ 3) \/ (o.text.size ≠ 0 /\ o.kind ≠ 4)) : opErr x o = 1 := by
  unfold opErr; rw [if_neg (by simp [h]), if_neg hk, if_pos ha]
theorem opErr_n {x : Col} {o : Op} (h : x.err = 0) (hk : ¬ (o.kind < 1 \/ 4 < o.kind)) (ha : ¬ ((o.other ≠ 0 /\ o.kind ≠ 3) \/ (o.text.size ≠ 0 /\ o.kind ≠ 4))) (hp : x.place o = none) : opErr x o = 6 := by
  unfold opErr; rw [if_neg (by simp [h]), if_neg hk, if_neg ha, hp]
theorem opErr_k {x : Col} {o : Op} {s c : Nat} (h : x.err = 0) (hk : ¬ (o.kind < 1 \/ 4 < o.kind)) (ha : ¬ ((o.other ≠ 0 /\ o.kind ≠ 3) \/ (o.text.size ≠ 0 /\ o.kind ≠ 4))) (hp : x.place o = some (s, c)) : opErr x o = kindErr x o s c := by
  unfold opErr; rw [if_neg (by simp [h]), if_neg hk, if_neg ha, hp]
theorem find_early (S : Nat -> Prop) (v : CV) (x : Col) (o : Op) (w : World) (h : RdC S w v x) (hm : Sml x) (hE : Env w)
    (hq : x.err ≠ 0 \/ (o.kind < 1 \/ 4 < o.kind) \/ ((o.other ≠ 0 /\ o.kind ≠ 3) \/ (o.text.size ≠ 0 /\ o.kind ≠ 4))) :
    Calls Tryz.prog 40 #[v.val, o.val] w (FindPost x o w) := by
  obtain ⟨E, hE0⟩ : ∃ E, E = opErr x o := ⟨_, rfl⟩
  have HQ : Hid ((x.err ≠ 0 /\ E = 1) \/ (x.err = 0 /\ (o.kind < 1 \/ 4 < o.kind) /\ E = 8) \/ (x.err = 0 /\ ¬ (o.kind < 1 \/ 4 < o.kind) /\ ((o.other ≠ 0 /\ o.kind ≠ 3) \/ (o.text.size ≠ 0 /\ o.kind ≠ 4)) /\ E = 1)) := by
    show _ \/ _ \/ _
    by_cases h1 : x.err = 0
    · by_cases h2 : o.kind < 1 \/ 4 < o.kind
      · exact .inr (.inl ⟨h1, h2, hE0.trans (opErr_8 h1 h2)⟩)
      · have h3 := (hq.resolve_left (by simp [h1])).resolve_left h2
        exact .inr (.inr ⟨h1, h2, h3, hE0.trans (opErr_a h1 h2 h3)⟩)
    · exact .inl ⟨h1, hE0.trans (opErr_1 h1)⟩
  have hne : E ≠ 0 := by rcases HQ.out with ⟨_, h⟩ | ⟨_, _, h⟩ | ⟨_, _, _, h⟩ <;> omega
  suffices Calls Tryz.prog 40 #[v.val, o.val] w (fun e w' => e = .returned (.tuple #[.agg #[.int .i64 0, .int .i64 0, .int .i64 0], .int .i64 E]) /\ Below w.heap.size w w') by
    refine this.mono ?_
    rintro e w' ⟨rfl, hb⟩
    exact ⟨0, 0, 0, by rw [hE0], fun h0 => absurd (hE0.trans h0) hne, hb⟩
  clear hE0 hne hq
  obtain ⟨sec, sa, sn, sc, ta, tn, tc, ca, cn, cc⟩ := v
  obtain ⟨ok, og, ot, oo, ox⟩ := o
  change Calls _ _ #[.agg #[.string sec, .slice sa sn sc, .slice ta tn tc, .slice ca cn cc], .agg #[.int .i64 ok, .string og, .int .i64 ot, .int .i64 oo, .string ox]] _ _
  obtain ⟨hb0, hsz, hC, hO, hP⟩ := box3 w #[.string sec, .slice sa sn sc, .slice ta tn tc, .slice ca cn cc] #[.int .i64 ok, .string og, .int .i64 ot, .int .i64 oo, .string ox] #[.int .i64 0, .int .i64 0, .int .i64 0] 26 28 66
  have HF : Hid (Calls Tryz.prog 26 #[.agg #[.string sec, .slice sa sn sc, .slice ta tn tc, .slice ca cn cc]] (((w.alloc (.cells #[.string sec, .slice sa sn sc, .slice ta tn tc, .slice ca cn cc] 26)).alloc (.cells #[.int .i64 ok, .string og, .int .i64 ot, .int .i64 oo, .string ox] 28)).alloc (.cells #[.int .i64 0, .int .i64 0, .int .i64 0] 66)) fun e w' => e = .returned (.int .i64 x.err) /\ Below (((w.alloc (.cells #[.string sec, .slice sa sn sc, .slice ta tn tc, .slice ca cn cc] 26)).alloc (.cells #[.int .i64 ok, .string og, .int .i64 ot, .int .i64 oo, .string ox] 28)).alloc (.cells #[.int .i64 0, .int .i64 0, .int .i64 0] 66)).heap.size (((w.alloc (.cells #[.string sec, .slice sa sn sc, .slice ta tn tc, .slice ca cn cc] 26)).alloc (.cells #[.int .i64 ok, .string og, .int .i64 ot, .int .i64 oo, .string ox] 28)).alloc (.cells #[.int .i64 0, .int .i64 0, .int .i64 0] 66)) w') := by
    have := check_any S _ x _ (h.below hb0) hm (hE.below hb0)
    exact this
  have hbx : (((w.alloc (.cells #[.string sec, .slice sa sn sc, .slice ta tn tc, .slice ca cn cc] 26)).alloc (.cells #[.int .i64 ok, .string og, .int .i64 ot, .int .i64 oo, .string ox] 28)).alloc (.cells #[.int .i64 0, .int .i64 0, .int .i64 0] 66)).heap[w.heap.size + 1 + 1]? = some (.cells #[.int .i64 0, .int .i64 0, .int .i64 0] 66 (0, 0)) := by
    have := World.alloc_heap_new ((w.alloc (.cells #[.string sec, .slice sa sn sc, .slice ta tn tc, .slice ca cn cc] 26)).alloc (.cells #[.int .i64 ok, .string og, .int .i64 ot, .int .i64 oo, .string ox] 28)) (.cells #[.int .i64 0, .int .i64 0, .int .i64 0] 66)
    simpa using this
  have hsb : w.heap.size + 1 + 1 < (((w.alloc (.cells #[.string sec, .slice sa sn sc, .slice ta tn tc, .slice ca cn cc] 26)).alloc (.cells #[.int .i64 ok, .string og, .int .i64 ot, .int .i64 oo, .string ox] 28)).alloc (.cells #[.int .i64 0, .int .i64 0, .int .i64 0] 66)).heap.size := by simp
  have c0 := hC 0 _ rfl
  have c1 := hC 1 _ rfl
  have c2 := hC 2 _ rfl
  have c3 := hC 3 _ rfl
  have o0 := hO 0 _ rfl
  have o3 := hO 3 _ rfl
  have o4 := hO 4 _ rfl
  generalize x.err = XE at *
  clear hC hO hP h hm hE
  go_enter Tryz.func40, Tryz.ntmps40
  go_wp2_with fail
  generalize ((w.alloc (.cells #[.string sec, .slice sa sn sc, .slice ta tn tc, .slice ca cn cc] 26)).alloc (.cells #[.int .i64 ok, .string og, .int .i64 ot, .int .i64 oo, .string ox] 28)).alloc (.cells #[.int .i64 0, .int .i64 0, .int .i64 0] 66) = W1 at *
  refine HF.out.mono ?_
  rintro e W2 ⟨rfl, hb2⟩
  have hb3 := hb0.trans (hb2.mono hb0.size)
  replace o0 := clq hb2 o0; replace o3 := clq hb2 o3; replace o4 := clq hb2 o4
  have hz2 := (hb2.block _ hsb).trans hbx
  obtain ⟨z0, z1, z2, zf⟩ := box_cells3 hz2
  have zf0 := zf 0
  have zf1 := zf 1
  have zf2 := zf 2
  clear HF hb2 hb0 c0 c1 c2 c3 hsz hbx hsb zf
  obtain ⟨r0, r1, r2, -⟩ := box_cells3 (put3_at hz2 (.int .i64 0) (.int .i64 0) (.int .i64 0))
  have HRR := hiq (And.intro r0 (And.intro r1 r2))
  have HB : Hid (Below w.heap.size w (put3 W2 (w.heap.size + 1 + 1) (.int .i64 0) (.int .i64 0) (.int .i64 0))) := put3_below hb3 (by omega) _ _ _
  clear r0 r1 r2 hz2 hb3
  rcases HQ.out with ⟨h1, hr⟩ | ⟨h1, h2, hr⟩ | ⟨h1, h2, h3, hr⟩
  · have t0 : ((XE : Int) != 0) = true := by simp [h1]
    have HR := hiq hr
    clear hr h1 HQ
    go_wp2
    exact bodyPost_ret (v := .tuple #[.agg #[.int .i64 0, .int .i64 0, .int .i64 0], .int .i64 E]) (by obtain ⟨r0, r1, r2⟩ := HRR.out; simp [results, Tryz.results40, go_sem, r0, r1, r2, HR.out]) rfl ⟨rfl, HB.out⟩
  · have HR := hiq hr
    have HH := hiq h2
    clear hr HQ h2
    subst h1
    rcases HH.out with t1 | t1
    · go_wp2
      exact bodyPost_ret (v := .tuple #[.agg #[.int .i64 0, .int .i64 0, .int .i64 0], .int .i64 E]) (by obtain ⟨r0, r1, r2⟩ := HRR.out; simp [results, Tryz.results40, go_sem, r0, r1, r2, HR.out]) rfl ⟨rfl, HB.out⟩
    · have t2 : 1 <= ok := by omega
      go_wp2
      exact bodyPost_ret (v := .tuple #[.agg #[.int .i64 0, .int .i64 0, .int .i64 0], .int .i64 E]) (by obtain ⟨r0, r1, r2⟩ := HRR.out; simp [results, Tryz.results40, go_sem, r0, r1, r2, HR.out]) rfl ⟨rfl, HB.out⟩
  · have HR := hiq hr
    have t1 : 1 <= ok := by omega
    have t2 : ok <= 4 := by omega
    have hway : (((oo : Int) != 0) = true /\ ((ok : Int) != 3) = true) \/ (((oo : Int) != 0) = false /\ ox.toList.isEmpty = false /\ ((ok : Int) != 4) = true) \/ (((oo : Int) != 0) = true /\ ((ok : Int) != 3) = false /\ ox.toList.isEmpty = false /\ ((ok : Int) != 4) = true) := by
      by_cases a1 : oo = 0
      · rcases h3 with ⟨q, _⟩ | ⟨q1, q2⟩
        · exact absurd a1 q
        · exact .inr (.inl ⟨by simp [a1], isEmpty_no q1, by simpa using q2⟩)
      · by_cases a2 : ok = 3
        · rcases h3 with ⟨_, q⟩ | ⟨q1, q2⟩
          · exact absurd a2 q
          · exact .inr (.inr ⟨by simpa using a1, by simp [a2], isEmpty_no q1, by simpa using q2⟩)
        · exact .inl ⟨by simpa using a1, by simpa using a2⟩
    clear hr HQ h2 h3
    subst h1
    rcases hway with ⟨w1, w2⟩ | ⟨w1, w2, w3⟩ | ⟨w1, w2, w3, w4⟩
    all_goals
      go_wp2
      exact bodyPost_ret (v := .tuple #[.agg #[.int .i64 0, .int .i64 0, .int .i64 0], .int .i64 E]) (by obtain ⟨r0, r1, r2⟩ := HRR.out; simp [results, Tryz.results40, go_sem, r0, r1, r2, HR.out]) rfl ⟨rfl, HB.out⟩
end Go.Proofs.YtbdgmgddliploaaGreatDoor

/- editop.find: the ways behind the first checks. -/
namespace Go.Proofs.YtbdgmgddliploaaGreatDoor
open Go.RowKit

/-- The three ways behind the first checks. -/
theorem find_ways {x : Col} {o : Op} (hv : x.err = 0) (hk : ¬ (o.kind < 1 \/ 4 < o.kind)) (ha : ¬ ((o.other ≠ 0 /\ o.kind ≠ 3) \/ (o.text.size ≠ 0 /\ o.kind ≠ 4))) :
    (x.src o.sig = none /\ opErr x o = 6) \/ (∃ s, x.src o.sig = some s /\ s < x.sigla.length /\ findE x s o.tok = 2 /\ opErr x o = 6) \/
    ∃ s c, x.src o.sig = some s /\ s < x.sigla.length /\ 0 <= o.tok /\ o.tok < ((x.tks s).length : Int) /\ c < x.cols.length /\ findE x s o.tok = 0 /\ findN x s o.tok = (c : Int) /\ x.place o = some (s, c) /\ opErr x o = kindErr x o s c := by
  cases hs : x.src o.sig with
  | none => exact .inl ⟨rfl, opErr_n hv hk ha (by unfold Col.place; rw [hs]; rfl)⟩
  | some s =>
    obtain ⟨_, s1, _⟩ := firstFrom_some.1 hs
    by_cases ht : o.tok < 0 \/ ((x.tks s).length : Int) <= o.tok
    · exact .inr (.inl ⟨s, rfl, s1, by unfold findE; rw [if_pos ht], opErr_n hv hk ha (by unfold Col.place; rw [hs, Option.bind_some, if_pos ht])⟩)
    · obtain ⟨c, hc⟩ := at_exists hv (t := o.tok) s1 (by omega) (by omega)
      have hp : x.place o = some (s, c) := place_some.2 ⟨hs, by omega, by omega, hc⟩
      exact .inr (.inr ⟨s, c, rfl, s1, by omega, by omega, (at_some hc).1, by unfold findE; rw [if_neg ht], by unfold findN; rw [if_neg ht, hc]; rfl, hp, opErr_k hv hk ha hp⟩)
end Go.Proofs.YtbdgmgddliploaaGreatDoor

/- What stands in the table of kinds. -/
namespace Go.Proofs.YtbdgmgddliploaaGreatDoor
open Go.RowKit

theorem kind_1 (W : World) : (Instr.index 82 (.agg #[.string ⟨#[]⟩, .nilFunc, .nilFunc, .string ⟨#[106, 111, 105, 110]⟩, .func (.func 73) #[] #[], .func (.func 74) #[] #[], .string ⟨#[115, 112, 108, 105, 116]⟩, .func (.func 75) #[] #[], .func (.func 76) #[] #[], .string ⟨#[115, 104, 105, 102, 116]⟩, .func (.func 77) #[] #[], .func (.func 78) #[] #[], .string ⟨#[114, 101, 103, 117, 108, 97, 114, 105, 122, 101]⟩, .func (.func 79) #[] #[], .func (.func 80) #[] #[]]) (.int .i64 1)).run Tryz.prog W = .ok (.agg #[.string ⟨#[106, 111, 105, 110]⟩, .func (.func 73) #[] #[], .func (.func 74) #[] #[]]) W := by kernel_rfl
theorem kind_2 (W : World) : (Instr.index 82 (.agg #[.string ⟨#[]⟩, .nilFunc, .nilFunc, .string ⟨#[106, 111, 105, 110]⟩, .func (.func 73) #[] #[], .func (.func 74) #[] #[], .string ⟨#[115, 112, 108, 105, 116]⟩, .func (.func 75) #[] #[], .func (.func 76) #[] #[], .string ⟨#[115, 104, 105, 102, 116]⟩, .func (.func 77) #[] #[], .func (.func 78) #[] #[], .string ⟨#[114, 101, 103, 117, 108, 97, 114, 105, 122, 101]⟩, .func (.func 79) #[] #[], .func (.func 80) #[] #[]]) (.int .i64 2)).run Tryz.prog W = .ok (.agg #[.string ⟨#[115, 112, 108, 105, 116]⟩, .func (.func 75) #[] #[], .func (.func 76) #[] #[]]) W := by kernel_rfl
theorem kind_3 (W : World) : (Instr.index 82 (.agg #[.string ⟨#[]⟩, .nilFunc, .nilFunc, .string ⟨#[106, 111, 105, 110]⟩, .func (.func 73) #[] #[], .func (.func 74) #[] #[], .string ⟨#[115, 112, 108, 105, 116]⟩, .func (.func 75) #[] #[], .func (.func 76) #[] #[], .string ⟨#[115, 104, 105, 102, 116]⟩, .func (.func 77) #[] #[], .func (.func 78) #[] #[], .string ⟨#[114, 101, 103, 117, 108, 97, 114, 105, 122, 101]⟩, .func (.func 79) #[] #[], .func (.func 80) #[] #[]]) (.int .i64 3)).run Tryz.prog W = .ok (.agg #[.string ⟨#[115, 104, 105, 102, 116]⟩, .func (.func 77) #[] #[], .func (.func 78) #[] #[]]) W := by kernel_rfl
theorem kind_4 (W : World) : (Instr.index 82 (.agg #[.string ⟨#[]⟩, .nilFunc, .nilFunc, .string ⟨#[106, 111, 105, 110]⟩, .func (.func 73) #[] #[], .func (.func 74) #[] #[], .string ⟨#[115, 112, 108, 105, 116]⟩, .func (.func 75) #[] #[], .func (.func 76) #[] #[], .string ⟨#[115, 104, 105, 102, 116]⟩, .func (.func 77) #[] #[], .func (.func 78) #[] #[], .string ⟨#[114, 101, 103, 117, 108, 97, 114, 105, 122, 101]⟩, .func (.func 79) #[] #[], .func (.func 80) #[] #[]]) (.int .i64 4)).run Tryz.prog W = .ok (.agg #[.string ⟨#[114, 101, 103, 117, 108, 97, 114, 105, 122, 101]⟩, .func (.func 79) #[] #[], .func (.func 80) #[] #[]]) W := by kernel_rfl
theorem kindW_1 (W : World) : (Instr.field 81 (.agg #[.string ⟨#[106, 111, 105, 110]⟩, .func (.func 73) #[] #[], .func (.func 74) #[] #[]]) 0).run Tryz.prog W = .ok (.string ⟨#[106, 111, 105, 110]⟩) W := by kernel_rfl
theorem kindC_1 (W : World) : (Instr.field 81 (.agg #[.string ⟨#[106, 111, 105, 110]⟩, .func (.func 73) #[] #[], .func (.func 74) #[] #[]]) 1).run Tryz.prog W = .ok (.func (.func 73) #[] #[]) W := by kernel_rfl
theorem kindA_1 (W : World) : (Instr.field 81 (.agg #[.string ⟨#[106, 111, 105, 110]⟩, .func (.func 73) #[] #[], .func (.func 74) #[] #[]]) 2).run Tryz.prog W = .ok (.func (.func 74) #[] #[]) W := by kernel_rfl
theorem kindW_2 (W : World) : (Instr.field 81 (.agg #[.string ⟨#[115, 112, 108, 105, 116]⟩, .func (.func 75) #[] #[], .func (.func 76) #[] #[]]) 0).run Tryz.prog W = .ok (.string ⟨#[115, 112, 108, 105, 116]⟩) W := by kernel_rfl
theorem kindC_2 (W : World) : (Instr.field 81 (.agg #[.string ⟨#[115, 112, 108, 105, 116]⟩, .func (.func 75) #[] #[], .func (.func 76) #[] #[]]) 1).run Tryz.prog W = .ok (.func (.func 75) #[] #[]) W := by kernel_rfl
theorem kindA_2 (W : World) : (Instr.field 81 (.agg #[.string ⟨#[115, 112, 108, 105, 116]⟩, .func (.func 75) #[] #[], .func (.func 76) #[] #[]]) 2).run Tryz.prog W = .ok (.func (.func 76) #[] #[]) W := by kernel_rfl
theorem kindW_3 (W : World) : (Instr.field 81 (.agg #[.string ⟨#[115, 104, 105, 102, 116]⟩, .func (.func 77) #[] #[], .func (.func 78) #[] #[]]) 0).run Tryz.prog W = .ok (.string ⟨#[115, 104, 105, 102, 116]⟩) W := by kernel_rfl
theorem kindC_3 (W : World) : (Instr.field 81 (.agg #[.string ⟨#[115, 104, 105, 102, 116]⟩, .func (.func 77) #[] #[], .func (.func 78) #[] #[]]) 1).run Tryz.prog W = .ok (.func (.func 77) #[] #[]) W := by kernel_rfl
theorem kindA_3 (W : World) : (Instr.field 81 (.agg #[.string ⟨#[115, 104, 105, 102, 116]⟩, .func (.func 77) #[] #[], .func (.func 78) #[] #[]]) 2).run Tryz.prog W = .ok (.func (.func 78) #[] #[]) W := by kernel_rfl
theorem kindW_4 (W : World) : (Instr.field 81 (.agg #[.string ⟨#[114, 101, 103, 117, 108, 97, 114, 105, 122, 101]⟩, .func (.func 79) #[] #[], .func (.func 80) #[] #[]]) 0).run Tryz.prog W = .ok (.string ⟨#[114, 101, 103, 117, 108, 97, 114, 105, 122, 101]⟩) W := by kernel_rfl
theorem kindC_4 (W : World) : (Instr.field 81 (.agg #[.string ⟨#[114, 101, 103, 117, 108, 97, 114, 105, 122, 101]⟩, .func (.func 79) #[] #[], .func (.func 80) #[] #[]]) 1).run Tryz.prog W = .ok (.func (.func 79) #[] #[]) W := by kernel_rfl
theorem kindA_4 (W : World) : (Instr.field 81 (.agg #[.string ⟨#[114, 101, 103, 117, 108, 97, 114, 105, 122, 101]⟩, .func (.func 79) #[] #[], .func (.func 80) #[] #[]]) 2).run Tryz.prog W = .ok (.func (.func 80) #[] #[]) W := by kernel_rfl
end Go.Proofs.YtbdgmgddliploaaGreatDoor
