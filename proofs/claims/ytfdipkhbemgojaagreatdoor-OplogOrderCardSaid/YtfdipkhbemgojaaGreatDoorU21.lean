/- Joined: EEdi, ESml, OPln, OPll, OLv. -/
import Derived.Test.YtfdipkhbemgojaaGreatDoorU20
import Derived.Test.YtfdipkhbemgojaaGreatDoorU13
set_option linter.unusedVariables false
set_option linter.unusedSimpArgs false
set_option maxRecDepth 100000
set_option maxHeartbeats 16000000
namespace Go.Proofs.YtfdipkhbemgojaaGreatDoor
open Go.RowKit

theorem apply_any (S : Nat -> Prop) (v : CV) (x : Col) (o : Op) (s c : Nat) (w : World) (h : RdC S w v x) (F : Fits x o s c) (ho : o.ok) :
    Calls Tryz.prog 62 #[v.val, o.val, .agg #[.int .i64 (s : Int), .int .i64 (c : Int), .int .i64 (o.oth c)]] w (ApplyPost S x o s c w) := by
  have h4 : o.kind = 1 \/ o.kind = 2 \/ o.kind = 3 \/ o.kind = 4 := by have := F.kind; omega
  rcases h4 with k | k | k | k
  · exact apply_1 S v x o s c w h F k
  · exact apply_2 S v x o s c w h F k
  · exact apply_3 S v x o s c w h F k
  · exact apply_4 S v x o s c w h F k ho
theorem echeck_any (S : Nat -> Prop) (v : CV) (x : Col) (o : Op) (w : World) (h : RdC S w v x) (hm : Sml x) (hE : Env w) (ho : o.ok) (hx : o.text.size <= 1000000) :
    Calls Tryz.prog 25 #[v.val, o.val] w fun e w' => e = .returned (.int .i64 (opErr x o)) /\ Below w.heap.size w w' := by
  have HF : Hid (∀ W, Below w.heap.size w W -> Calls Tryz.prog 61 #[v.val, o.val] W (FindPost x o W)) := fun W hb => efind_any S v x o W (h.below hb) hm (hE.below hb) ho hx
  unfold FindPost at HF
  generalize opErr x o = E at *
  generalize x.place o = PL at *
  generalize Op.oth o = TH at *
  clear h hm hE ho hx
  obtain ⟨sec, sa, sn, sc, ta, tn, tc, ca, cn, cc⟩ := v
  obtain ⟨ok, og, ot, oo, ox⟩ := o
  change Calls _ _ #[.agg #[.string sec, .slice sa sn sc, .slice ta tn tc, .slice ca cn cc], .agg #[.int .i64 ok, .string og, .int .i64 ot, .int .i64 oo, .string ox]] _ _
  change Hid (∀ W, _ -> Calls _ _ #[.agg #[.string sec, .slice sa sn sc, .slice ta tn tc, .slice ca cn cc], .agg #[.int .i64 ok, .string og, .int .i64 ot, .int .i64 oo, .string ox]] _ _) at HF
  have hb0 : Below w.heap.size w ((w.alloc (.cells #[.string sec, .slice sa sn sc, .slice ta tn tc, .slice ca cn cc] 26)).alloc (.cells #[.int .i64 ok, .string og, .int .i64 ot, .int .i64 oo, .string ox] 32)) := ((Below.refl _ _).alloc (Nat.le_refl _) _).alloc (by simp) _
  have HFF := hiq (HF.out _ hb0)
  go_enter Tryz.func25, Tryz.ntmps25
  go_wp2_with fail
  generalize (w.alloc (.cells #[.string sec, .slice sa sn sc, .slice ta tn tc, .slice ca cn cc] 26)).alloc (.cells #[.int .i64 ok, .string og, .int .i64 ot, .int .i64 oo, .string ox] 32) = W1 at *
  refine HFF.out.mono ?_
  rintro e W2 ⟨p, q, r, rfl, -, hb2⟩
  have hb3 := hb0.trans (hb2.mono hb0.size)
  have hb4 : Below w.heap.size w (W2.alloc (.cells #[.int .i64 p, .int .i64 q, .int .i64 r] 79)) := hb3.alloc hb3.size _
  go_wp2
  go_ret
  exact ⟨rfl, hb4⟩
theorem RdC.none (S : Nat -> Prop) (w : World) : RdC S w ⟨⟨#[]⟩, Option.none, 0, 0, Option.none, 0, 0, Option.none, 0, 0⟩ Col.none :=
  ⟨rfl, by show 0 <= _; omega, Sq.nil _ _ _ _ _, Sq.nil _ _ _ _ _, Sq.nil _ _ _ _ _⟩
theorem opApply_none {x : Col} {o : Op} (h : opErr x o ≠ 0) : opApply x o = Col.none := by unfold opApply; rw [if_neg h]
def EditPost (S : Nat -> Prop) (x : Col) (o : Op) (w : World) (e : Ending) (w' : World) : Prop :=
  ∃ v' : CV, e = .returned (.tuple #[v'.val, .int .i64 (opErr x o)]) /\ RdC (fun b => S b \/ w.heap.size <= b) w' v' (opApply x o) /\ Below w.heap.size w w'
theorem edit_any (S : Nat -> Prop) (v : CV) (x : Col) (o : Op) (w : World) (h : RdC S w v x) (hm : Sml x) (hE : Env w) (ho : o.ok) (hx : o.text.size <= 1000000) :
    Calls Tryz.prog 26 #[v.val, o.val] w (EditPost S x o w) := by
  have HF : Hid (∀ W, Below w.heap.size w W -> Calls Tryz.prog 61 #[v.val, o.val] W (FindPost x o W)) := fun W hb => efind_any S v x o W (h.below hb) hm (hE.below hb) ho hx
  have HA : Hid (∀ W, Below w.heap.size w W -> opErr x o = 0 -> ∀ s c, x.place o = some (s, c) -> Calls Tryz.prog 62 #[v.val, o.val, .agg #[.int .i64 (s : Int), .int .i64 (c : Int), .int .i64 (o.oth c)]] W fun e w' => ∃ v' : CV, e = .returned v'.val /\ RdC (fun b => (S b /\ b < w.heap.size) \/ W.heap.size <= b) w' v' (opApply x o) /\ Below W.heap.size W w') := fun W hb h0 s c hp => by
    obtain ⟨s', c', F⟩ := fits_of h0
    have e := F.place
    rw [hp] at e
    simp only [Option.some.injEq, Prod.mk.injEq] at e
    obtain ⟨rfl, rfl⟩ := e
    rw [F.apply]
    exact apply_any _ v x o s c W ((h.mono (fun b h1 h2 => ⟨h1, h2⟩)).below hb) F ho
  have HN : Hid (opErr x o ≠ 0 -> opApply x o = Col.none) := opApply_none
  unfold FindPost at HF
  unfold EditPost
  generalize opApply x o = Y at *
  generalize opErr x o = E at *
  generalize x.place o = PL at *
  generalize Op.oth o = TH at *
  clear h hm hE ho hx
  obtain ⟨sec, sa, sn, sc, ta, tn, tc, ca, cn, cc⟩ := v
  obtain ⟨ok, og, ot, oo, ox⟩ := o
  change Calls _ _ #[.agg #[.string sec, .slice sa sn sc, .slice ta tn tc, .slice ca cn cc], .agg #[.int .i64 ok, .string og, .int .i64 ot, .int .i64 oo, .string ox]] _ _
  change Hid (∀ W, _ -> Calls _ _ #[.agg #[.string sec, .slice sa sn sc, .slice ta tn tc, .slice ca cn cc], .agg #[.int .i64 ok, .string og, .int .i64 ot, .int .i64 oo, .string ox]] _ _) at HF
  change Hid (∀ W, _ -> _ -> ∀ (s c : Nat), _ -> Calls _ _ #[.agg #[.string sec, .slice sa sn sc, .slice ta tn tc, .slice ca cn cc], .agg #[.int .i64 ok, .string og, .int .i64 ot, .int .i64 oo, .string ox], _] _ _) at HA
  obtain ⟨hb0, hsz, hC, hO, hP⟩ := box3 w #[.string sec, .slice sa sn sc, .slice ta tn tc, .slice ca cn cc] #[.int .i64 ok, .string og, .int .i64 ot, .int .i64 oo, .string ox] #[.string ⟨#[]⟩, .slice none 0 0, .slice none 0 0, .slice none 0 0] 26 32 26
  have hbx : (((w.alloc (.cells #[.string sec, .slice sa sn sc, .slice ta tn tc, .slice ca cn cc] 26)).alloc (.cells #[.int .i64 ok, .string og, .int .i64 ot, .int .i64 oo, .string ox] 32)).alloc (.cells #[.string ⟨#[]⟩, .slice none 0 0, .slice none 0 0, .slice none 0 0] 26)).heap[w.heap.size + 1 + 1]? = some (.cells #[.string ⟨#[]⟩, .slice none 0 0, .slice none 0 0, .slice none 0 0] 26 (0, 0)) := by
    have := World.alloc_heap_new ((w.alloc (.cells #[.string sec, .slice sa sn sc, .slice ta tn tc, .slice ca cn cc] 26)).alloc (.cells #[.int .i64 ok, .string og, .int .i64 ot, .int .i64 oo, .string ox] 32)) (.cells #[.string ⟨#[]⟩, .slice none 0 0, .slice none 0 0, .slice none 0 0] 26)
    simpa using this
  have c0 := hC 0 _ rfl
  have c1 := hC 1 _ rfl
  have c2 := hC 2 _ rfl
  have c3 := hC 3 _ rfl
  have o0 := hO 0 _ rfl
  have o1 := hO 1 _ rfl
  have o2 := hO 2 _ rfl
  have o3 := hO 3 _ rfl
  have o4 := hO 4 _ rfl
  have hsb : w.heap.size + 1 + 1 < (((w.alloc (.cells #[.string sec, .slice sa sn sc, .slice ta tn tc, .slice ca cn cc] 26)).alloc (.cells #[.int .i64 ok, .string og, .int .i64 ot, .int .i64 oo, .string ox] 32)).alloc (.cells #[.string ⟨#[]⟩, .slice none 0 0, .slice none 0 0, .slice none 0 0] 26)).heap.size := by simp
  have HFF := hiq (HF.out _ hb0)
  clear hC hO hP
  go_enter Tryz.func26, Tryz.ntmps26
  go_wp2_with fail
  generalize ((w.alloc (.cells #[.string sec, .slice sa sn sc, .slice ta tn tc, .slice ca cn cc] 26)).alloc (.cells #[.int .i64 ok, .string og, .int .i64 ot, .int .i64 oo, .string ox] 32)).alloc (.cells #[.string ⟨#[]⟩, .slice none 0 0, .slice none 0 0, .slice none 0 0] 26) = W1 at *
  refine HFF.out.mono ?_
  rintro e W2 ⟨p, q, r, rfl, hF, hb2⟩
  have hb3 := hb0.trans (hb2.mono hb0.size)
  have hb4 : Below W2.heap.size W2 (W2.alloc (.cells #[.int .i64 p, .int .i64 q, .int .i64 r] 79)) := (Below.refl _ _).alloc (Nat.le_refl _) _
  have hb5 := hb2.trans (hb4.mono hb2.size)
  have gp := World.alloc_heap_new W2 (.cells #[.int .i64 p, .int .i64 q, .int .i64 r] 79)
  replace c0 := clq hb5 c0; replace c1 := clq hb5 c1; replace c2 := clq hb5 c2; replace c3 := clq hb5 c3; replace o0 := clq hb5 o0; replace o1 := clq hb5 o1; replace o2 := clq hb5 o2; replace o3 := clq hb5 o3; replace o4 := clq hb5 o4
  have gz := (hb5.block _ hsb).trans hbx
  have hb6 := hb0.trans (hb5.mono hb0.size)
  have hF2 := hiq hF
  have HB6 := hiq hb6
  have HGZ := hiq gz
  clear hF HFF hb5 hb4 hb3 hb2 hb0 hbx hsz hb6
  obtain ⟨p0, p1, p2, -⟩ := box_cells3 gp
  obtain ⟨z0, z1, z2, z3, zf⟩ := box_cells4 gz
  have zf0 := zf 0
  have zf1 := zf 1
  have zf2 := zf 2
  have zf3 := zf 3
  clear zf gz gp
  by_cases h0 : E = 0
  · subst h0
    obtain ⟨s, c, hpl, rfl, rfl, rfl⟩ := hF2.out rfl
    have hWW : W2.heap.size < (W2.alloc (.cells #[.int .i64 (s : Int), .int .i64 (c : Int), .int .i64 (TH c)] 79)).heap.size := by simp
    have HAA := hiq (HA.out _ HB6.out rfl s c hpl)
    clear z0 z1 z2 z3 zf0 zf1 zf2 zf3 hpl
    go_wp2_with fail
    generalize W2.alloc (.cells #[.int .i64 (s : Int), .int .i64 (c : Int), .int .i64 (TH c)] 79) = W3 at *
    refine HAA.out.mono ?_
    rintro e W4 ⟨v', he, hR, hb7⟩
    obtain ⟨sec', sa', sn', sc', ta', tn', tc', ca', cn', cc'⟩ := v'
    change e = .returned (.agg #[.string sec', .slice sa' sn' sc', .slice ta' tn' tc', .slice ca' cn' cc']) at he
    subst he
    have hlt : w.heap.size + 1 + 1 < W3.heap.size := (Array.getElem?_eq_some_iff.1 HGZ.out).1
    have gz4 := (hb7.block _ hlt).trans HGZ.out
    obtain ⟨z0, z1, z2, z3, zf⟩ := box_cells4 gz4
    have zf0 := zf 0
    have zf1 := zf 1
    have zf2 := zf 2
    have zf3 := zf 3
    have HR := hiq hR
    have HB7 := hiq hb7
    have HG4 := hiq gz4
    clear zf gz4 hR hb7 HAA c0 c1 c2 c3 o0 o1 o2 o3 o4 p0 p1 p2
    go_wp2
    obtain ⟨r0, r1, r2, r3, -⟩ := box_cells4 (put4_at HG4.out (.string sec') (.slice sa' sn' sc') (.slice ta' tn' tc') (.slice ca' cn' cc'))
    have hbf : Below w.heap.size w (put4 W4 (w.heap.size + 1 + 1) (.string sec') (.slice sa' sn' sc') (.slice ta' tn' tc') (.slice ca' cn' cc')) := put4_below (HB6.out.trans (HB7.out.mono HB6.out.size)) (by omega) _ _ _ _
    have hRf := HR.out.keep (w' := put4 W4 (w.heap.size + 1 + 1) (.string sec') (.slice sa' sn' sc') (.slice ta' tn' tc') (.slice ca' cn' cc')) (put4_keep (by rintro (⟨-, q⟩ | q) <;> omega) _ _ _ _)
    change bodyPost _ _ _ _ _ (put4 W4 (w.heap.size + 1 + 1) (.string sec') (.slice sa' sn' sc') (.slice ta' tn' tc') (.slice ca' cn' cc'))
    generalize put4 W4 (w.heap.size + 1 + 1) (.string sec') (.slice sa' sn' sc') (.slice ta' tn' tc') (.slice ca' cn' cc') = WF at *
    exact bodyPost_ret (v := .tuple #[.agg #[.string sec', .slice sa' sn' sc', .slice ta' tn' tc', .slice ca' cn' cc'], .int .i64 0]) (by simp [results, Tryz.results26, go_sem, r0, r1, r2, r3]) rfl
      ⟨⟨sec', sa', sn', sc', ta', tn', tc', ca', cn', cc'⟩, rfl, hRf.mono (fun b hb _ => hb.elim (fun q => .inl q.1) (fun q => .inr (by omega))), hbf⟩
  · have t0 : ((E : Int) != 0) = true := by simpa using h0
    have HNN := hiq (HN.out h0)
    clear HN HA hF2 h0
    go_wp2
    obtain ⟨r0, r1, r2, r3, -⟩ := box_cells4 (put4_at HGZ.out (.string ⟨#[]⟩) (.slice none 0 0) (.slice none 0 0) (.slice none 0 0))
    have hbf : Below w.heap.size w (put4 (W2.alloc (.cells #[.int .i64 p, .int .i64 q, .int .i64 r] 79)) (w.heap.size + 1 + 1) (.string ⟨#[]⟩) (.slice none 0 0) (.slice none 0 0) (.slice none 0 0)) := put4_below HB6.out (by omega) _ _ _ _
    change bodyPost _ _ _ _ _ (put4 (W2.alloc (.cells #[.int .i64 p, .int .i64 q, .int .i64 r] 79)) (w.heap.size + 1 + 1) (.string ⟨#[]⟩) (.slice none 0 0) (.slice none 0 0) (.slice none 0 0))
    generalize put4 (W2.alloc (.cells #[.int .i64 p, .int .i64 q, .int .i64 r] 79)) (w.heap.size + 1 + 1) (.string ⟨#[]⟩) (.slice none 0 0) (.slice none 0 0) (.slice none 0 0) = WF at *
    exact bodyPost_ret (v := .tuple #[.agg #[.string ⟨#[]⟩, .slice none 0 0, .slice none 0 0, .slice none 0 0], .int .i64 E]) (by simp [results, Tryz.results26, go_sem, r0, r1, r2, r3]) rfl ⟨⟨⟨#[]⟩, none, 0, 0, none, 0, 0, none, 0, 0⟩, rfl, by rw [HNN.out]; exact RdC.none _ _, hbf⟩
end Go.Proofs.YtfdipkhbemgojaaGreatDoor
namespace Go.Proofs.YtfdipkhbemgojaaGreatDoor
open Go.RowKit

theorem sml_op {x : Col} {o : Op} (hm : Sml x) (hx : o.text.size <= 1000000) : Sml (opApply x o) := by
  by_cases h0 : opErr x o = 0
  · obtain ⟨s, c, F⟩ := fits_of h0
    rw [F.apply]
    refine ⟨hm.1, fun r hr t ht => ?_⟩
    have hs : s < x.toks.length := by rw [F.heads.len]; exact F.ks
    have hr' : r ∈ opToks x o s := hr
    unfold opToks at hr'
    split at hr'
    · rcases List.mem_or_eq_of_mem_set hr' with h | rfl
      · exact hm.2 r h t ht
      · rcases List.mem_or_eq_of_mem_set ht with h | rfl
        · exact hm.2 _ (tks_mem hs) t h
        · exact ⟨(hm.2 _ (tks_mem hs) _ (tk_mem F.t0 F.t1)).1, hx⟩
    · exact hm.2 r hr' t ht
  · rw [opApply_none h0]; exact ⟨by simp [Col.none], by simp [Col.none]⟩
end Go.Proofs.YtfdipkhbemgojaaGreatDoor
namespace Go.Proofs.YtfdipkhbemgojaaGreatDoor
open Go.RowKit

structure RS where
  st : Col
  sk : List Int
  er : Int
/-- An operation, or the mark of being undone, at a place. -/
def opK (ops : List Op) (k : Nat) : Op := (ops[k]?).getD Op.zero
def unK (und : List Bool) (k : Nat) : Bool := (und[k]?).getD true
def stepR (q : RS) (k : Nat) (o : Op) (u : Bool) : RS :=
  if u = true then q else if opErr q.st o = 0 then ⟨opApply q.st o, q.sk, q.er⟩ else ⟨q.st, q.sk ++ [(k : Int)], if q.er = 0 then opErr q.st o else q.er⟩
def runN (x : Col) (ops : List Op) (und : List Bool) : Nat -> RS
  | 0 => ⟨x, [], 0⟩
  | k + 1 => stepR (runN x ops und k) k (opK ops k) (unK und k)
theorem runN_succ (x : Col) (ops : List Op) (und : List Bool) (k : Nat) : runN x ops und (k + 1) = stepR (runN x ops und k) k (opK ops k) (unK und k) := rfl
def runL (x : Col) (ops : List Op) (und : List Bool) : RS := runN x ops und ops.length
theorem runN_er (x : Col) (ops : List Op) (und : List Bool) : ∀ k, (runN x ops und k).er = 0 ↔ (runN x ops und k).sk = []
  | 0 => by simp [runN]
  | k + 1 => by
    have ih := runN_er x ops und k
    rw [runN_succ]
    unfold stepR
    split
    · exact ih
    · split
      · exact ih
      · rename_i h
        constructor
        · intro h'
          dsimp only at h'
          split at h'
          · exact absurd h' h
          · exact absurd h' (by assumption)
        · intro h'; simp at h'
theorem opK_text {ops : List Op} {m : Nat} (h : ∀ o ∈ ops, o.text.size <= m) (k : Nat) : (opK ops k).text.size <= m := by
  unfold opK
  cases e : ops[k]? with
  | none => show 0 <= m; omega
  | some o => exact h o (List.mem_of_getElem? e)
theorem runN_sml {x : Col} {ops : List Op} {und : List Bool} (hm : Sml x) (h : ∀ o ∈ ops, o.text.size <= 1000000) : ∀ k, Sml (runN x ops und k).st
  | 0 => hm
  | k + 1 => by
    have ih := runN_sml (und := und) hm h k
    rw [runN_succ]
    unfold stepR
    split
    · exact ih
    · split
      · exact sml_op ih (opK_text h k)
      · exact ih
theorem runN_congr {x : Col} {ops ops' : List Op} {und und' : List Bool} : ∀ k, (∀ j, j < k -> opK ops j = opK ops' j /\ unK und j = unK und' j) -> runN x ops und k = runN x ops' und' k
  | 0, _ => rfl
  | k + 1, h => by
    rw [runN_succ, runN_succ, runN_congr k (fun j hj => h j (by omega)), (h k (by omega)).1, (h k (by omega)).2]
theorem runN_sk {x : Col} {ops : List Op} {und : List Bool} : ∀ k, (∀ i ∈ (runN x ops und k).sk, ∃ j, j < k /\ i = (j : Int) /\ unK und j = false /\ opErr (runN x ops und j).st (opK ops j) ≠ 0) /\ (runN x ops und k).sk.Pairwise (· < ·)
  | 0 => ⟨by simp [runN], by simp [runN]⟩
  | k + 1 => by
    obtain ⟨h1, h2⟩ := runN_sk (x := x) (ops := ops) (und := und) k
    rw [runN_succ]
    unfold stepR
    split
    · exact ⟨fun i hi => by obtain ⟨j, hj, e⟩ := h1 i hi; exact ⟨j, by omega, e⟩, h2⟩
    · rename_i hu
      split
      · exact ⟨fun i hi => by obtain ⟨j, hj, e⟩ := h1 i hi; exact ⟨j, by omega, e⟩, h2⟩
      · rename_i he
        refine ⟨fun i hi => ?_, ?_⟩
        · rcases List.mem_append.1 hi with q | q
          · obtain ⟨j, hj, e⟩ := h1 i q; exact ⟨j, by omega, e⟩
          · simp at q; exact ⟨k, by omega, q, by simpa using hu, he⟩
        · dsimp only
          rw [List.pairwise_append]
          refine ⟨h2, by simp, fun a ha b hb => ?_⟩
          obtain ⟨j, hj, e, -⟩ := h1 a ha
          simp at hb
          omega
/-- A log. -/
structure Lg where
  start : Col
  ops : List Op
  und : List Bool
theorem lg_eq {a b : Lg} : a = b ↔ a.start = b.start /\ a.ops = b.ops /\ a.und = b.und := by
  constructor
  · rintro rfl; exact ⟨rfl, rfl, rfl⟩
  · obtain ⟨a1, a2, a3⟩ := a
    obtain ⟨b1, b2, b3⟩ := b
    rintro ⟨h1, h2, h3⟩
    dsimp only at h1 h2 h3
    rw [h1, h2, h3]
instance : DecidableEq Lg := fun a b => decidable_of_iff _ lg_eq.symm
def Lg.none : Lg := ⟨Col.none, [], []⟩
def listsErr (x : Col) (ops : List Op) (und : List Bool) : Int := if x.err ≠ 0 then 1 else if ops.length ≠ und.length then 9 else if 256 < ops.length then 4 else 0
namespace Lg
def run (l : Lg) : RS := runL l.start l.ops l.und
def err (l : Lg) : Int := if listsErr l.start l.ops l.und ≠ 0 then listsErr l.start l.ops l.und else l.run.er
def state (l : Lg) : Col × Int := if l.err ≠ 0 then (Col.none, 1) else (l.run.st, 0)
def idx (l : Lg) (i : Int) : Int := if l.err ≠ 0 then 1 else if i < 0 \/ (l.ops.length : Int) <= i then 2 else 0
def set (l : Lg) (i : Nat) (b : Bool) : Lg := ⟨l.start, l.ops, l.und.set i b⟩
def did (l : Lg) (o : Op) : Lg × Int :=
  if l.err ≠ 0 then (Lg.none, 1) else if l.ops.length = 256 then (Lg.none, 4) else if opErr l.run.st o ≠ 0 then (Lg.none, opErr l.run.st o)
  else (⟨l.start, l.ops ++ [o], l.und ++ [false]⟩, 0)
/-- Undo (b), Redo (not b). -/
def turn (l : Lg) (i : Int) (b : Bool) : Lg × Int :=
  if l.idx i ≠ 0 then (Lg.none, l.idx i) else if unK l.und i.toNat = b then (Lg.none, if b then 7 else 6)
  else if (l.set i.toNat b).err ≠ 0 then (Lg.none, 17) else (l.set i.toNat b, 0)
end Lg
/-- The operations that are not undone. -/
def keepN (ops : List Op) (und : List Bool) : Nat -> List Op
  | 0 => []
  | k + 1 => if unK und k = true then keepN ops und k else keepN ops und k ++ [opK ops k]
theorem lists_zero {x : Col} {ops : List Op} {und : List Bool} : listsErr x ops und = 0 ↔ x.err = 0 /\ ops.length = und.length /\ ops.length <= 256 := by
  unfold listsErr
  split
  · rename_i h; constructor
    · intro q; omega
    · rintro ⟨q, -⟩; exact absurd q h
  · rename_i h; split
    · rename_i h2; constructor
      · intro q; omega
      · rintro ⟨-, q, -⟩; exact absurd q h2
    · rename_i h2; split
      · constructor
        · intro q; omega
        · rintro ⟨-, -, q⟩; omega
      · constructor
        · intro _; exact ⟨by simpa using h, by omega, by omega⟩
        · intro _; rfl
theorem err_zero {l : Lg} : l.err = 0 ↔ (l.start.err = 0 /\ l.ops.length = l.und.length /\ l.ops.length <= 256) /\ l.run.er = 0 := by
  unfold Lg.err
  split
  · rename_i h; constructor
    · intro q; exact absurd q h
    · rintro ⟨q, -⟩; exact absurd (lists_zero.2 q) h
  · rename_i h
    have h0 : listsErr l.start l.ops l.und = 0 := by simpa using h
    exact ⟨fun q => ⟨lists_zero.1 h0, q⟩, fun q => q.2⟩
theorem err_sk {l : Lg} : l.err = 0 ↔ (l.start.err = 0 /\ l.ops.length = l.und.length /\ l.ops.length <= 256) /\ l.run.sk = [] := by
  rw [err_zero]
  unfold Lg.run runL
  rw [runN_er]
end Go.Proofs.YtfdipkhbemgojaaGreatDoor
namespace Go.Proofs.YtfdipkhbemgojaaGreatDoor
open Go.RowKit

theorem unK_lt {und : List Bool} {j : Nat} (h : j < und.length) : und[j]? = some (unK und j) := by
  unfold unK; rw [List.getElem?_eq_getElem h]; rfl
theorem opK_lt {ops : List Op} {j : Nat} (h : j < ops.length) : ops[j]? = some (opK ops j) := by
  unfold opK; rw [List.getElem?_eq_getElem h]; rfl
theorem runN_er_step {x : Col} {ops : List Op} {und : List Bool} {k : Nat} (h : (runN x ops und (k + 1)).er = 0) : (runN x ops und k).er = 0 /\ (unK und k = false -> opErr (runN x ops und k).st (opK ops k) = 0) := by
  rw [runN_succ] at h
  unfold stepR at h
  split at h
  · rename_i hu; exact ⟨h, fun q => by rw [hu] at q; cases q⟩
  · split at h
    · rename_i he; exact ⟨h, fun _ => he⟩
    · rename_i he
      dsimp only at h
      split at h
      · exact absurd h he
      · exact absurd h (by assumption)
theorem did_run {l : Lg} {o : Op} (he : l.err = 0) (hl : l.ops.length < 256) : runL l.start (l.ops ++ [o]) (l.und ++ [false]) = stepR l.run l.ops.length o false := by
  have hlen := (err_sk.1 he).1.2.1
  unfold runL
  rw [List.length_append]
  show stepR _ _ _ _ = _
  have e1 : runN l.start (l.ops ++ [o]) (l.und ++ [false]) l.ops.length = l.run := runN_congr _ (fun j hj => by
    constructor
    · unfold opK; rw [List.getElem?_append_left hj]
    · unfold unK; rw [List.getElem?_append_left (by omega)])
  have e2 : opK (l.ops ++ [o]) l.ops.length = o := by unfold opK; rw [List.getElem?_append_right (Nat.le_refl _)]; simp
  have e3 : unK (l.und ++ [false]) l.ops.length = false := by unfold unK; rw [hlen, List.getElem?_append_right (Nat.le_refl _)]; simp
  rw [e1, e2, e3]
theorem did_valid {l : Lg} {o : Op} (he : l.err = 0) (hl : l.ops.length < 256) (ho : opErr l.run.st o = 0) : (⟨l.start, l.ops ++ [o], l.und ++ [false]⟩ : Lg).err = 0 /\ (⟨l.start, l.ops ++ [o], l.und ++ [false]⟩ : Lg).run.st = opApply l.run.st o := by
  have h := did_run (o := o) he hl
  have h0 := err_zero.1 he
  unfold stepR at h
  rw [if_neg (by simp), if_pos ho] at h
  refine ⟨err_zero.2 ⟨⟨h0.1.1, by simp [h0.1.2.1], by simp; omega⟩, ?_⟩, ?_⟩
  · unfold Lg.run; rw [h]; exact h0.2
  · unfold Lg.run; rw [h]; rfl
theorem undid_run {l : Lg} {o : Op} (he : l.err = 0) (hl : l.ops.length < 256) : ((⟨l.start, l.ops ++ [o], l.und ++ [false]⟩ : Lg).set l.ops.length true).err = 0 /\ ((⟨l.start, l.ops ++ [o], l.und ++ [false]⟩ : Lg).set l.ops.length true).run.st = l.run.st := by
  have h0 := err_zero.1 he
  have hlen := h0.1.2.1
  have e0 : (l.und ++ [false]).set l.ops.length true = l.und ++ [true] := by rw [hlen]; simp
  have hr : runL l.start (l.ops ++ [o]) (l.und ++ [true]) = l.run := by
    unfold runL
    rw [List.length_append]
    show stepR _ _ _ _ = _
    have e1 : runN l.start (l.ops ++ [o]) (l.und ++ [true]) l.ops.length = l.run := runN_congr _ (fun j hj => by
      constructor
      · unfold opK; rw [List.getElem?_append_left hj]
      · unfold unK; rw [List.getElem?_append_left (by omega)])
    have e3 : unK (l.und ++ [true]) l.ops.length = true := by unfold unK; rw [hlen, List.getElem?_append_right (Nat.le_refl _)]; simp
    rw [e1, e3]
    rfl
  unfold Lg.set
  dsimp only
  rw [e0]
  refine ⟨err_zero.2 ⟨⟨h0.1.1, by simp [hlen], by simp; omega⟩, ?_⟩, ?_⟩
  · unfold Lg.run; rw [hr]; exact h0.2
  · unfold Lg.run; rw [hr]; rfl
theorem keepN_len (ops : List Op) (und : List Bool) : ∀ k, (keepN ops und k).length <= k
  | 0 => Nat.le_refl _
  | k + 1 => by
    have ih := keepN_len ops und k
    unfold keepN
    split
    · omega
    · simp; omega
/-- The last two operations. -/
theorem last_two {l : Lg} {m : Nat} (he : l.err = 0) (hn : l.ops.length = m + 2) (hu : ∀ b ∈ l.und, b = false) :
    (⟨l.start, l.ops.take m, l.und.take m⟩ : Lg).err = 0 /\ (∀ a b, opK l.ops m = a -> opK l.ops (m + 1) = b -> ∀ B, (⟨l.start, l.ops.take m, l.und.take m⟩ : Lg).run.st = B ->
      opErr B a = 0 /\ opErr (opApply B a) b = 0 /\ l.run.st = opApply (opApply B a) b /\
      (opErr B b = 0 -> opErr (opApply B b) a = 0 -> (⟨l.start, (l.ops.set m b).set (m + 1) a, l.und⟩ : Lg).err = 0 /\ (⟨l.start, (l.ops.set m b).set (m + 1) a, l.und⟩ : Lg).run.st = opApply (opApply B b) a)) := by
  have h0 := err_zero.1 he
  have hlen := h0.1.2.1
  have hf : ∀ j, j < m + 2 -> unK l.und j = false := fun j hj => hu _ (List.mem_of_getElem? (unK_lt (by omega)))
  have ec : runN l.start (l.ops.take m) (l.und.take m) m = runN l.start l.ops l.und m := runN_congr m (fun j hj => by
    constructor
    · unfold opK; rw [List.getElem?_take_of_lt hj]
    · unfold unK; rw [List.getElem?_take_of_lt hj])
  have er : (⟨l.start, l.ops.take m, l.und.take m⟩ : Lg).run = runN l.start l.ops l.und m := by
    unfold Lg.run runL
    dsimp only
    rw [List.length_take, Nat.min_eq_left (by omega), ec]
  have h2 : (runN l.start l.ops l.und (m + 2)).er = 0 := by have := h0.2; unfold Lg.run runL at this; rwa [hn] at this
  obtain ⟨h3, h4⟩ := runN_er_step h2
  obtain ⟨h5, h6⟩ := runN_er_step h3
  have e6 := h6 (hf m (by omega))
  have r1 : runN l.start l.ops l.und (m + 1) = ⟨opApply (runN l.start l.ops l.und m).st (opK l.ops m), (runN l.start l.ops l.und m).sk, (runN l.start l.ops l.und m).er⟩ := by
    rw [runN, stepR, if_neg (by simp [hf m (by omega)]), if_pos e6]
  have e4 := h4 (hf (m + 1) (by omega))
  rw [r1] at e4
  dsimp only at e4
  have r2 : (runN l.start l.ops l.und (m + 2)).st = opApply (opApply (runN l.start l.ops l.und m).st (opK l.ops m)) (opK l.ops (m + 1)) := by
    rw [runN, stepR, if_neg (by simp [hf (m + 1) (by omega)]), r1, if_pos e4]
  refine ⟨err_zero.2 ⟨⟨h0.1.1, by simp [hlen], by simp; omega⟩, by rw [er]; exact h5⟩, ?_⟩
  rintro a b rfl rfl B hB
  rw [er] at hB
  subst hB
  refine ⟨e6, e4, by unfold Lg.run runL; rw [hn]; exact r2, fun g1 g2 => ?_⟩
  generalize hO : (l.ops.set m (opK l.ops (m + 1))).set (m + 1) (opK l.ops m) = O
  have o1 : opK O m = opK l.ops (m + 1) := by subst hO; show ((_ : List Op)[m]?).getD _ = _; rw [List.getElem?_set_ne (by omega), List.getElem?_set_self (by omega)]; rfl
  have o2 : opK O (m + 1) = opK l.ops m := by subst hO; show ((_ : List Op)[m + 1]?).getD _ = _; rw [List.getElem?_set_self (by simp; omega)]; rfl
  have oc : runN l.start O l.und m = runN l.start l.ops l.und m := runN_congr m (fun j hj => ⟨by subst hO; show ((_ : List Op)[j]?).getD _ = _; rw [List.getElem?_set_ne (by omega), List.getElem?_set_ne (by omega)]; rfl, rfl⟩)
  have ol : O.length = m + 2 := by subst hO; simp [hn]
  have s1 : runN l.start O l.und (m + 1) = ⟨opApply (runN l.start l.ops l.und m).st (opK l.ops (m + 1)), (runN l.start l.ops l.und m).sk, (runN l.start l.ops l.und m).er⟩ := by
    rw [runN, stepR, if_neg (by simp [hf m (by omega)]), oc, o1, if_pos g1]
  have s2 : runN l.start O l.und (m + 2) = ⟨opApply (opApply (runN l.start l.ops l.und m).st (opK l.ops (m + 1))) (opK l.ops m), (runN l.start l.ops l.und m).sk, (runN l.start l.ops l.und m).er⟩ := by
    rw [runN, stepR, if_neg (by simp [hf (m + 1) (by omega)]), s1, o2, if_pos g2]
  have sr : (⟨l.start, O, l.und⟩ : Lg).run = runN l.start O l.und (m + 2) := by unfold Lg.run runL; dsimp only; rw [ol]
  exact ⟨err_zero.2 ⟨⟨h0.1.1, by dsimp only; omega, by dsimp only; omega⟩, by rw [sr, s2]; exact h5⟩, by rw [sr, s2]⟩
end Go.Proofs.YtfdipkhbemgojaaGreatDoor
namespace Go.Proofs.YtfdipkhbemgojaaGreatDoor
open Go.RowKit

structure LV where
  c : CV
  oa : Option Addr
  on : Nat
  oc : Nat
  ua : Option Addr
  un : Nat
  uc : Nat
def LV.arr (v : LV) : Array Value := #[.string v.c.sec, .slice v.c.sa v.c.sn v.c.sc, .slice v.c.ta v.c.tn v.c.tc, .slice v.c.ca v.c.cn v.c.cc, .slice v.oa v.on v.oc, .slice v.ua v.un v.uc]
def LV.val (v : LV) : Value := .agg v.arr
def RdL (S : Nat -> Prop) (w : World) (v : LV) (l : Lg) : Prop := RdC S w v.c l.start /\ Opsq S w v.oa v.on v.oc l.ops /\ Flgs S w v.ua v.un v.uc l.und
theorem RdL.keep {S : Nat -> Prop} {w w' : World} {v : LV} {l : Lg} (h : RdL S w v l) (k : KeepS S w w') : RdL S w' v l := ⟨h.1.keep k, h.2.1.keep rOpn_ok k, h.2.2.keep rBool_ok k⟩
theorem RdL.mono {S S' : Nat -> Prop} {w : World} {v : LV} {l : Lg} (h : RdL S w v l) (k : ∀ b, S b -> b < w.heap.size -> S' b) : RdL S' w v l := ⟨h.1.mono k, h.2.1.mono rOpn_ok k, h.2.2.mono rBool_ok k⟩
theorem RdL.below {S : Nat -> Prop} {w w' : World} {v : LV} {l : Lg} (h : RdL S w v l) (hb : Below w.heap.size w w') : RdL S w' v l := h.keep (.below hb)
theorem rdC_none (S : Nat -> Prop) (w : World) : RdC S w ⟨⟨#[]⟩, none, 0, 0, none, 0, 0, none, 0, 0⟩ Col.none := ⟨rfl, by decide, Sq.nil _ _ _ _ _, Sq.nil _ _ _ _ _, Sq.nil _ _ _ _ _⟩
theorem rdL_none (S : Nat -> Prop) (w : World) : RdL S w ⟨⟨⟨#[]⟩, none, 0, 0, none, 0, 0, none, 0, 0⟩, none, 0, 0, none, 0, 0⟩ Lg.none := ⟨rdC_none S w, Sq.nil _ _ _ _ _, Sq.nil _ _ _ _ _⟩
/-- The sizes asked of a log. -/
def SmL (l : Lg) : Prop := Sml l.start /\ ∀ o ∈ l.ops, o.text.size <= 1000000
/-- What running operations answers. -/
def RunPost (S : Nat -> Prop) (x : Col) (ops : List Op) (und : List Bool) (w : World) (e : Ending) (w' : World) : Prop :=
  ∃ (v' : CV) (a : Option Addr) (n c : Nat), e = .returned (.tuple #[v'.val, .slice a n c, .int .i64 (runL x ops und).er]) /\ RdC (fun b => S b \/ w.heap.size <= b) w' v' (runL x ops und).st /\ Nums (fun b => w.heap.size <= b) w' a n c (runL x ops und).sk /\ Below w.heap.size w w'
/-- The operations that are not undone, with their places. -/
def doneN (ops : List Op) (und : List Bool) : Nat -> List (Nat × Op)
  | 0 => []
  | k + 1 => if unK und k = true then doneN ops und k else doneN ops und k ++ [(k, opK ops k)]
def runD (x : Col) (l : List (Nat × Op)) : RS := l.foldl (fun q p => stepR q p.1 p.2 false) ⟨x, [], 0⟩
theorem runD_snoc (x : Col) (l : List (Nat × Op)) (p : Nat × Op) : runD x (l ++ [p]) = stepR (runD x l) p.1 p.2 false := by unfold runD; rw [List.foldl_append]; rfl
theorem runD_done (x : Col) (ops : List Op) (und : List Bool) : ∀ k, runD x (doneN ops und k) = runN x ops und k
  | 0 => rfl
  | k + 1 => by
    have ih := runD_done x ops und k
    rw [runN_succ]
    by_cases q : unK und k = true
    · rw [doneN, if_pos q, ih, stepR, if_pos q]
    · have q' : unK und k = false := by simpa using q
      rw [doneN, if_neg q, runD_snoc, ih, q']
theorem doneN_keep (ops : List Op) (und : List Bool) : ∀ k, (doneN ops und k).map (·.2) = keepN ops und k
  | 0 => rfl
  | k + 1 => by
    have ih := doneN_keep ops und k
    by_cases q : unK und k = true
    · rw [doneN, if_pos q, keepN, if_pos q, ih]
    · rw [doneN, if_neg q, keepN, if_neg q, List.map_append, ih]; rfl
theorem doneN_mem {ops : List Op} {und : List Bool} {p : Nat × Op} : ∀ k, p ∈ doneN ops und k -> p.1 < k /\ p.2 = opK ops p.1 /\ unK und p.1 = false
  | 0, h => by simp [doneN] at h
  | k + 1, h => by
    by_cases q : unK und k = true
    · rw [doneN, if_pos q] at h
      obtain ⟨h1, h2⟩ := doneN_mem k h
      exact ⟨by omega, h2⟩
    · rw [doneN, if_neg q] at h
      rcases List.mem_append.1 h with h | h
      · obtain ⟨h1, h2⟩ := doneN_mem k h
        exact ⟨by omega, h2⟩
      · simp at h; subst h; exact ⟨by simp, rfl, by simpa using q⟩
theorem doneN_len (ops : List Op) (und : List Bool) : ∀ k, (doneN ops und k).length <= k := fun k => by
  have h := keepN_len ops und k
  rw [<- doneN_keep, List.length_map] at h
  exact h
theorem doneN_prefix (ops : List Op) (und : List Bool) : ∀ k d, doneN ops und k <+: doneN ops und (k + d)
  | k, 0 => List.prefix_rfl
  | k, d + 1 => by
    refine (doneN_prefix ops und k d).trans ?_
    show _ <+: doneN ops und ((k + d) + 1)
    by_cases q : unK und (k + d) = true
    · rw [doneN, if_pos q]; exact List.prefix_rfl
    · rw [doneN, if_neg q]; exact List.prefix_append _ _
end Go.Proofs.YtfdipkhbemgojaaGreatDoor
