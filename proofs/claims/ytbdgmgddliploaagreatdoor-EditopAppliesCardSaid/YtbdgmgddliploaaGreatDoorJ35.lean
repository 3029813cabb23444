/- Joined: EAwl. -/
import Derived.Test.YtbdgmgddliploaaGreatDoorJ34
import Derived.Test.YtbdgmgddliploaaGreatDoorJ32
import Derived.Test.YtbdgmgddliploaaGreatDoorJ21
import Derived.Test.YtbdgmgddliploaaGreatDoorJ24
set_option linter.unusedVariables false
set_option linter.unusedSimpArgs false
set_option maxRecDepth 100000
set_option maxHeartbeats 16000000
namespace Go.Proofs.YtbdgmgddliploaaGreatDoor
open Go.RowKit

theorem samp_sml : Sml sampC := ⟨fun s hs => by revert s; decide +kernel, fun r hr t ht => by revert t; revert r; unfold SmT; decide +kernel⟩
theorem RdC.any {S : Nat -> Prop} {w : World} {v : CV} {x : Col} (h : RdC S w v x) : RdC (fun _ => True) w v x := h.mono (fun _ _ _ => trivial)
theorem all_samp (W : World) (v : CV) (h : RdC (fun _ => True) W v sampC) (hE : Env W) : Calls Tryz.prog 22 #[v.val] W fun e w' => ∃ a n c, e = .returned (.tuple #[.slice a n c, .int .i64 0]) /\ Opsq (fun _ => True) w' a n c [⟨2, bA, 0, 0, ⟨#[]⟩⟩, ⟨2, bB, 0, 0, ⟨#[]⟩⟩, shO] /\ Below W.heap.size W w' := by
  refine (all_any _ v sampC W h samp_sml hE (by rw [samp_all]; decide)).mono ?_
  rintro e w' ⟨a, n, c, he, ho, hb⟩
  rw [samp_err] at he ho
  rw [if_pos rfl] at he ho
  rw [samp_all] at ho
  refine ⟨a, n, c, he, ho.sq op_len (by rw [ho.len]; decide) (fun _ _ => trivial) (fun x hx => ⟨rfl, ?_⟩), hb⟩
  simp only [List.mem_cons, List.not_mem_nil, or_false] at hx
  rcases hx with rfl | rfl | rfl <;> (unfold Op.ok I64; decide)
theorem apply_samp (S : Nat -> Prop) (W : World) (v : CV) (h : RdC S W v sampC) (hE : Env W) : Calls Tryz.prog 14 #[v.val, .agg #[.int .i64 3, .string ⟨#[66]⟩, .int .i64 0, .int .i64 1, .string ⟨#[]⟩]] W fun e w' => ∃ v' : CV, e = .returned (.tuple #[v'.val, .int .i64 0]) /\ Numss (fun b => S b \/ W.heap.size <= b) w' v'.ca v'.cn v'.cc [[0, -1], [1, 0]] /\ Below W.heap.size W w' := by
  have := edit_any S v sampC shO W h samp_sml hE (by unfold Op.ok I64; decide) (by decide)
  unfold EditPost at this
  rw [samp_sh] at this
  refine this.mono ?_
  rintro e w' ⟨v', he, hR, hb⟩
  refine ⟨v', he, ?_, hb⟩
  have := hR.2.2.2.2
  rw [samp_ap] at this; exact this
theorem descr_samp (W : World) (v : CV) (h : RdC (fun _ => True) W v sampC) (hE : Env W) : Calls Tryz.prog 16 #[v.val, .agg #[.int .i64 3, .string ⟨#[66]⟩, .int .i64 0, .int .i64 1, .string ⟨#[]⟩]] W fun e w' => e = .returned (.tuple #[.string ⟨#[115, 104, 105, 102, 116, 32, 66, 32, 48, 32, 100, 101, 117, 115, 32, 49]⟩, .int .i64 0]) /\ Below W.heap.size W w' := by
  have := descr_any _ v sampC shO W h samp_sml hE (by unfold Op.ok I64; decide) (by decide) (by decide)
  rw [samp_sh, samp_de] at this
  exact this
theorem box3w (w : World) (A B C : Array Value) (ta tb tc : TypeId) : ∃ W, W = (((w.alloc (.cells A ta)).alloc (.cells B tb)).alloc (.cells C tc)) /\ Below w.heap.size w W /\ W.heap.size = w.heap.size + 3 /\
    W.heap[w.heap.size]? = some (.cells A ta (0, 0)) /\ W.heap[w.heap.size + 1]? = some (.cells B tb (0, 0)) /\ W.heap[w.heap.size + 1 + 1]? = some (.cells C tc (0, 0)) := by
  obtain ⟨w1, h1⟩ : ∃ w1, w1 = w.alloc (.cells A ta) := ⟨_, rfl⟩
  have a1 := World.alloc_heap_new w (.cells A ta)
  rw [<- h1] at a1 ⊢
  have s1 : w1.heap.size = w.heap.size + 1 := by rw [h1]; simp
  have b1 : Below w.heap.size w w1 := by rw [h1]; exact (Below.refl _ _).alloc (Nat.le_refl _) _
  clear h1
  obtain ⟨w2, h2⟩ : ∃ w2, w2 = w1.alloc (.cells B tb) := ⟨_, rfl⟩
  have a2 := World.alloc_heap_new w1 (.cells B tb)
  rw [<- h2] at a2 ⊢
  have s2 : w2.heap.size = w1.heap.size + 1 := by rw [h2]; simp
  have b2 : Below w1.heap.size w1 w2 := by rw [h2]; exact (Below.refl _ _).alloc (Nat.le_refl _) _
  clear h2
  obtain ⟨w3, h3⟩ : ∃ w3, w3 = w2.alloc (.cells C tc) := ⟨_, rfl⟩
  have a3 := World.alloc_heap_new w2 (.cells C tc)
  rw [<- h3] at a3 ⊢
  have s3 : w3.heap.size = w2.heap.size + 1 := by rw [h3]; simp
  have b3 : Below w2.heap.size w2 w3 := by rw [h3]; exact (Below.refl _ _).alloc (Nat.le_refl _) _
  clear h3
  have c3 := b3
  have c2 := b2.trans (c3.mono b2.size)
  have c1 := b1.trans (c2.mono b1.size)
  rw [s1] at a2
  rw [s2, s1] at a3
  exact ⟨_, rfl, c1, by omega, (c2.block _ (by omega)).trans a1, (c3.block _ (by omega)).trans a2, a3⟩
theorem awake_any (w : World) (hE : Env w) : Calls Tryz.prog 13 #[] w fun e w' => e = .returned (.bool true) /\ Below w.heap.size w w' := by
  have HS : Hid (∀ W, Calls Tryz.prog 38 #[] W fun e w' => ∃ v : CV, e = .returned v.val /\ RdC (fun b => W.heap.size <= b) w' v sampC /\ Below W.heap.size W w') := sample_any
  have HA := hiq all_samp
  have HP := hiq apply_samp
  have HD := hiq descr_samp
  have HE := hiq hE
  clear hE
  go_enter Tryz.func13, Tryz.ntmps13
  go_wp2_with fail
  refine (HS.out _).mono ?_
  rintro e W1 ⟨v, he, hR, hb1⟩
  have HAA := hiq (HA.out W1 v hR.any (HE.out.below hb1))
  clear hR
  obtain ⟨sec, sa, sn, sc, ta, tn, tc, ca, cn, cc⟩ := v
  change e = .returned (.agg #[.string sec, .slice sa sn sc, .slice ta tn tc, .slice ca cn cc]) at he
  change Hid (Calls _ _ #[.agg #[.string sec, .slice sa sn sc, .slice ta tn tc, .slice ca cn cc]] W1 _) at HAA
  subst he
  go_wp2_with fail
  refine HAA.out.mono ?_
  rintro e W2 ⟨a, n, c, rfl, hO, hb2⟩
  have hb3 := hb1.trans (hb2.mono hb1.size)
  clear HAA hb1 hb2
  have hal : Below W2.heap.size W2 (W2.alloc (.cells #[.int .i64 3, .string ⟨#[66]⟩, .int .i64 0, .int .i64 1, .string ⟨#[]⟩] 28)) := (Below.refl _ _).alloc (Nat.le_refl _) _
  have g3 := World.alloc_heap_new W2 (.cells #[.int .i64 3, .string ⟨#[66]⟩, .int .i64 0, .int .i64 1, .string ⟨#[]⟩] 28)
  have hO3 := hO.below rOpn_ok hal
  have hs3 : W2.heap.size < (W2.alloc (.cells #[.int .i64 3, .string ⟨#[66]⟩, .int .i64 0, .int .i64 1, .string ⟨#[]⟩] 28)).heap.size := by simp
  have hw2 := hb3.size
  have HB := hiq (hb3.trans (hal.mono hb3.size))
  obtain ⟨o0, o1, o2, o3, o4⟩ := box_cells5 g3
  clear hO hb3 hal g3
  go_wp2_with fail
  generalize W2.alloc (.cells #[.int .i64 3, .string ⟨#[66]⟩, .int .i64 0, .int .i64 1, .string ⟨#[]⟩] 28) = W3 at *
  obtain ⟨X, Wf, hX, hS1, hS2⟩ := family (fun W => Below W3.heap.size W3 W) W3 (Below.refl _ _)
  have HS2 := hiq hS2
  have q0 := fun x => clq (hS1 x) o0
  have q1 := fun x => clq (hS1 x) o1
  have q2 := fun x => clq (hS1 x) o2
  have q3 := fun x => clq (hS1 x) o3
  have q4 := fun x => clq (hS1 x) o4
  clear hS1 hS2
  have hd4 : Below W3.heap.size W3 W3.drew := (Below.refl _ _).drew
  refine wp_region_tree (Wf := Wf) 8 (.read 1 (.two 0 (.two 2 (.read 3 (.read 4 (.read 5 (.act 6 (.act 7 .fin))))) 6 (.act 2 (.read 3 (.read 4 (.read 5 (.act 7 .fin)))))) 6 (.act 0 (.act 2 (.read 3 (.read 4 (.read 5 (.act 7 .fin)))))))) (by kernel_rfl) (by kernel_rfl) (fun _ _ d _ _ h => by cases d <;> exact h) (HS2.out _ hd4) ?_
  refine wpTree_read _ rfl (fun K hK => ?_); unfold rOp; go_simp; (refine hK _ ?_; clear hK K)
  clear q0 q1 q2 q3 q4
  generalize W3.drew = W4 at *
  refine wpTree_two ?_ ?_
  · refine wpTree_act _ rfl ?_
    go_wp2_with fail
    refine (HS.out _).mono ?_
    rintro e W5 ⟨v, he, hR, hbW5⟩
    obtain ⟨sec2, sa2, sn2, sc2, ta2, tn2, tc2, ca2, cn2, cc2⟩ := v
    change e = .returned (.agg #[.string sec2, .slice sa2 sn2 sc2, .slice ta2 tn2 tc2, .slice ca2 cn2 cc2]) at he
    subst he
    have hdW5 := hd4.trans (hbW5.mono hd4.size)
    go_wp2_with fail
    refine ⟨HS2.out _ hdW5, ?_⟩
    refine wpTree_two ?_ ?_
    · refine wpTree_act _ rfl ?_
      have HPP := hiq (HP.out _ W5 _ hR (HE.out.below (HB.out.trans (hdW5.mono HB.out.size))))
      change Hid (Calls _ _ #[.agg #[.string sec2, .slice sa2 sn2 sc2, .slice ta2 tn2 tc2, .slice ca2 cn2 cc2], .agg #[.int .i64 3, .string ⟨#[66]⟩, .int .i64 0, .int .i64 1, .string ⟨#[]⟩]] W5 _) at HPP
      go_wp2_with fail
      refine HPP.out.mono ?_
      rintro e W6 ⟨v', he, hN, hbW6⟩
      obtain ⟨sec3, sa3, sn3, sc3, ta3, tn3, tc3, ca3, cn3, cc3⟩ := v'
      change e = .returned (.tuple #[.agg #[.string sec3, .slice sa3 sn3 sc3, .slice ta3 tn3 tc3, .slice ca3 cn3 cc3], .int .i64 0]) at he
      subst he
      change Numss _ W6 ca3 cn3 cc3 _ at hN
      have hdW6 := hdW5.trans (hbW6.mono hdW5.size)
      go_wp2_with fail
      refine ⟨HS2.out _ hdW6, ?_⟩
      clear HPP
      refine wpTree_read _ rfl (fun K hK => ?_); unfold rOp; go_simp; (refine hK _ ?_; clear hK K)
      refine wpTree_read _ rfl (fun K hK => ?_); unfold rOp; go_simp; (refine hK _ ?_; clear hK K)
      refine wpTree_read _ rfl (fun K hK => ?_); unfold rOp; go_simp; (refine hK _ ?_; clear hK K)
      refine wpTree_act _ rfl ?_
      have hal : Below W6.heap.size W6 (W6.alloc (.cells #[.string ⟨#[]⟩, .slice none 0 0, .slice none 0 0, .slice none 0 0] 26)) := (Below.refl _ _).alloc (Nat.le_refl _) _
      have gz := World.alloc_heap_new W6 (.cells #[.string ⟨#[]⟩, .slice none 0 0, .slice none 0 0, .slice none 0 0] 26)
      have hsz : W6.heap.size < (W6.alloc (.cells #[.string ⟨#[]⟩, .slice none 0 0, .slice none 0 0, .slice none 0 0] 26)).heap.size := by simp
      have hdW7 := hdW6.trans (hal.mono hdW6.size)
      have hgI := hdW6.size
      replace hN := (hN.mono (rSl_ok rInt_ok) (S' := fun b => b < W6.heap.size) (fun _ _ h => h)).below (rSl_ok rInt_ok) hal
      go_wp2_with fail
      generalize W6.alloc (.cells #[.string ⟨#[]⟩, .slice none 0 0, .slice none 0 0, .slice none 0 0] 26) = W7 at *
      refine ⟨HS2.out _ hdW7, ?_⟩
      refine wpTree_act _ rfl ?_
      obtain ⟨z0, z1, z2, z3, zf⟩ := box_cells4 gz
      have zf0 := zf 0
      have zf1 := zf 1
      have zf2 := zf 2
      have zf3 := zf 3
      clear zf
      go_wp2_with fail
      change (∃ x, put4 W7 W6.heap.size (.string sec3) (.slice sa3 sn3 sc3) (.slice ta3 tn3 tc3) (.slice ca3 cn3 cc3) = Wf x) /\ wpTree _ _ _ _ _ _ _ (put4 W7 W6.heap.size (.string sec3) (.slice sa3 sn3 sc3) (.slice ta3 tn3 tc3) (.slice ca3 cn3 cc3))
      have hd9 : Below W3.heap.size W3 (put4 W7 W6.heap.size (.string sec3) (.slice sa3 sn3 sc3) (.slice ta3 tn3 tc3) (.slice ca3 cn3 cc3)) := put4_below hdW7 (by omega) _ _ _ _
      have hN9 := hN.keep (w' := put4 W7 W6.heap.size (.string sec3) (.slice sa3 sn3 sc3) (.slice ta3 tn3 tc3) (.slice ca3 cn3 cc3)) (rSl_ok rInt_ok) (put4_keep (by omega) _ _ _ _)
      have g9 := put4_at gz (.string sec3) (.slice sa3 sn3 sc3) (.slice ta3 tn3 tc3) (.slice ca3 cn3 cc3)
      obtain ⟨r0, r1, r2, r3, -⟩ := box_cells4 (put4_at gz (.string sec3) (.slice sa3 sn3 sc3) (.slice ta3 tn3 tc3) (.slice ca3 cn3 cc3))
      clear z0 z1 z2 z3 zf0 zf1 zf2 zf3 hN gz
      generalize put4 W7 W6.heap.size (.string sec3) (.slice sa3 sn3 sc3) (.slice ta3 tn3 tc3) (.slice ca3 cn3 cc3) = W9 at *
      refine ⟨HS2.out _ hd9, wpTree_fin ?_⟩
      replace o0 := clq hd9 o0; replace o1 := clq hd9 o1; replace o2 := clq hd9 o2; replace o3 := clq hd9 o3; replace o4 := clq hd9 o4
      have hO9 := hiq (hO3.below rOpn_ok hd9)
      replace hN9 := hiq (hN9.mono (rSl_ok rInt_ok) (fun _ _ _ => trivial) : Numss (fun _ => True) W9 ca3 cn3 cc3 _)
      have HB9 := hiq (HB.out.trans (hd9.mono HB.out.size))
      have hg9 : W6.heap.size < W9.heap.size := (Array.getElem?_eq_some_iff.1 g9).1
      clear hO3
      go_wp2_with fail
      obtain ⟨X', Wg, hX', hS1, hS2⟩ := family (fun W => Below W9.heap.size W9 W) W9 (Below.refl _ _)
      have HS3 := hiq hS2
      have q0 := fun x => clq (hS1 x) o0
      have q1 := fun x => clq (hS1 x) o1
      have q2 := fun x => clq (hS1 x) o2
      have q3 := fun x => clq (hS1 x) o3
      have q4 := fun x => clq (hS1 x) o4
      clear hS1 hS2
      have he0 : Below W9.heap.size W9 W9.drew := (Below.refl _ _).drew
      refine wp_region_tree (Wf := Wg) 7 (.read 1 (.act 0 (.act 2 (.read 3 (.read 4 (.read 5 (.read 6 .fin))))))) (by kernel_rfl) (by kernel_rfl) (fun _ _ d _ _ h => by cases d <;> exact h) (HS3.out _ he0) ?_
      refine wpTree_read _ rfl (fun K hK => ?_); unfold rOp; go_simp; (refine hK _ ?_; clear hK K)
      clear q0 q1 q2 q3 q4
      refine wpTree_act _ rfl ?_
      go_wp2_with fail
      refine (HS.out _).mono ?_
      rintro e V1 ⟨v, he, hR', hv1⟩
      have he1 := he0.trans (hv1.mono he0.size)
      have HDD := hiq (HD.out V1 v hR'.any (HE.out.below (HB9.out.trans (he1.mono HB9.out.size))))
      obtain ⟨sec4, sa4, sn4, sc4, ta4, tn4, tc4, ca4, cn4, cc4⟩ := v
      change e = .returned (.agg #[.string sec4, .slice sa4 sn4 sc4, .slice ta4 tn4 tc4, .slice ca4 cn4 cc4]) at he
      change Hid (Calls _ _ #[.agg #[.string sec4, .slice sa4 sn4 sc4, .slice ta4 tn4 tc4, .slice ca4 cn4 cc4], .agg #[.int .i64 3, .string ⟨#[66]⟩, .int .i64 0, .int .i64 1, .string ⟨#[]⟩]] V1 _) at HDD
      subst he
      clear hR'
      go_wp2_with fail
      refine ⟨HS3.out _ he1, ?_⟩
      refine wpTree_act _ rfl ?_
      go_wp2_with fail
      refine HDD.out.mono ?_
      rintro e V2 ⟨rfl, hv2⟩
      have he2 := he1.trans (hv2.mono he1.size)
      go_wp2_with fail
      refine ⟨HS3.out _ he2, ?_⟩
      refine wpTree_read _ rfl (fun K hK => ?_); unfold rOp; go_simp; (refine hK _ ?_; clear hK K)
      refine wpTree_read _ rfl (fun K hK => ?_); unfold rOp; go_simp; (refine hK _ ?_; clear hK K)
      refine wpTree_read _ rfl (fun K hK => ?_); unfold rOp; go_simp; (refine hK _ ?_; clear hK K)
      refine wpTree_read _ rfl (fun K hK => ?_); unfold rOp; go_simp; (refine hK _ ?_; clear hK K)
      refine wpTree_fin ?_
      replace o0 := clq he2 o0; replace o1 := clq he2 o1; replace o2 := clq he2 o2; replace o3 := clq he2 o3; replace o4 := clq he2 o4; replace r0 := clq he2 r0; replace r1 := clq he2 r1; replace r2 := clq he2 r2; replace r3 := clq he2 r3
      have hl3 : Below V2.heap.size V2 (V2.alloc (.cells #[.int .i64 2, .string ⟨#[65]⟩, .int .i64 0, .int .i64 0, .string ⟨#[]⟩, .int .i64 2, .string ⟨#[66]⟩, .int .i64 0, .int .i64 0, .string ⟨#[]⟩, .int .i64 3, .string ⟨#[66]⟩, .int .i64 0, .int .i64 1, .string ⟨#[]⟩] 28)) := (Below.refl _ _).alloc (Nat.le_refl _) _
      have he3 := he2.trans (hl3.mono he2.size)
      have hOV := hO9.out.below rOpn_ok he3
      have hZV : Opsq (fun _ => True) (V2.alloc (.cells #[.int .i64 2, .string ⟨#[65]⟩, .int .i64 0, .int .i64 0, .string ⟨#[]⟩, .int .i64 2, .string ⟨#[66]⟩, .int .i64 0, .int .i64 0, .string ⟨#[]⟩, .int .i64 3, .string ⟨#[66]⟩, .int .i64 0, .int .i64 1, .string ⟨#[]⟩] 28)) (some ⟨V2.heap.size, 0, none⟩) 3 3 [⟨2, bA, 0, 0, ⟨#[]⟩⟩, ⟨2, bB, 0, 0, ⟨#[]⟩⟩, shO] := Sq.lit #[.int .i64 2, .string ⟨#[65]⟩, .int .i64 0, .int .i64 0, .string ⟨#[]⟩, .int .i64 2, .string ⟨#[66]⟩, .int .i64 0, .int .i64 0, .string ⟨#[]⟩, .int .i64 3, .string ⟨#[66]⟩, .int .i64 0, .int .i64 1, .string ⟨#[]⟩] [⟨2, bA, 0, 0, ⟨#[]⟩⟩, ⟨2, bB, 0, 0, ⟨#[]⟩⟩, shO] Op.cells (World.alloc_heap_new V2 _) rfl op_len trivial (by decide) (fun x hx => ⟨rfl, by
        simp only [List.mem_cons, List.not_mem_nil, or_false] at hx
        rcases hx with rfl | rfl | rfl <;> (unfold Op.ok I64; decide)⟩)
      have HEQ := hiq (eqOps_any _ _ _ _ _ _ _ _ _ _ _ hOV hZV)
      rw [decide_eq_true rfl] at HEQ
      replace r0 := clq hl3 r0; replace r1 := clq hl3 r1; replace r2 := clq hl3 r2; replace r3 := clq hl3 r3
      clear hOV hZV HDD hv1 hv2
      go_wp2_with fail
      refine HEQ.out.mono ?_
      rintro e V4 ⟨rfl, hdr⟩
      have hv4 := hdr.below (V2.alloc (.cells #[.int .i64 2, .string ⟨#[65]⟩, .int .i64 0, .int .i64 0, .string ⟨#[]⟩, .int .i64 2, .string ⟨#[66]⟩, .int .i64 0, .int .i64 0, .string ⟨#[]⟩, .int .i64 3, .string ⟨#[66]⟩, .int .i64 0, .int .i64 1, .string ⟨#[]⟩] 28)).heap.size
      replace r3 := clq hv4 r3
      have he4 := he3.trans (hv4.mono he3.size)
      have hNV := hN9.out.below (rSl_ok rInt_ok) he4
      obtain ⟨VW, hVW, hbV, hsV, k1, k2, k3⟩ := box3w V4 #[.int .i64 0, .int .i64 (-1)] #[.int .i64 1, .int .i64 0] #[.slice (some ⟨V4.heap.size, 0, none⟩) 2 2, .slice (some ⟨V4.heap.size + 1, 0, none⟩) 2 2] 3 3 61
      have hC1 : Nums (fun _ => True) VW (some ⟨V4.heap.size, 0, none⟩) 2 2 [0, -1] := Sq.lit _ [0, -1] encI k1 rfl (fun _ => rfl) trivial (by simp) (fun x hx => ⟨rfl, by simp at hx; rcases hx with rfl | rfl <;> (unfold I64; decide)⟩)
      have hC2 : Nums (fun _ => True) VW (some ⟨V4.heap.size + 1, 0, none⟩) 2 2 [1, 0] := Sq.lit _ [1, 0] encI k2 rfl (fun _ => rfl) trivial (by simp) (fun x hx => ⟨rfl, by simp at hx; rcases hx with rfl | rfl <;> (unfold I64; decide)⟩)
      have HSC := hiq (sameColumns_ref _ _ _ _ _ _ _ _ _ _ VW (hNV.below (rSl_ok rInt_ok) hbV) (Sq.lit2 k3 trivial hC1 hC2))
      rw [decide_eq_true rfl, hVW] at HSC
      have hbf := HB9.out.trans ((he4.trans (hbV.mono he4.size)).mono HB9.out.size)
      rw [hVW] at hbf
      clear hC1 hC2 hNV k1 k2 k3 hVW hbV hsV
      go_wp2_with fail
      refine HSC.out.mono ?_
      rintro e V5 ⟨rfl, hdr5⟩
      have hbf5 := hbf.trans (hdr5.below _)
      go_wp2
      go_ret
      exact ⟨rfl, hbf5⟩
    · refine wpTree_act _ rfl ?_
      have hal : Below W5.heap.size W5 (W5.alloc (.cells #[.string ⟨#[]⟩, .slice none 0 0, .slice none 0 0, .slice none 0 0] 26)) := (Below.refl _ _).alloc (Nat.le_refl _) _
      have gz := World.alloc_heap_new W5 (.cells #[.string ⟨#[]⟩, .slice none 0 0, .slice none 0 0, .slice none 0 0] 26)
      have hsz : W5.heap.size < (W5.alloc (.cells #[.string ⟨#[]⟩, .slice none 0 0, .slice none 0 0, .slice none 0 0] 26)).heap.size := by simp
      have hdW6 := hdW5.trans (hal.mono hdW5.size)
      have hgI := hdW5.size
      replace hR := (hR.mono (S' := fun b => b < W5.heap.size) (fun _ _ h => h)).below hal
      go_wp2_with fail
      generalize W5.alloc (.cells #[.string ⟨#[]⟩, .slice none 0 0, .slice none 0 0, .slice none 0 0] 26) = W6 at *
      refine ⟨HS2.out _ hdW6, ?_⟩
      refine wpTree_act _ rfl ?_
      have HPP := hiq (HP.out _ W6 _ hR (HE.out.below (HB.out.trans (hdW6.mono HB.out.size))))
      change Hid (Calls _ _ #[.agg #[.string sec2, .slice sa2 sn2 sc2, .slice ta2 tn2 tc2, .slice ca2 cn2 cc2], .agg #[.int .i64 3, .string ⟨#[66]⟩, .int .i64 0, .int .i64 1, .string ⟨#[]⟩]] W6 _) at HPP
      go_wp2_with fail
      refine HPP.out.mono ?_
      rintro e W7 ⟨v', he, hN, hbW7⟩
      obtain ⟨sec3, sa3, sn3, sc3, ta3, tn3, tc3, ca3, cn3, cc3⟩ := v'
      change e = .returned (.tuple #[.agg #[.string sec3, .slice sa3 sn3 sc3, .slice ta3 tn3 tc3, .slice ca3 cn3 cc3], .int .i64 0]) at he
      subst he
      change Numss _ W7 ca3 cn3 cc3 _ at hN
      have hdW7 := hdW6.trans (hbW7.mono hdW6.size)
      go_wp2_with fail
      refine ⟨HS2.out _ hdW7, ?_⟩
      clear HPP
      replace gz := (hbW7.block _ (by omega)).trans gz
      refine wpTree_read _ rfl (fun K hK => ?_); unfold rOp; go_simp; (refine hK _ ?_; clear hK K)
      refine wpTree_read _ rfl (fun K hK => ?_); unfold rOp; go_simp; (refine hK _ ?_; clear hK K)
      refine wpTree_read _ rfl (fun K hK => ?_); unfold rOp; go_simp; (refine hK _ ?_; clear hK K)
      refine wpTree_act _ rfl ?_
      obtain ⟨z0, z1, z2, z3, zf⟩ := box_cells4 gz
      have zf0 := zf 0
      have zf1 := zf 1
      have zf2 := zf 2
      have zf3 := zf 3
      clear zf
      go_wp2_with fail
      change (∃ x, put4 W7 W5.heap.size (.string sec3) (.slice sa3 sn3 sc3) (.slice ta3 tn3 tc3) (.slice ca3 cn3 cc3) = Wf x) /\ wpTree _ _ _ _ _ _ _ (put4 W7 W5.heap.size (.string sec3) (.slice sa3 sn3 sc3) (.slice ta3 tn3 tc3) (.slice ca3 cn3 cc3))
      have hd9 : Below W3.heap.size W3 (put4 W7 W5.heap.size (.string sec3) (.slice sa3 sn3 sc3) (.slice ta3 tn3 tc3) (.slice ca3 cn3 cc3)) := put4_below hdW7 (by omega) _ _ _ _
      have hN9 := hN.keep (w' := put4 W7 W5.heap.size (.string sec3) (.slice sa3 sn3 sc3) (.slice ta3 tn3 tc3) (.slice ca3 cn3 cc3)) (rSl_ok rInt_ok) (put4_keep (by rintro (q | q) <;> omega) _ _ _ _)
      have g9 := put4_at gz (.string sec3) (.slice sa3 sn3 sc3) (.slice ta3 tn3 tc3) (.slice ca3 cn3 cc3)
      obtain ⟨r0, r1, r2, r3, -⟩ := box_cells4 (put4_at gz (.string sec3) (.slice sa3 sn3 sc3) (.slice ta3 tn3 tc3) (.slice ca3 cn3 cc3))
      clear z0 z1 z2 z3 zf0 zf1 zf2 zf3 hN gz
      generalize put4 W7 W5.heap.size (.string sec3) (.slice sa3 sn3 sc3) (.slice ta3 tn3 tc3) (.slice ca3 cn3 cc3) = W9 at *
      refine ⟨HS2.out _ hd9, wpTree_fin ?_⟩
      replace o0 := clq hd9 o0; replace o1 := clq hd9 o1; replace o2 := clq hd9 o2; replace o3 := clq hd9 o3; replace o4 := clq hd9 o4
      have hO9 := hiq (hO3.below rOpn_ok hd9)
      replace hN9 := hiq (hN9.mono (rSl_ok rInt_ok) (fun _ _ _ => trivial) : Numss (fun _ => True) W9 ca3 cn3 cc3 _)
      have HB9 := hiq (HB.out.trans (hd9.mono HB.out.size))
      have hg9 : W5.heap.size < W9.heap.size := (Array.getElem?_eq_some_iff.1 g9).1
      clear hO3
      go_wp2_with fail
      obtain ⟨X', Wg, hX', hS1, hS2⟩ := family (fun W => Below W9.heap.size W9 W) W9 (Below.refl _ _)
      have HS3 := hiq hS2
      have q0 := fun x => clq (hS1 x) o0
      have q1 := fun x => clq (hS1 x) o1
      have q2 := fun x => clq (hS1 x) o2
      have q3 := fun x => clq (hS1 x) o3
      have q4 := fun x => clq (hS1 x) o4
      clear hS1 hS2
      have he0 : Below W9.heap.size W9 W9.drew := (Below.refl _ _).drew
      refine wp_region_tree (Wf := Wg) 7 (.read 1 (.act 0 (.act 2 (.read 3 (.read 4 (.read 5 (.read 6 .fin))))))) (by kernel_rfl) (by kernel_rfl) (fun _ _ d _ _ h => by cases d <;> exact h) (HS3.out _ he0) ?_
      refine wpTree_read _ rfl (fun K hK => ?_); unfold rOp; go_simp; (refine hK _ ?_; clear hK K)
      clear q0 q1 q2 q3 q4
      refine wpTree_act _ rfl ?_
      go_wp2_with fail
      refine (HS.out _).mono ?_
      rintro e V1 ⟨v, he, hR', hv1⟩
      have he1 := he0.trans (hv1.mono he0.size)
      have HDD := hiq (HD.out V1 v hR'.any (HE.out.below (HB9.out.trans (he1.mono HB9.out.size))))
      obtain ⟨sec4, sa4, sn4, sc4, ta4, tn4, tc4, ca4, cn4, cc4⟩ := v
      change e = .returned (.agg #[.string sec4, .slice sa4 sn4 sc4, .slice ta4 tn4 tc4, .slice ca4 cn4 cc4]) at he
      change Hid (Calls _ _ #[.agg #[.string sec4, .slice sa4 sn4 sc4, .slice ta4 tn4 tc4, .slice ca4 cn4 cc4], .agg #[.int .i64 3, .string ⟨#[66]⟩, .int .i64 0, .int .i64 1, .string ⟨#[]⟩]] V1 _) at HDD
      subst he
      clear hR'
      go_wp2_with fail
      refine ⟨HS3.out _ he1, ?_⟩
      refine wpTree_act _ rfl ?_
      go_wp2_with fail
      refine HDD.out.mono ?_
      rintro e V2 ⟨rfl, hv2⟩
      have he2 := he1.trans (hv2.mono he1.size)
      go_wp2_with fail
      refine ⟨HS3.out _ he2, ?_⟩
      refine wpTree_read _ rfl (fun K hK => ?_); unfold rOp; go_simp; (refine hK _ ?_; clear hK K)
      refine wpTree_read _ rfl (fun K hK => ?_); unfold rOp; go_simp; (refine hK _ ?_; clear hK K)
      refine wpTree_read _ rfl (fun K hK => ?_); unfold rOp; go_simp; (refine hK _ ?_; clear hK K)
      refine wpTree_read _ rfl (fun K hK => ?_); unfold rOp; go_simp; (refine hK _ ?_; clear hK K)
      refine wpTree_fin ?_
      replace o0 := clq he2 o0; replace o1 := clq he2 o1; replace o2 := clq he2 o2; replace o3 := clq he2 o3; replace o4 := clq he2 o4; replace r0 := clq he2 r0; replace r1 := clq he2 r1; replace r2 := clq he2 r2; replace r3 := clq he2 r3
      have hl3 : Below V2.heap.size V2 (V2.alloc (.cells #[.int .i64 2, .string ⟨#[65]⟩, .int .i64 0, .int .i64 0, .string ⟨#[]⟩, .int .i64 2, .string ⟨#[66]⟩, .int .i64 0, .int .i64 0, .string ⟨#[]⟩, .int .i64 3, .string ⟨#[66]⟩, .int .i64 0, .int .i64 1, .string ⟨#[]⟩] 28)) := (Below.refl _ _).alloc (Nat.le_refl _) _
      have he3 := he2.trans (hl3.mono he2.size)
      have hOV := hO9.out.below rOpn_ok he3
      have hZV : Opsq (fun _ => True) (V2.alloc (.cells #[.int .i64 2, .string ⟨#[65]⟩, .int .i64 0, .int .i64 0, .string ⟨#[]⟩, .int .i64 2, .string ⟨#[66]⟩, .int .i64 0, .int .i64 0, .string ⟨#[]⟩, .int .i64 3, .string ⟨#[66]⟩, .int .i64 0, .int .i64 1, .string ⟨#[]⟩] 28)) (some ⟨V2.heap.size, 0, none⟩) 3 3 [⟨2, bA, 0, 0, ⟨#[]⟩⟩, ⟨2, bB, 0, 0, ⟨#[]⟩⟩, shO] := Sq.lit #[.int .i64 2, .string ⟨#[65]⟩, .int .i64 0, .int .i64 0, .string ⟨#[]⟩, .int .i64 2, .string ⟨#[66]⟩, .int .i64 0, .int .i64 0, .string ⟨#[]⟩, .int .i64 3, .string ⟨#[66]⟩, .int .i64 0, .int .i64 1, .string ⟨#[]⟩] [⟨2, bA, 0, 0, ⟨#[]⟩⟩, ⟨2, bB, 0, 0, ⟨#[]⟩⟩, shO] Op.cells (World.alloc_heap_new V2 _) rfl op_len trivial (by decide) (fun x hx => ⟨rfl, by
        simp only [List.mem_cons, List.not_mem_nil, or_false] at hx
        rcases hx with rfl | rfl | rfl <;> (unfold Op.ok I64; decide)⟩)
      have HEQ := hiq (eqOps_any _ _ _ _ _ _ _ _ _ _ _ hOV hZV)
      rw [decide_eq_true rfl] at HEQ
      replace r0 := clq hl3 r0; replace r1 := clq hl3 r1; replace r2 := clq hl3 r2; replace r3 := clq hl3 r3
      clear hOV hZV HDD hv1 hv2
      go_wp2_with fail
      refine HEQ.out.mono ?_
      rintro e V4 ⟨rfl, hdr⟩
      have hv4 := hdr.below (V2.alloc (.cells #[.int .i64 2, .string ⟨#[65]⟩, .int .i64 0, .int .i64 0, .string ⟨#[]⟩, .int .i64 2, .string ⟨#[66]⟩, .int .i64 0, .int .i64 0, .string ⟨#[]⟩, .int .i64 3, .string ⟨#[66]⟩, .int .i64 0, .int .i64 1, .string ⟨#[]⟩] 28)).heap.size
      replace r3 := clq hv4 r3
      have he4 := he3.trans (hv4.mono he3.size)
      have hNV := hN9.out.below (rSl_ok rInt_ok) he4
      obtain ⟨VW, hVW, hbV, hsV, k1, k2, k3⟩ := box3w V4 #[.int .i64 0, .int .i64 (-1)] #[.int .i64 1, .int .i64 0] #[.slice (some ⟨V4.heap.size, 0, none⟩) 2 2, .slice (some ⟨V4.heap.size + 1, 0, none⟩) 2 2] 3 3 61
      have hC1 : Nums (fun _ => True) VW (some ⟨V4.heap.size, 0, none⟩) 2 2 [0, -1] := Sq.lit _ [0, -1] encI k1 rfl (fun _ => rfl) trivial (by simp) (fun x hx => ⟨rfl, by simp at hx; rcases hx with rfl | rfl <;> (unfold I64; decide)⟩)
      have hC2 : Nums (fun _ => True) VW (some ⟨V4.heap.size + 1, 0, none⟩) 2 2 [1, 0] := Sq.lit _ [1, 0] encI k2 rfl (fun _ => rfl) trivial (by simp) (fun x hx => ⟨rfl, by simp at hx; rcases hx with rfl | rfl <;> (unfold I64; decide)⟩)
      have HSC := hiq (sameColumns_ref _ _ _ _ _ _ _ _ _ _ VW (hNV.below (rSl_ok rInt_ok) hbV) (Sq.lit2 k3 trivial hC1 hC2))
      rw [decide_eq_true rfl, hVW] at HSC
      have hbf := HB9.out.trans ((he4.trans (hbV.mono he4.size)).mono HB9.out.size)
      rw [hVW] at hbf
      clear hC1 hC2 hNV k1 k2 k3 hVW hbV hsV
      go_wp2_with fail
      refine HSC.out.mono ?_
      rintro e V5 ⟨rfl, hdr5⟩
      have hbf5 := hbf.trans (hdr5.below _)
      go_wp2
      go_ret
      exact ⟨rfl, hbf5⟩
  · refine wpTree_act _ rfl ?_
    have hal : Below W4.heap.size W4 (W4.alloc (.cells #[.string ⟨#[]⟩, .slice none 0 0, .slice none 0 0, .slice none 0 0] 26)) := (Below.refl _ _).alloc (Nat.le_refl _) _
    have gz := World.alloc_heap_new W4 (.cells #[.string ⟨#[]⟩, .slice none 0 0, .slice none 0 0, .slice none 0 0] 26)
    have hsz : W4.heap.size < (W4.alloc (.cells #[.string ⟨#[]⟩, .slice none 0 0, .slice none 0 0, .slice none 0 0] 26)).heap.size := by simp
    have hdW5 := hd4.trans (hal.mono hd4.size)
    have hgI := hd4.size
    go_wp2_with fail
    generalize W4.alloc (.cells #[.string ⟨#[]⟩, .slice none 0 0, .slice none 0 0, .slice none 0 0] 26) = W5 at *
    refine ⟨HS2.out _ hdW5, ?_⟩
    refine wpTree_act _ rfl ?_
    go_wp2_with fail
    refine (HS.out _).mono ?_
    rintro e W6 ⟨v, he, hR, hbW6⟩
    obtain ⟨sec2, sa2, sn2, sc2, ta2, tn2, tc2, ca2, cn2, cc2⟩ := v
    change e = .returned (.agg #[.string sec2, .slice sa2 sn2 sc2, .slice ta2 tn2 tc2, .slice ca2 cn2 cc2]) at he
    subst he
    have hdW6 := hdW5.trans (hbW6.mono hdW5.size)
    go_wp2_with fail
    refine ⟨HS2.out _ hdW6, ?_⟩
    have hgS := hbW6.size
    replace gz := (hbW6.block _ (by omega)).trans gz
    refine wpTree_act _ rfl ?_
    have HPP := hiq (HP.out _ W6 _ hR (HE.out.below (HB.out.trans (hdW6.mono HB.out.size))))
    change Hid (Calls _ _ #[.agg #[.string sec2, .slice sa2 sn2 sc2, .slice ta2 tn2 tc2, .slice ca2 cn2 cc2], .agg #[.int .i64 3, .string ⟨#[66]⟩, .int .i64 0, .int .i64 1, .string ⟨#[]⟩]] W6 _) at HPP
    go_wp2_with fail
    refine HPP.out.mono ?_
    rintro e W7 ⟨v', he, hN, hbW7⟩
    obtain ⟨sec3, sa3, sn3, sc3, ta3, tn3, tc3, ca3, cn3, cc3⟩ := v'
    change e = .returned (.tuple #[.agg #[.string sec3, .slice sa3 sn3 sc3, .slice ta3 tn3 tc3, .slice ca3 cn3 cc3], .int .i64 0]) at he
    subst he
    change Numss _ W7 ca3 cn3 cc3 _ at hN
    have hdW7 := hdW6.trans (hbW7.mono hdW6.size)
    go_wp2_with fail
    refine ⟨HS2.out _ hdW7, ?_⟩
    clear HPP
    replace gz := (hbW7.block _ (by omega)).trans gz
    refine wpTree_read _ rfl (fun K hK => ?_); unfold rOp; go_simp; (refine hK _ ?_; clear hK K)
    refine wpTree_read _ rfl (fun K hK => ?_); unfold rOp; go_simp; (refine hK _ ?_; clear hK K)
    refine wpTree_read _ rfl (fun K hK => ?_); unfold rOp; go_simp; (refine hK _ ?_; clear hK K)
    refine wpTree_act _ rfl ?_
    obtain ⟨z0, z1, z2, z3, zf⟩ := box_cells4 gz
    have zf0 := zf 0
    have zf1 := zf 1
    have zf2 := zf 2
    have zf3 := zf 3
    clear zf
    go_wp2_with fail
    change (∃ x, put4 W7 W4.heap.size (.string sec3) (.slice sa3 sn3 sc3) (.slice ta3 tn3 tc3) (.slice ca3 cn3 cc3) = Wf x) /\ wpTree _ _ _ _ _ _ _ (put4 W7 W4.heap.size (.string sec3) (.slice sa3 sn3 sc3) (.slice ta3 tn3 tc3) (.slice ca3 cn3 cc3))
    have hd9 : Below W3.heap.size W3 (put4 W7 W4.heap.size (.string sec3) (.slice sa3 sn3 sc3) (.slice ta3 tn3 tc3) (.slice ca3 cn3 cc3)) := put4_below hdW7 (by omega) _ _ _ _
    have hN9 := hN.keep (w' := put4 W7 W4.heap.size (.string sec3) (.slice sa3 sn3 sc3) (.slice ta3 tn3 tc3) (.slice ca3 cn3 cc3)) (rSl_ok rInt_ok) (put4_keep (by rintro (q | q) <;> omega) _ _ _ _)
    have g9 := put4_at gz (.string sec3) (.slice sa3 sn3 sc3) (.slice ta3 tn3 tc3) (.slice ca3 cn3 cc3)
    obtain ⟨r0, r1, r2, r3, -⟩ := box_cells4 (put4_at gz (.string sec3) (.slice sa3 sn3 sc3) (.slice ta3 tn3 tc3) (.slice ca3 cn3 cc3))
    clear z0 z1 z2 z3 zf0 zf1 zf2 zf3 hN gz
    generalize put4 W7 W4.heap.size (.string sec3) (.slice sa3 sn3 sc3) (.slice ta3 tn3 tc3) (.slice ca3 cn3 cc3) = W9 at *
    refine ⟨HS2.out _ hd9, wpTree_fin ?_⟩
    replace o0 := clq hd9 o0; replace o1 := clq hd9 o1; replace o2 := clq hd9 o2; replace o3 := clq hd9 o3; replace o4 := clq hd9 o4
    have hO9 := hiq (hO3.below rOpn_ok hd9)
    replace hN9 := hiq (hN9.mono (rSl_ok rInt_ok) (fun _ _ _ => trivial) : Numss (fun _ => True) W9 ca3 cn3 cc3 _)
    have HB9 := hiq (HB.out.trans (hd9.mono HB.out.size))
    have hg9 : W4.heap.size < W9.heap.size := (Array.getElem?_eq_some_iff.1 g9).1
    clear hO3
    go_wp2_with fail
    obtain ⟨X', Wg, hX', hS1, hS2⟩ := family (fun W => Below W9.heap.size W9 W) W9 (Below.refl _ _)
    have HS3 := hiq hS2
    have q0 := fun x => clq (hS1 x) o0
    have q1 := fun x => clq (hS1 x) o1
    have q2 := fun x => clq (hS1 x) o2
    have q3 := fun x => clq (hS1 x) o3
    have q4 := fun x => clq (hS1 x) o4
    clear hS1 hS2
    have he0 : Below W9.heap.size W9 W9.drew := (Below.refl _ _).drew
    refine wp_region_tree (Wf := Wg) 7 (.read 1 (.act 0 (.act 2 (.read 3 (.read 4 (.read 5 (.read 6 .fin))))))) (by kernel_rfl) (by kernel_rfl) (fun _ _ d _ _ h => by cases d <;> exact h) (HS3.out _ he0) ?_
    refine wpTree_read _ rfl (fun K hK => ?_); unfold rOp; go_simp; (refine hK _ ?_; clear hK K)
    clear q0 q1 q2 q3 q4
    refine wpTree_act _ rfl ?_
    go_wp2_with fail
    refine (HS.out _).mono ?_
    rintro e V1 ⟨v, he, hR', hv1⟩
    have he1 := he0.trans (hv1.mono he0.size)
    have HDD := hiq (HD.out V1 v hR'.any (HE.out.below (HB9.out.trans (he1.mono HB9.out.size))))
    obtain ⟨sec4, sa4, sn4, sc4, ta4, tn4, tc4, ca4, cn4, cc4⟩ := v
    change e = .returned (.agg #[.string sec4, .slice sa4 sn4 sc4, .slice ta4 tn4 tc4, .slice ca4 cn4 cc4]) at he
    change Hid (Calls _ _ #[.agg #[.string sec4, .slice sa4 sn4 sc4, .slice ta4 tn4 tc4, .slice ca4 cn4 cc4], .agg #[.int .i64 3, .string ⟨#[66]⟩, .int .i64 0, .int .i64 1, .string ⟨#[]⟩]] V1 _) at HDD
    subst he
    clear hR'
    go_wp2_with fail
    refine ⟨HS3.out _ he1, ?_⟩
    refine wpTree_act _ rfl ?_
    go_wp2_with fail
    refine HDD.out.mono ?_
    rintro e V2 ⟨rfl, hv2⟩
    have he2 := he1.trans (hv2.mono he1.size)
    go_wp2_with fail
    refine ⟨HS3.out _ he2, ?_⟩
    refine wpTree_read _ rfl (fun K hK => ?_); unfold rOp; go_simp; (refine hK _ ?_; clear hK K)
    refine wpTree_read _ rfl (fun K hK => ?_); unfold rOp; go_simp; (refine hK _ ?_; clear hK K)
    refine wpTree_read _ rfl (fun K hK => ?_); unfold rOp; go_simp; (refine hK _ ?_; clear hK K)
    refine wpTree_read _ rfl (fun K hK => ?_); unfold rOp; go_simp; (refine hK _ ?_; clear hK K)
    refine wpTree_fin ?_
    replace o0 := clq he2 o0; replace o1 := clq he2 o1; replace o2 := clq he2 o2; replace o3 := clq he2 o3; replace o4 := clq he2 o4; replace r0 := clq he2 r0; replace r1 := clq he2 r1; replace r2 := clq he2 r2; replace r3 := clq he2 r3
    have hl3 : Below V2.heap.size V2 (V2.alloc (.cells #[.int .i64 2, .string ⟨#[65]⟩, .int .i64 0, .int .i64 0, .string ⟨#[]⟩, .int .i64 2, .string ⟨#[66]⟩, .int .i64 0, .int .i64 0, .string ⟨#[]⟩, .int .i64 3, .string ⟨#[66]⟩, .int .i64 0, .int .i64 1, .string ⟨#[]⟩] 28)) := (Below.refl _ _).alloc (Nat.le_refl _) _
    have he3 := he2.trans (hl3.mono he2.size)
    have hOV := hO9.out.below rOpn_ok he3
    have hZV : Opsq (fun _ => True) (V2.alloc (.cells #[.int .i64 2, .string ⟨#[65]⟩, .int .i64 0, .int .i64 0, .string ⟨#[]⟩, .int .i64 2, .string ⟨#[66]⟩, .int .i64 0, .int .i64 0, .string ⟨#[]⟩, .int .i64 3, .string ⟨#[66]⟩, .int .i64 0, .int .i64 1, .string ⟨#[]⟩] 28)) (some ⟨V2.heap.size, 0, none⟩) 3 3 [⟨2, bA, 0, 0, ⟨#[]⟩⟩, ⟨2, bB, 0, 0, ⟨#[]⟩⟩, shO] := Sq.lit #[.int .i64 2, .string ⟨#[65]⟩, .int .i64 0, .int .i64 0, .string ⟨#[]⟩, .int .i64 2, .string ⟨#[66]⟩, .int .i64 0, .int .i64 0, .string ⟨#[]⟩, .int .i64 3, .string ⟨#[66]⟩, .int .i64 0, .int .i64 1, .string ⟨#[]⟩] [⟨2, bA, 0, 0, ⟨#[]⟩⟩, ⟨2, bB, 0, 0, ⟨#[]⟩⟩, shO] Op.cells (World.alloc_heap_new V2 _) rfl op_len trivial (by decide) (fun x hx => ⟨rfl, by
      simp only [List.mem_cons, List.not_mem_nil, or_false] at hx
      rcases hx with rfl | rfl | rfl <;> (unfold Op.ok I64; decide)⟩)
    have HEQ := hiq (eqOps_any _ _ _ _ _ _ _ _ _ _ _ hOV hZV)
    rw [decide_eq_true rfl] at HEQ
    replace r0 := clq hl3 r0; replace r1 := clq hl3 r1; replace r2 := clq hl3 r2; replace r3 := clq hl3 r3
    clear hOV hZV HDD hv1 hv2
    go_wp2_with fail
    refine HEQ.out.mono ?_
    rintro e V4 ⟨rfl, hdr⟩
    have hv4 := hdr.below (V2.alloc (.cells #[.int .i64 2, .string ⟨#[65]⟩, .int .i64 0, .int .i64 0, .string ⟨#[]⟩, .int .i64 2, .string ⟨#[66]⟩, .int .i64 0, .int .i64 0, .string ⟨#[]⟩, .int .i64 3, .string ⟨#[66]⟩, .int .i64 0, .int .i64 1, .string ⟨#[]⟩] 28)).heap.size
    replace r3 := clq hv4 r3
    have he4 := he3.trans (hv4.mono he3.size)
    have hNV := hN9.out.below (rSl_ok rInt_ok) he4
    obtain ⟨VW, hVW, hbV, hsV, k1, k2, k3⟩ := box3w V4 #[.int .i64 0, .int .i64 (-1)] #[.int .i64 1, .int .i64 0] #[.slice (some ⟨V4.heap.size, 0, none⟩) 2 2, .slice (some ⟨V4.heap.size + 1, 0, none⟩) 2 2] 3 3 61
    have hC1 : Nums (fun _ => True) VW (some ⟨V4.heap.size, 0, none⟩) 2 2 [0, -1] := Sq.lit _ [0, -1] encI k1 rfl (fun _ => rfl) trivial (by simp) (fun x hx => ⟨rfl, by simp at hx; rcases hx with rfl | rfl <;> (unfold I64; decide)⟩)
    have hC2 : Nums (fun _ => True) VW (some ⟨V4.heap.size + 1, 0, none⟩) 2 2 [1, 0] := Sq.lit _ [1, 0] encI k2 rfl (fun _ => rfl) trivial (by simp) (fun x hx => ⟨rfl, by simp at hx; rcases hx with rfl | rfl <;> (unfold I64; decide)⟩)
    have HSC := hiq (sameColumns_ref _ _ _ _ _ _ _ _ _ _ VW (hNV.below (rSl_ok rInt_ok) hbV) (Sq.lit2 k3 trivial hC1 hC2))
    rw [decide_eq_true rfl, hVW] at HSC
    have hbf := HB9.out.trans ((he4.trans (hbV.mono he4.size)).mono HB9.out.size)
    rw [hVW] at hbf
    clear hC1 hC2 hNV k1 k2 k3 hVW hbV hsV
    go_wp2_with fail
    refine HSC.out.mono ?_
    rintro e V5 ⟨rfl, hdr5⟩
    have hbf5 := hbf.trans (hdr5.below _)
    go_wp2
    go_ret
    exact ⟨rfl, hbf5⟩
end Go.Proofs.YtbdgmgddliploaaGreatDoor
