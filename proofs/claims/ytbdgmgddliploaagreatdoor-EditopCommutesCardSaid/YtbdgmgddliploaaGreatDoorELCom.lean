/- The law EditopCommutes (printed by gen_elaw.py). -/
import Derived.Test.YtbdgmgddliploaaGreatDoorECom
import Derived.Test.YtbdgmgddliploaaGreatDoorEAwl
set_option linter.unusedVariables false
set_option linter.unusedSimpArgs false
namespace Go.Proofs.YtbdgmgddliploaaGreatDoor
open Go.RowKit

theorem commute_facts (x : Col) (a b : Op) : (commute x a b).1 = (commute x b a).1 ∧ decide ((commute x a b).2 = 0) = decide ((commute x b a).2 = 0) ∧ ((commute x a b).2 ≠ 0 → (commute x a b).2 = opErr x a ∨ (commute x a b).2 = opErr x b) ∧
    ((commute x a b).2 = 0 → opErr x a = 0 ∧ opErr x b = 0 ∧ (commute x a b).1 = (decide (opErr (opApply x a) b = 0) && decide (opErr (opApply x b) a = 0) && decide (opApply (opApply x a) b = opApply (opApply x b) a))) := by
  refine ⟨commute_comm x a b, decide_eq_decide.2 ?_, fun h => ?_, fun h => ?_⟩
  · rw [commute_err, commute_err]; exact And.comm
  · unfold commute at h ⊢
    by_cases h1 : opErr x a = 0
    · by_cases h2 : opErr x b = 0
      · rw [if_neg (by simp [h1]), if_neg (by simp [h2])] at h; exact absurd rfl h
      · rw [if_neg (by simp [h1]), if_pos h2]; exact .inr rfl
    · rw [if_pos h1]; exact .inl rfl
  · obtain ⟨h1, h2⟩ := commute_err.1 h
    refine ⟨h1, h2, ?_⟩
    unfold commute
    rw [if_neg (by simp [h1]), if_neg (by simp [h2])]
set_option maxRecDepth 100000 in
set_option maxHeartbeats 16000000 in
theorem commutes_law (S : Nat → Prop) (v : CV) (x : Col) (a b : Op) (w : World) (h : RdC S w v x) (hE : Env w) (ha : a.ok) (hb : b.ok) : Calls Tryz.prog 9 #[v.val, a.val, b.val] w fun e w' => e = .returned (.bool true) ∧ Below w.heap.size w w' := by
  have HAW : Hid (∀ W, Below w.heap.size w W → Calls Tryz.prog 13 #[] W fun e w' => e = .returned (.bool true) ∧ Below W.heap.size W w') := fun W hb => awake_any W (hE.below hb)
  have hX : fine x [a, b] = true → Sml x ∧ a.text.size ≤ 1000000 ∧ b.text.size ≤ 1000000 := fun hf => ⟨(fine_true hf).1, (fine_op hf (by simp)).2, (fine_op hf (by simp)).2⟩
  have HC1 : Hid (fine x [a, b] = true → ∀ W, Below w.heap.size w W → Calls Tryz.prog 31 #[v.val, a.val, b.val] W fun e w' => e = .returned (.tuple #[.bool (commute x a b).1, .int .i64 (commute x a b).2]) ∧ Below W.heap.size W w') := fun hf W hbW => commute_any S v x a b W (h.below hbW) (hX hf).1 (hE.below hbW) ha hb (hX hf).2.1 (hX hf).2.2
  have HC2 : Hid (fine x [a, b] = true → ∀ W, Below w.heap.size w W → Calls Tryz.prog 31 #[v.val, b.val, a.val] W fun e w' => e = .returned (.tuple #[.bool (commute x b a).1, .int .i64 (commute x b a).2]) ∧ Below W.heap.size W w') := fun hf W hbW => commute_any S v x b a W (h.below hbW) (hX hf).1 (hE.below hbW) hb ha (hX hf).2.2 (hX hf).2.1
  have HKA : Hid (fine x [a, b] = true → ∀ W, Below w.heap.size w W → Calls Tryz.prog 18 #[v.val, a.val] W fun e w' => e = .returned (.int .i64 (opErr x a)) ∧ Below W.heap.size W w') := fun hf W hbW => echeck_any S v x a W (h.below hbW) (hX hf).1 (hE.below hbW) ha (hX hf).2.1
  have HKB : Hid (fine x [a, b] = true → ∀ W, Below w.heap.size w W → Calls Tryz.prog 18 #[v.val, b.val] W fun e w' => e = .returned (.int .i64 (opErr x b)) ∧ Below W.heap.size W w') := fun hf W hbW => echeck_any S v x b W (h.below hbW) (hX hf).1 (hE.below hbW) hb (hX hf).2.2
  have HPA : Hid (fine x [a, b] = true → ∀ W, Below w.heap.size w W → Calls Tryz.prog 14 #[v.val, a.val] W (EditPost S x a W)) := fun hf W hbW => edit_any S v x a W (h.below hbW) (hX hf).1 (hE.below hbW) ha (hX hf).2.1
  have HPB : Hid (fine x [a, b] = true → ∀ W, Below w.heap.size w W → Calls Tryz.prog 14 #[v.val, b.val] W (EditPost S x b W)) := fun hf W hbW => edit_any S v x b W (h.below hbW) (hX hf).1 (hE.below hbW) hb (hX hf).2.2
  have HQA : Hid (fine x [a, b] = true → ∀ (T : Nat → Prop) (u : CV) W, Below w.heap.size w W → RdC T W u (opApply x a) → Calls Tryz.prog 14 #[u.val, b.val] W (EditPost T (opApply x a) b W)) := fun hf T u W hbW hu => edit_any T u _ b W hu (sml_op (hX hf).1 (hX hf).2.1) (hE.below hbW) hb (hX hf).2.2
  have HQB : Hid (fine x [a, b] = true → ∀ (T : Nat → Prop) (u : CV) W, Below w.heap.size w W → RdC T W u (opApply x b) → Calls Tryz.prog 14 #[u.val, a.val] W (EditPost T (opApply x b) a W)) := fun hf T u W hbW hu => edit_any T u _ a W hu (sml_op (hX hf).1 (hX hf).2.2) (hE.below hbW) ha (hX hf).2.1
  have HF : Hid (∀ W j, Below w.heap.size w W → W.heap[j]? = some (.cells #[.int .i64 a.kind, .string a.sig, .int .i64 a.tok, .int .i64 a.other, .string a.text, .int .i64 b.kind, .string b.sig, .int .i64 b.tok, .int .i64 b.other, .string b.text] 28 (0, 0)) → Calls Tryz.prog 21 #[v.val, .slice (some ⟨j, 0, none⟩) 2 2] W fun e w' => e = .returned (.bool (fine x [a, b])) ∧ Below W.heap.size W w') := fun W j hbW hg =>
    fine_any S (fun _ => True) v x _ 2 2 [a, b] W (h.below hbW) (Sq.lit #[.int .i64 a.kind, .string a.sig, .int .i64 a.tok, .int .i64 a.other, .string a.text, .int .i64 b.kind, .string b.sig, .int .i64 b.tok, .int .i64 b.other, .string b.text] [a, b] Op.cells hg rfl op_len trivial (by simp) (fun y hy => ⟨rfl, by simp at hy; rcases hy with rfl | rfl <;> assumption⟩))
  have HFA := Lib.hid (commute_facts x a b)
  clear hX
  unfold EditPost at HPA HPB HQA HQB
  generalize fine x [a, b] = FB at *
  generalize commute x a b = R1 at *
  generalize commute x b a = R2 at *
  generalize opApply x a = Y at *
  generalize opApply x b = Z at *
  generalize opErr x a = EA at *
  generalize opErr x b = EB at *
  generalize opErr Y b = GU at *
  generalize opErr Z a = GV at *
  generalize opApply Y b = U at *
  generalize opApply Z a = V at *
  clear h hE ha hb
  obtain ⟨IS, E1⟩ := R1
  obtain ⟨TOO, E2⟩ := R2
  dsimp only at HC1 HC2 HFA
  obtain ⟨f1, f2, f3, f4⟩ := HFA.out
  subst f1
  clear HFA
  have F3 := Lib.hid f3
  have F4 := Lib.hid f4
  clear f3 f4
  obtain ⟨sec, sa, sn, sc, ta, tn, tc, ca, cn, cc⟩ := v
  obtain ⟨a1, a2, a3, a4, a5⟩ := a
  obtain ⟨b1, b2, b3, b4, b5⟩ := b
  change Calls _ _ #[.agg #[.string sec, .slice sa sn sc, .slice ta tn tc, .slice ca cn cc], .agg #[.int .i64 a1, .string a2, .int .i64 a3, .int .i64 a4, .string a5], .agg #[.int .i64 b1, .string b2, .int .i64 b3, .int .i64 b4, .string b5]] _ _
  change Hid (∀ (W : World) (j : Nat), _ → _ → Calls _ _ #[.agg #[.string sec, .slice sa sn sc, .slice ta tn tc, .slice ca cn cc], _] _ _) at HF
  dsimp only at HF
  change Hid (_ → ∀ W, _ → Calls _ _ #[.agg #[.string sec, .slice sa sn sc, .slice ta tn tc, .slice ca cn cc], .agg #[.int .i64 a1, .string a2, .int .i64 a3, .int .i64 a4, .string a5], .agg #[.int .i64 b1, .string b2, .int .i64 b3, .int .i64 b4, .string b5]] _ _) at HC1
  change Hid (_ → ∀ W, _ → Calls _ _ #[.agg #[.string sec, .slice sa sn sc, .slice ta tn tc, .slice ca cn cc], .agg #[.int .i64 b1, .string b2, .int .i64 b3, .int .i64 b4, .string b5], .agg #[.int .i64 a1, .string a2, .int .i64 a3, .int .i64 a4, .string a5]] _ _) at HC2
  change Hid (_ → ∀ W, _ → Calls _ _ #[.agg #[.string sec, .slice sa sn sc, .slice ta tn tc, .slice ca cn cc], .agg #[.int .i64 a1, .string a2, .int .i64 a3, .int .i64 a4, .string a5]] _ _) at HKA HPA
  change Hid (_ → ∀ W, _ → Calls _ _ #[.agg #[.string sec, .slice sa sn sc, .slice ta tn tc, .slice ca cn cc], .agg #[.int .i64 b1, .string b2, .int .i64 b3, .int .i64 b4, .string b5]] _ _) at HKB HPB
  change Hid (_ → ∀ (T : Nat → Prop) (u : CV) W, _ → _ → Calls _ _ #[_, .agg #[.int .i64 b1, .string b2, .int .i64 b3, .int .i64 b4, .string b5]] _ _) at HQA
  change Hid (_ → ∀ (T : Nat → Prop) (u : CV) W, _ → _ → Calls _ _ #[_, .agg #[.int .i64 a1, .string a2, .int .i64 a3, .int .i64 a4, .string a5]] _ _) at HQB
  obtain ⟨hb0, hsz, hC, hA, hB⟩ := box3 w #[.string sec, .slice sa sn sc, .slice ta tn tc, .slice ca cn cc] #[.int .i64 a1, .string a2, .int .i64 a3, .int .i64 a4, .string a5] #[.int .i64 b1, .string b2, .int .i64 b3, .int .i64 b4, .string b5] 26 28 28
  have c0 := hC 0 _ rfl
  have c1 := hC 1 _ rfl
  have c2 := hC 2 _ rfl
  have c3 := hC 3 _ rfl
  have a0' := hA 0 _ rfl
  have q0 := hB 0 _ rfl
  have a1' := hA 1 _ rfl
  have q1 := hB 1 _ rfl
  have a2' := hA 2 _ rfl
  have q2 := hB 2 _ rfl
  have a3' := hA 3 _ rfl
  have q3 := hB 3 _ rfl
  have a4' := hA 4 _ rfl
  have q4 := hB 4 _ rfl
  have hl : Below (((w.alloc (.cells #[.string sec, .slice sa sn sc, .slice ta tn tc, .slice ca cn cc] 26)).alloc (.cells #[.int .i64 a1, .string a2, .int .i64 a3, .int .i64 a4, .string a5] 28)).alloc (.cells #[.int .i64 b1, .string b2, .int .i64 b3, .int .i64 b4, .string b5] 28)).heap.size (((w.alloc (.cells #[.string sec, .slice sa sn sc, .slice ta tn tc, .slice ca cn cc] 26)).alloc (.cells #[.int .i64 a1, .string a2, .int .i64 a3, .int .i64 a4, .string a5] 28)).alloc (.cells #[.int .i64 b1, .string b2, .int .i64 b3, .int .i64 b4, .string b5] 28)) ((((w.alloc (.cells #[.string sec, .slice sa sn sc, .slice ta tn tc, .slice ca cn cc] 26)).alloc (.cells #[.int .i64 a1, .string a2, .int .i64 a3, .int .i64 a4, .string a5] 28)).alloc (.cells #[.int .i64 b1, .string b2, .int .i64 b3, .int .i64 b4, .string b5] 28)).alloc (.cells #[.int .i64 a1, .string a2, .int .i64 a3, .int .i64 a4, .string a5, .int .i64 b1, .string b2, .int .i64 b3, .int .i64 b4, .string b5] 28)) := (Below.refl _ _).alloc (Nat.le_refl _) _
  have gl := World.alloc_heap_new (((w.alloc (.cells #[.string sec, .slice sa sn sc, .slice ta tn tc, .slice ca cn cc] 26)).alloc (.cells #[.int .i64 a1, .string a2, .int .i64 a3, .int .i64 a4, .string a5] 28)).alloc (.cells #[.int .i64 b1, .string b2, .int .i64 b3, .int .i64 b4, .string b5] 28)) (.cells #[.int .i64 a1, .string a2, .int .i64 a3, .int .i64 a4, .string a5, .int .i64 b1, .string b2, .int .i64 b3, .int .i64 b4, .string b5] 28)
  have e3 : (((w.alloc (.cells #[.string sec, .slice sa sn sc, .slice ta tn tc, .slice ca cn cc] 26)).alloc (.cells #[.int .i64 a1, .string a2, .int .i64 a3, .int .i64 a4, .string a5] 28)).alloc (.cells #[.int .i64 b1, .string b2, .int .i64 b3, .int .i64 b4, .string b5] 28)).heap.size = w.heap.size + 1 + 1 + 1 := by simp
  have hb2 := hb0.trans (hl.mono hb0.size)
  rw [e3] at gl
  replace c0 := cell_later hl c0
  replace c1 := cell_later hl c1
  replace c2 := cell_later hl c2
  replace c3 := cell_later hl c3
  replace a0' := cell_later hl a0'
  replace a1' := cell_later hl a1'
  replace a2' := cell_later hl a2'
  replace a3' := cell_later hl a3'
  replace a4' := cell_later hl a4'
  replace q0 := cell_later hl q0
  replace q1 := cell_later hl q1
  replace q2 := cell_later hl q2
  replace q3 := cell_later hl q3
  replace q4 := cell_later hl q4
  have HFF := Lib.hid (HF.out _ _ hb2 gl)
  clear hC hA hB HF hsz e3 gl hl hb0
  go_enter Tryz.func9, Tryz.ntmps9
  go_wp2_with fail
  generalize (((w.alloc (.cells #[.string sec, .slice sa sn sc, .slice ta tn tc, .slice ca cn cc] 26)).alloc (.cells #[.int .i64 a1, .string a2, .int .i64 a3, .int .i64 a4, .string a5] 28)).alloc (.cells #[.int .i64 b1, .string b2, .int .i64 b3, .int .i64 b4, .string b5] 28)).alloc (.cells #[.int .i64 a1, .string a2, .int .i64 a3, .int .i64 a4, .string a5, .int .i64 b1, .string b2, .int .i64 b3, .int .i64 b4, .string b5] 28) = W1 at *
  refine HFF.out.mono ?_
  rintro e W2 ⟨rfl, hb3⟩
  have hb4 := hb2.trans (hb3.mono hb2.size)
  replace c0 := cell_later hb3 c0
  replace c1 := cell_later hb3 c1
  replace c2 := cell_later hb3 c2
  replace c3 := cell_later hb3 c3
  replace a0' := cell_later hb3 a0'
  replace a1' := cell_later hb3 a1'
  replace a2' := cell_later hb3 a2'
  replace a3' := cell_later hb3 a3'
  replace a4' := cell_later hb3 a4'
  replace q0 := cell_later hb3 q0
  replace q1 := cell_later hb3 q1
  replace q2 := cell_later hb3 q2
  replace q3 := cell_later hb3 q3
  replace q4 := cell_later hb3 q4
  clear HFF hb3 hb2
  cases FB with
  | false =>
    have HA1 := Lib.hid (HAW.out _ hb4)
    go_wp2_with fail
    refine HA1.out.mono ?_
    rintro e W9 ⟨rfl, hb9⟩
    go_wp2
    go_ret
    exact ⟨rfl, hb4.trans (hb9.mono hb4.size)⟩
  | true =>
    have HC1Q := Lib.hid (HC1.out rfl)
    have HC2Q := Lib.hid (HC2.out rfl)
    have HKAQ := Lib.hid (HKA.out rfl)
    have HKBQ := Lib.hid (HKB.out rfl)
    have HPAQ := Lib.hid (HPA.out rfl)
    have HPBQ := Lib.hid (HPB.out rfl)
    have HQAQ := Lib.hid (HQA.out rfl)
    have HQBQ := Lib.hid (HQB.out rfl)
    have H1 := Lib.hid (HC1Q.out _ hb4)
    clear HC1 HC2 HKA HKB HPA HPB HQA HQB HC1Q
    go_wp2_with fail
    refine H1.out.mono ?_
    rintro e W3 ⟨rfl, hb5⟩
    have hb6 := hb4.trans (hb5.mono hb4.size)
    replace c0 := cell_later hb5 c0
    replace c1 := cell_later hb5 c1
    replace c2 := cell_later hb5 c2
    replace c3 := cell_later hb5 c3
    replace a0' := cell_later hb5 a0'
    replace a1' := cell_later hb5 a1'
    replace a2' := cell_later hb5 a2'
    replace a3' := cell_later hb5 a3'
    replace a4' := cell_later hb5 a4'
    replace q0 := cell_later hb5 q0
    replace q1 := cell_later hb5 q1
    replace q2 := cell_later hb5 q2
    replace q3 := cell_later hb5 q3
    replace q4 := cell_later hb5 q4
    have H2 := Lib.hid (HC2Q.out _ hb6)
    clear H1 hb5 hb4 HC2Q
    go_wp2_with fail
    refine H2.out.mono ?_
    rintro e W4 ⟨rfl, hb7⟩
    have hb8 := hb6.trans (hb7.mono hb6.size)
    replace c0 := cell_later hb7 c0
    replace c1 := cell_later hb7 c1
    replace c2 := cell_later hb7 c2
    replace c3 := cell_later hb7 c3
    replace a0' := cell_later hb7 a0'
    replace a1' := cell_later hb7 a1'
    replace a2' := cell_later hb7 a2'
    replace a3' := cell_later hb7 a3'
    replace a4' := cell_later hb7 a4'
    replace q0 := cell_later hb7 q0
    replace q1 := cell_later hb7 q1
    replace q2 := cell_later hb7 q2
    replace q3 := cell_later hb7 q3
    replace q4 := cell_later hb7 q4
    clear H2 hb7 hb6
    have HB8 := Lib.hid hb8
    clear hb8
    have tis : (IS != IS) = false := by cases IS <;> rfl
    by_cases g : E1 = 0
    · have g2 : E2 = 0 := of_decide_eq_true (f2.symm.trans (decide_eq_true g))
      subst g g2
      obtain ⟨rfl, rfl, hIS⟩ := F4.out rfl
      have HIS := Lib.hid hIS
      clear F3 F4 f2 HKAQ HKBQ hIS
      have H3 := Lib.hid (HPAQ.out _ HB8.out)
      clear HPAQ
      go_wp2_with fail
      refine H3.out.mono ?_
      rintro e W5 ⟨v', he, hRY, hmY⟩
      obtain ⟨secY, saY, snY, scY, taY, tnY, tcY, caY, cnY, ccY⟩ := v'
      change e = .returned (.tuple #[.agg #[.string secY, .slice saY snY scY, .slice taY tnY tcY, .slice caY cnY ccY], .int .i64 0]) at he
      subst he
      have hal : Below W5.heap.size W5 (W5.alloc (.cells #[.string secY, .slice saY snY scY, .slice taY tnY tcY, .slice caY cnY ccY] 26)) := (Below.refl _ _).alloc (Nat.le_refl _) _
      have hnY := hmY.trans (hal.mono hmY.size)
      obtain ⟨yx0, yx1, yx2, yx3, -⟩ := box_cells4 (World.alloc_heap_new W5 (.cells #[.string secY, .slice saY snY scY, .slice taY tnY tcY, .slice caY cnY ccY] 26))
      replace c0 := cell_later hnY c0
      replace c1 := cell_later hnY c1
      replace c2 := cell_later hnY c2
      replace c3 := cell_later hnY c3
      replace a0' := cell_later hnY a0'
      replace a1' := cell_later hnY a1'
      replace a2' := cell_later hnY a2'
      replace a3' := cell_later hnY a3'
      replace a4' := cell_later hnY a4'
      replace q0 := cell_later hnY q0
      replace q1 := cell_later hnY q1
      replace q2 := cell_later hnY q2
      replace q3 := cell_later hnY q3
      replace q4 := cell_later hnY q4
      have HBY := Lib.hid (HB8.out.trans (hnY.mono HB8.out.size))
      have HRY := Lib.hid (hRY.below hal)
      have H4 := Lib.hid (HPBQ.out _ HBY.out)
      clear H3 hRY hal hmY HPBQ HB8
      go_wp2_with fail
      generalize W5.alloc (.cells #[.string secY, .slice saY snY scY, .slice taY tnY tcY, .slice caY cnY ccY] 26) = W5b at *
      refine H4.out.mono ?_
      rintro e W6 ⟨v', he, hRZ, hmZ⟩
      obtain ⟨secZ, saZ, snZ, scZ, taZ, tnZ, tcZ, caZ, cnZ, ccZ⟩ := v'
      change e = .returned (.tuple #[.agg #[.string secZ, .slice saZ snZ scZ, .slice taZ tnZ tcZ, .slice caZ cnZ ccZ], .int .i64 0]) at he
      subst he
      have hal : Below W6.heap.size W6 (W6.alloc (.cells #[.string secZ, .slice saZ snZ scZ, .slice taZ tnZ tcZ, .slice caZ cnZ ccZ] 26)) := (Below.refl _ _).alloc (Nat.le_refl _) _
      have hnZ := hmZ.trans (hal.mono hmZ.size)
      obtain ⟨zx0, zx1, zx2, zx3, -⟩ := box_cells4 (World.alloc_heap_new W6 (.cells #[.string secZ, .slice saZ snZ scZ, .slice taZ tnZ tcZ, .slice caZ cnZ ccZ] 26))
      replace yx0 := cell_later hnZ yx0
      replace yx1 := cell_later hnZ yx1
      replace yx2 := cell_later hnZ yx2
      replace yx3 := cell_later hnZ yx3
      replace a0' := cell_later hnZ a0'
      replace a1' := cell_later hnZ a1'
      replace a2' := cell_later hnZ a2'
      replace a3' := cell_later hnZ a3'
      replace a4' := cell_later hnZ a4'
      replace q0 := cell_later hnZ q0
      replace q1 := cell_later hnZ q1
      replace q2 := cell_later hnZ q2
      replace q3 := cell_later hnZ q3
      replace q4 := cell_later hnZ q4
      have HBZ := Lib.hid (HBY.out.trans (hnZ.mono HBY.out.size))
      have HRZ := Lib.hid (hRZ.below hal)
      have HRY2 := Lib.hid (HRY.out.below hnZ)
      have H5 := Lib.hid (HQAQ.out _ ⟨secY, saY, snY, scY, taY, tnY, tcY, caY, cnY, ccY⟩ _ HBZ.out HRY2.out)
      change Hid (Calls _ _ #[.agg #[.string secY, .slice saY snY scY, .slice taY tnY tcY, .slice caY cnY ccY], _] _ _) at H5
      clear H4 hRZ hal hmZ hnZ hnY HQAQ HRY HRY2 HBY c0 c1 c2 c3
      go_wp2_with fail
      generalize W6.alloc (.cells #[.string secZ, .slice saZ snZ scZ, .slice taZ tnZ tcZ, .slice caZ cnZ ccZ] 26) = W6b at *
      refine H5.out.mono ?_
      rintro e W7 ⟨v', he, hRU, hmU⟩
      obtain ⟨secU, saU, snU, scU, taU, tnU, tcU, caU, cnU, ccU⟩ := v'
      change e = .returned (.tuple #[.agg #[.string secU, .slice saU snU scU, .slice taU tnU tcU, .slice caU cnU ccU], .int .i64 GU]) at he
      subst he
      have hal : Below W7.heap.size W7 (W7.alloc (.cells #[.string secU, .slice saU snU scU, .slice taU tnU tcU, .slice caU cnU ccU] 26)) := (Below.refl _ _).alloc (Nat.le_refl _) _
      have hnU := hmU.trans (hal.mono hmU.size)
      obtain ⟨ux0, ux1, ux2, ux3, -⟩ := box_cells4 (World.alloc_heap_new W7 (.cells #[.string secU, .slice saU snU scU, .slice taU tnU tcU, .slice caU cnU ccU] 26))
      replace zx0 := cell_later hnU zx0
      replace zx1 := cell_later hnU zx1
      replace zx2 := cell_later hnU zx2
      replace zx3 := cell_later hnU zx3
      replace a0' := cell_later hnU a0'
      replace a1' := cell_later hnU a1'
      replace a2' := cell_later hnU a2'
      replace a3' := cell_later hnU a3'
      replace a4' := cell_later hnU a4'
      have HBU := Lib.hid (HBZ.out.trans (hnU.mono HBZ.out.size))
      have HRU := Lib.hid (hRU.below hal)
      have HRZ2 := Lib.hid (HRZ.out.below hnU)
      have H6 := Lib.hid (HQBQ.out _ ⟨secZ, saZ, snZ, scZ, taZ, tnZ, tcZ, caZ, cnZ, ccZ⟩ _ HBU.out HRZ2.out)
      change Hid (Calls _ _ #[.agg #[.string secZ, .slice saZ snZ scZ, .slice taZ tnZ tcZ, .slice caZ cnZ ccZ], _] _ _) at H6
      clear H5 hRU hal hmU hnU HQBQ HRZ HRZ2 HBZ q0 q1 q2 q3 q4 yx0 yx1 yx2 yx3
      go_wp2_with fail
      generalize W7.alloc (.cells #[.string secU, .slice saU snU scU, .slice taU tnU tcU, .slice caU cnU ccU] 26) = W7b at *
      refine H6.out.mono ?_
      rintro e W8 ⟨v', he, hRW, hmW⟩
      obtain ⟨secW, saW, snW, scW, taW, tnW, tcW, caW, cnW, ccW⟩ := v'
      change e = .returned (.tuple #[.agg #[.string secW, .slice saW snW scW, .slice taW tnW tcW, .slice caW cnW ccW], .int .i64 GV]) at he
      subst he
      have hal : Below W8.heap.size W8 (W8.alloc (.cells #[.string secW, .slice saW snW scW, .slice taW tnW tcW, .slice caW cnW ccW] 26)) := (Below.refl _ _).alloc (Nat.le_refl _) _
      have hnW := hmW.trans (hal.mono hmW.size)
      obtain ⟨wx0, wx1, wx2, wx3, -⟩ := box_cells4 (World.alloc_heap_new W8 (.cells #[.string secW, .slice saW snW scW, .slice taW tnW tcW, .slice caW cnW ccW] 26))
      replace ux0 := cell_later hnW ux0
      replace ux1 := cell_later hnW ux1
      replace ux2 := cell_later hnW ux2
      replace ux3 := cell_later hnW ux3
      have HBW := Lib.hid (HBU.out.trans (hnW.mono HBU.out.size))
      have HRW := Lib.hid (hRW.below hal)
      have HSM := Lib.hid (sameC_any _ _ ⟨secU, saU, snU, scU, taU, tnU, tcU, caU, cnU, ccU⟩ ⟨secW, saW, snW, scW, taW, tnW, tcW, caW, cnW, ccW⟩ U V _ (HRU.out.below hnW) HRW.out)
      change Hid (Calls _ _ #[.agg #[.string secU, .slice saU snU scU, .slice taU tnU tcU, .slice caU cnU ccU], .agg #[.string secW, .slice saW snW scW, .slice taW tnW tcW, .slice caW cnW ccW]] _ _) at HSM
      clear H6 hRW hal hmW hnW HRU HRW HBU a0' a1' a2' a3' a4' zx0 zx1 zx2 zx3
      generalize decide (U = V) = DU at *
      by_cases g1 : GU = 0
      · have t1 : ((GU : Int) == 0) = true := by simp [g1]
        by_cases g2 : GV = 0
        · have t2 : ((GV : Int) == 0) = true := by simp [g2]
          have hI : IS = DU := by rw [HIS.out, decide_eq_true g1, decide_eq_true g2]; rfl
          subst hI
          have tb : (IS == IS) = true := by cases IS <;> rfl
          clear HIS g1 g2
          go_wp2_with fail
          generalize W8.alloc (.cells #[.string secW, .slice saW snW scW, .slice taW tnW tcW, .slice caW cnW ccW] 26) = W8b at *
          refine HSM.out.mono ?_
          rintro e W10 ⟨rfl, hb11⟩
          have hb12 := HBW.out.trans (hb11.mono HBW.out.size)
          have HA1 := Lib.hid (HAW.out _ hb12)
          go_wp2_with fail
          refine HA1.out.mono ?_
          rintro e W9 ⟨rfl, hb9⟩
          go_wp2
          go_ret
          exact ⟨rfl, hb12.trans (hb9.mono hb12.size)⟩
        · have t2 : ((GV : Int) == 0) = false := by simpa using g2
          have hI : IS = false := by rw [HIS.out, decide_eq_true g1, decide_eq_false g2]; rfl
          subst hI
          clear HIS g1 g2 HSM
          have HA1 := Lib.hid (HAW.out _ HBW.out)
          go_wp2_with fail
          generalize W8.alloc (.cells #[.string secW, .slice saW snW scW, .slice taW tnW tcW, .slice caW cnW ccW] 26) = W8b at *
          refine HA1.out.mono ?_
          rintro e W9 ⟨rfl, hb9⟩
          go_wp2
          go_ret
          exact ⟨rfl, HBW.out.trans (hb9.mono HBW.out.size)⟩
      · have t1 : ((GU : Int) == 0) = false := by simpa using g1
        have hI : IS = false := by rw [HIS.out, decide_eq_false g1]; rfl
        subst hI
        clear HIS g1 HSM
        have HA1 := Lib.hid (HAW.out _ HBW.out)
        go_wp2_with fail
        generalize W8.alloc (.cells #[.string secW, .slice saW snW scW, .slice taW tnW tcW, .slice caW cnW ccW] 26) = W8b at *
        refine HA1.out.mono ?_
        rintro e W9 ⟨rfl, hb9⟩
        go_wp2
        go_ret
        exact ⟨rfl, HBW.out.trans (hb9.mono HBW.out.size)⟩
    · have t1 : ((E1 : Int) == 0) = false := by simpa using g
      have t2 : ((E2 : Int) == 0) = false := by have := f2; rw [decide_eq_false g] at this; simpa using this.symm
      have t3 : ((E1 : Int) != 0) = true := by simpa using g
      have h3 := F3.out g
      have HK := Lib.hid (HKAQ.out _ HB8.out)
      clear F3 F4 f2 HKAQ HPAQ HPBQ HQAQ HQBQ g
      go_wp2_with fail
      refine HK.out.mono ?_
      rintro e W5 ⟨rfl, hb9⟩
      have hb10 := HB8.out.trans (hb9.mono HB8.out.size)
      by_cases g4 : E1 = EA
      · have t4 : ((E1 : Int) == EA) = true := by simp [g4]
        clear h3 g4
        have HA1 := Lib.hid (HAW.out _ hb10)
        go_wp2_with fail
        refine HA1.out.mono ?_
        rintro e W9 ⟨rfl, hb9⟩
        go_wp2
        go_ret
        exact ⟨rfl, hb10.trans (hb9.mono hb10.size)⟩
      · have t4 : ((E1 : Int) == EA) = false := by simp [g4]
        have t5 : ((E1 : Int) == EB) = true := by simp [h3.resolve_left g4]
        have HK2 := Lib.hid (HKBQ.out _ hb10)
        replace c0 := cell_later hb9 c0
        replace c1 := cell_later hb9 c1
        replace c2 := cell_later hb9 c2
        replace c3 := cell_later hb9 c3
        replace q0 := cell_later hb9 q0
        replace q1 := cell_later hb9 q1
        replace q2 := cell_later hb9 q2
        replace q3 := cell_later hb9 q3
        replace q4 := cell_later hb9 q4
        clear h3 g4 HK
        go_wp2_with fail
        refine HK2.out.mono ?_
        rintro e W6 ⟨rfl, hb11⟩
        have hb12 := hb10.trans (hb11.mono hb10.size)
        have HA1 := Lib.hid (HAW.out _ hb12)
        go_wp2_with fail
        refine HA1.out.mono ?_
        rintro e W9 ⟨rfl, hb9⟩
        go_wp2
        go_ret
        exact ⟨rfl, hb12.trans (hb9.mono hb12.size)⟩
end Go.Proofs.YtbdgmgddliploaaGreatDoor
