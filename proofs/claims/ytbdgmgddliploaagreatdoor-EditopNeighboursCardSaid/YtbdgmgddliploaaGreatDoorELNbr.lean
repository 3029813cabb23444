/- The law EditopNeighbours (printed by gen_elaw.py). -/
import Derived.Test.YtbdgmgddliploaaGreatDoorENbr
import Derived.Test.YtbdgmgddliploaaGreatDoorEAwl
set_option linter.unusedVariables false
set_option linter.unusedSimpArgs false
namespace Go.Proofs.YtbdgmgddliploaaGreatDoor
open Go.RowKit

theorem max_zero4 (W : World) : Sem.run Tryz.prog (Builtin.max_ #[32, 32, 32, 32] 32 #[.int .i64 0, .int .i64 0, .int .i64 0, .int .i64 0]) W = .ok (.int .i64 0) W := by kernel_rfl

set_option maxRecDepth 100000 in
set_option maxHeartbeats 16000000 in
theorem neighbours_law (S : Nat → Prop) (v : CV) (x : Col) (o : Op) (i k : Nat) (w : World) (h : RdC S w v x) (hE : Env w) (ho : o.ok) (hi : i < 256) (hk : k < 256) : Calls Tryz.prog 6 #[v.val, o.val, .int .u8 (i : Int), .int .u8 (k : Int)] w fun e w' => e = .returned (.bool true) ∧ Below w.heap.size w w' := by
  have HAW : Hid (∀ W, Below w.heap.size w W → Calls Tryz.prog 13 #[] W fun e w' => e = .returned (.bool true) ∧ Below W.heap.size W w') := fun W hb => awake_any W (hE.below hb)
  have HP : Hid (fine x [o] = true → ∀ W, Below w.heap.size w W → Calls Tryz.prog 14 #[v.val, o.val] W (EditPost S x o W)) := fun hf W hb => by
    obtain ⟨h1, h2, h3, h4⟩ := fine_true hf
    exact edit_any S v x o W (h.below hb) h1 (hE.below hb) ho (by have := h4 o (by simp); omega)
  have HFX : Hid (fine x [o] = true → ∀ W, Below w.heap.size w W → ∀ (s : Nat) (t : Int), s < v.sn → I64 t → Calls Tryz.prog 25 #[v.val, .int .i64 (s : Int), .int .i64 t] W fun e w' => e = .returned (.tuple #[.int .i64 (findN x s t), .int .i64 (findE x s t)]) ∧ Below W.heap.size W w') := fun hf W hb s t hs ht => by
    obtain ⟨h1, h2, h3, h4⟩ := fine_true hf
    exact find_any S v x s t W (h.below hb) h1 (hE.below hb) h2 (by rw [← h.2.2.1.len]; exact hs) ht
  have HY : Hid (fine x [o] = true → opErr x o = 0 → Sml (opApply x o) ∧ (opApply x o).err = 0 ∧ (opApply x o).sigla = x.sigla) := fun hf h0 =>
    ⟨sml_op (fine_true hf).1 (fine_op hf (by simp)).2, (apply_valid h0).1, (apply_valid h0).2.2.1⟩
  have HNB : Hid (opErr x o = 0 → ∀ s t a b : Nat, s < v.sn → t < v.sn → a < (x.tks s).length → b < (x.tks t).length → ¬ (o.sig = x.sigla[s]?.getD ⟨#[]⟩ ∧ o.tok = a) → ¬ (o.sig = x.sigla[t]?.getD ⟨#[]⟩ ∧ o.tok = b) →
    ∃ c d u z : Nat, (findN x s a = c ∧ findE x s a = 0) ∧ (findN x t b = d ∧ findE x t b = 0) ∧ (findN (opApply x o) s a = u ∧ findE (opApply x o) s a = 0) ∧ (findN (opApply x o) t b = z ∧ findE (opApply x o) t b = 0) ∧
      (c = d → u = z) ∧ (o.kind ≠ 1 → c ≠ d → u ≠ z) ∧ (c < d → u ≤ z)) := fun h0 s t a b hs ht ha hb hu hw =>
    neigh h0 (by rw [← h.2.2.1.len]; exact hs) (by rw [← h.2.2.1.len]; exact ht) ha hb hu hw
  have hsb : v.sn * 16 ≤ 140737488355328 := h.2.2.1.bound
  have HSN : Hid (fine x [o] = true → 0 < v.sn ∧ v.tn = v.sn ∧ v.sn ≤ 32 ∧ ∀ r ∈ x.toks, r.length ≤ 1024) := fun hf => by
    have hv := (err_iff.1 (fine_true hf).2.1).1
    refine ⟨by rw [h.2.2.1.len]; exact hv.pos, by rw [h.2.2.1.len, h.2.2.2.1.len, hv.len], by rw [h.2.2.1.len]; exact hv.most, fun r hr => (hv.toks r hr).1⟩
  have HX := Lib.hid h
  have HO := Lib.hid ho
  have HE := Lib.hid hE
  obtain ⟨V, hV⟩ : ∃ V, V = v := ⟨_, rfl⟩
  obtain ⟨O, hO'⟩ : ∃ O, O = o := ⟨_, rfl⟩
  have HF : Hid (∀ W b, Below w.heap.size w W → W.heap[b]? = some (.cells #[.int .i64 o.kind, .string o.sig, .int .i64 o.tok, .int .i64 o.other, .string o.text] 28 (0, 0)) → Calls Tryz.prog 21 #[v.val, .slice (some ⟨b, 0, none⟩) 1 1] W fun e w' => e = .returned (.bool (fine x [o])) ∧ Below W.heap.size W w') := fun W b hb hg =>
    fine_any S (fun _ => True) v x _ 1 1 [o] W (h.below hb) (Sq.lit #[.int .i64 o.kind, .string o.sig, .int .i64 o.tok, .int .i64 o.other, .string o.text] [o] Op.cells hg rfl op_len trivial (by simp) (fun y hy => ⟨rfl, by simp at hy; subst hy; exact ho⟩))
  rw [← hV] at HX
  rw [← hO'] at HO
  generalize fine x [o] = FB at *
  unfold EditPost at HP
  generalize opErr x o = E at *
  generalize opApply x o = Y at *
  clear h hE ho
  obtain ⟨sec, sa, sn, sc, ta, tn, tc, ca, cn, cc⟩ := v
  obtain ⟨ok, og, ot, oo, ox⟩ := o
  have hVe : Hid (V = ⟨sec, sa, sn, sc, ta, tn, tc, ca, cn, cc⟩) := hV
  have hOe : Hid (O = ⟨ok, og, ot, oo, ox⟩) := hO'
  clear hV hO'
  change Calls _ _ #[.agg #[.string sec, .slice sa sn sc, .slice ta tn tc, .slice ca cn cc], .agg #[.int .i64 ok, .string og, .int .i64 ot, .int .i64 oo, .string ox], .int .u8 (i : Int), .int .u8 (k : Int)] _ _
  change Hid (∀ (W : World) (b : Nat), _ → _ → Calls _ _ #[.agg #[.string sec, .slice sa sn sc, .slice ta tn tc, .slice ca cn cc], _] _ _) at HF
  change Hid (_ → ∀ W, _ → Calls _ _ #[.agg #[.string sec, .slice sa sn sc, .slice ta tn tc, .slice ca cn cc], .agg #[.int .i64 ok, .string og, .int .i64 ot, .int .i64 oo, .string ox]] _ _) at HP
  change Hid (_ → ∀ W, _ → ∀ (s : Nat) (t : Int), _ → _ → Calls _ _ #[.agg #[.string sec, .slice sa sn sc, .slice ta tn tc, .slice ca cn cc], _, _] _ _) at HFX
  dsimp only at hsb HSN HFX HNB
  dsimp only at HF
  obtain ⟨hb0, hsz, hC, hO, hP⟩ := box3 w #[.string sec, .slice sa sn sc, .slice ta tn tc, .slice ca cn cc] #[.int .i64 ok, .string og, .int .i64 ot, .int .i64 oo, .string ox] #[.int .i64 ok, .string og, .int .i64 ot, .int .i64 oo, .string ox] 26 28 28
  have hbx : (((w.alloc (.cells #[.string sec, .slice sa sn sc, .slice ta tn tc, .slice ca cn cc] 26)).alloc (.cells #[.int .i64 ok, .string og, .int .i64 ot, .int .i64 oo, .string ox] 28)).alloc (.cells #[.int .i64 ok, .string og, .int .i64 ot, .int .i64 oo, .string ox] 28)).heap[w.heap.size + 1 + 1]? = some (.cells #[.int .i64 ok, .string og, .int .i64 ot, .int .i64 oo, .string ox] 28 (0, 0)) := by
    have := World.alloc_heap_new ((w.alloc (.cells #[.string sec, .slice sa sn sc, .slice ta tn tc, .slice ca cn cc] 26)).alloc (.cells #[.int .i64 ok, .string og, .int .i64 ot, .int .i64 oo, .string ox] 28)) (.cells #[.int .i64 ok, .string og, .int .i64 ot, .int .i64 oo, .string ox] 28)
    simpa using this
  have c0 := hC 0 _ rfl
  have c1 := hC 1 _ rfl
  have c2 := hC 2 _ rfl
  have c3 := hC 3 _ rfl
  have o0 := hO 0 _ rfl
  have o1 := hO 1 _ rfl
  have o2 := hO 2 _ rfl
  have o3 := hO 3 _ rfl
  have o4 := hO 4 _ rfl
  have HFF := Lib.hid (HF.out _ _ hb0 hbx)
  clear hC hO hP hbx HF hsz
  go_enter Tryz.func6, Tryz.ntmps6
  go_wp2_with fail
  generalize ((w.alloc (.cells #[.string sec, .slice sa sn sc, .slice ta tn tc, .slice ca cn cc] 26)).alloc (.cells #[.int .i64 ok, .string og, .int .i64 ot, .int .i64 oo, .string ox] 28)).alloc (.cells #[.int .i64 ok, .string og, .int .i64 ot, .int .i64 oo, .string ox] 28) = W1 at *
  refine HFF.out.mono ?_
  rintro e W2 ⟨rfl, hb2⟩
  have hb3 := hb0.trans (hb2.mono hb0.size)
  replace c0 := cell_later hb2 c0
  replace c1 := cell_later hb2 c1
  replace c2 := cell_later hb2 c2
  replace c3 := cell_later hb2 c3
  replace o0 := cell_later hb2 o0
  replace o1 := cell_later hb2 o1
  replace o2 := cell_later hb2 o2
  replace o3 := cell_later hb2 o3
  replace o4 := cell_later hb2 o4
  clear HFF hb2 hb0
  cases FB with
  | false =>
    have HA1 := Lib.hid (HAW.out _ hb3)
    go_wp2_with fail
    refine HA1.out.mono ?_
    rintro e W3 ⟨rfl, hb4⟩
    go_wp2
    go_ret
    exact ⟨rfl, hb3.trans (hb4.mono hb3.size)⟩
  | true =>
    have HFQ := Lib.hid (HFX.out rfl)
    have HYQ := Lib.hid (HY.out rfl)
    have HSQ := Lib.hid (HSN.out rfl)
    clear HFX HY HSN
    have HPP := Lib.hid (HP.out rfl _ hb3)
    clear HP
    go_wp2_with fail
    refine HPP.out.mono ?_
    rintro e W4 ⟨v', he, hR, hb4⟩
    obtain ⟨sec3, sa3, sn3, sc3, ta3, tn3, tc3, ca3, cn3, cc3⟩ := v'
    change e = .returned (.tuple #[.agg #[.string sec3, .slice sa3 sn3 sc3, .slice ta3 tn3 tc3, .slice ca3 cn3 cc3], .int .i64 E]) at he
    subst he
    have hal : Below W4.heap.size W4 (W4.alloc (.cells #[.string sec3, .slice sa3 sn3 sc3, .slice ta3 tn3 tc3, .slice ca3 cn3 cc3] 26)) := (Below.refl _ _).alloc (Nat.le_refl _) _
    have hb5 := hb4.trans (hal.mono hb4.size)
    obtain ⟨z0, z1, z2, z3, -⟩ := box_cells4 (World.alloc_heap_new W4 (.cells #[.string sec3, .slice sa3 sn3 sc3, .slice ta3 tn3 tc3, .slice ca3 cn3 cc3] 26))
    have hb6 := hb3.trans (hb5.mono hb3.size)
    have HR := Lib.hid (hR.below hal)
    replace c0 := cell_later hb5 c0
    replace c1 := cell_later hb5 c1
    replace c2 := cell_later hb5 c2
    replace c3 := cell_later hb5 c3
    replace o0 := cell_later hb5 o0
    replace o1 := cell_later hb5 o1
    replace o2 := cell_later hb5 o2
    replace o3 := cell_later hb5 o3
    replace o4 := cell_later hb5 o4
    clear HPP hR hal hb5 hb4 hb3
    have HB6 := Lib.hid hb6
    obtain ⟨n1, n2, n3, n4⟩ := HSQ.out
    clear HSQ hb6
    replace n2 := n2.symm
    subst n2
    have hx5 := HX.out.below HB6.out
    rw [hVe.out] at hx5
    have HX5 := Lib.hid (And.intro hx5.2.2.1 hx5.2.2.2.1)
    clear hx5 HX
    go_wp2_with fail
    generalize W4.alloc (.cells #[.string sec3, .slice sa3 sn3 sc3, .slice ta3 tn3 tc3, .slice ca3 cn3 cc3] 26) = W5 at *
    have n0 : (0 : Int) < (sn : Int) := by omega
    go_quiet (fail)
    rename_i nq
    obtain ⟨si, hsi⟩ : ∃ si, si = (i : Int) % (sn : Int) := ⟨_, rfl⟩
    obtain ⟨ti, hti⟩ : ∃ ti, ti = (k : Int) % (sn : Int) := ⟨_, rfl⟩
    rw [← hsi, ← hti]
    obtain ⟨s, rfl, hs⟩ : ∃ s : Nat, si = s ∧ s < sn := ⟨i % sn, by rw [hsi]; omega, Nat.mod_lt _ n1⟩
    obtain ⟨t, rfl, ht⟩ : ∃ t : Nat, ti = t ∧ t < sn := ⟨k % sn, by rw [hti]; omega, Nat.mod_lt _ n1⟩
    have hb7 : Below W5.heap.size W5 (W5.drewN nq) := below_drewN (Below.refl _ _) nq
    have hb8 := HB6.out.trans (hb7.mono HB6.out.size)
    clear hsi hti hi hk n0 hb7
    by_cases h0 : E = 0
    · have t0 : ((E : Int) != 0) = false := by simp [h0]
      have NB0 := Lib.hid (HNB.out h0 s t)
      obtain ⟨y1, y2, y3⟩ := HYQ.out h0
      have HYY := Lib.hid (And.intro y1 (And.intro y2 y3))
      subst h0
      clear HNB HYQ y1 y2 y3
      by_cases hst : s = t
      · subst hst
        have t1 : ((s : Int) == (s : Int)) = true := by simp
        clear NB0 HX5
        have HA1 := Lib.hid (HAW.out _ hb8)
        go_wp2_with fail
        refine HA1.out.mono ?_
        rintro e W9 ⟨rfl, hb9⟩
        go_wp2
        go_ret
        exact ⟨rfl, hb8.trans (hb9.mono hb8.size)⟩
      · have t1 : ((s : Int) == (t : Int)) = false := by simp; omega
        obtain ⟨hSG, hTK⟩ := HX5.out
        obtain ⟨r1, b1, f1, a1, m1, k1, hu1, hmem1, ea, -, -, hr1, d1⟩ := hTK.row (j := s) (by omega)
        subst ea
        obtain ⟨r2, b2, f2, a2, m2, k2, hu2, hmem2, ea, -, -, hr2, d2⟩ := hTK.row (j := t) (by omega)
        cases ea
        obtain ⟨g1, gb, gf, hg1, -, ea, -, -, -, w1⟩ := hSG.str (j := s) hs
        subst ea
        obtain ⟨g2, gb2, gf2, hg2, -, ea, -, -, -, w2⟩ := hSG.str (j := t) ht
        cases ea
        have hm1 : m1 ≤ 1024 := by rw [hr1.len]; exact n4 r1 hmem1
        have hm2 : m2 ≤ 1024 := by rw [hr2.len]; exact n4 r2 hmem2
        have NB : Hid (∀ a b : Nat, a < m1 → b < m2 → ¬ (og = g1 ∧ ot = a) → ¬ (og = g2 ∧ ot = b) → ∃ c d u z : Nat, (findN x s a = c ∧ findE x s a = 0) ∧ (findN x t b = d ∧ findE x t b = 0) ∧ (findN Y s a = u ∧ findE Y s a = 0) ∧ (findN Y t b = z ∧ findE Y t b = 0) ∧ (c = d → u = z) ∧ (ok ≠ 1 → c ≠ d → u ≠ z) ∧ (c < d → u ≤ z)) := by
          intro a b ha hb hu hw
          have e1 : x.tks s = r1 := by unfold Col.tks; rw [hu1]; rfl
          have e2 : x.tks t = r2 := by unfold Col.tks; rw [hu2]; rfl
          exact NB0.out a b hs ht (by rw [e1, ← hr1.len]; exact ha) (by rw [e2, ← hr2.len]; exact hb) (by rw [hg1]; exact hu) (by rw [hg2]; exact hw)
        have HFY : Hid (∀ W, Below W5.heap.size W5 W → ∀ (s : Nat) (t : Int), s < sn → I64 t → Calls Tryz.prog 25 #[.agg #[.string sec3, .slice sa3 sn3 sc3, .slice ta3 tn3 tc3, .slice ca3 cn3 cc3], .int .i64 (s : Int), .int .i64 t] W fun e w' => e = .returned (.tuple #[.int .i64 (findN Y s t), .int .i64 (findE Y s t)]) ∧ Below W.heap.size W w') := fun W hb s' t' hs' ht' => by
          obtain ⟨y1, y2, y3⟩ := HYY.out
          have := find_any _ ⟨sec3, sa3, sn3, sc3, ta3, tn3, tc3, ca3, cn3, cc3⟩ Y s' t' W (HR.out.below hb) y1 (HE.out.below (HB6.out.trans (hb.mono HB6.out.size))) y2 (by rw [y3, ← hSG.len]; exact hs') ht'
          exact this
        clear NB0 HX5 HYY HR hSG hTK hu1 hmem1 hr1 hu2 hmem2 hr2 hg1 hg2 n4
        go_wp2_with fail
        go_loopw [61] (fun i wr => ∃ p : Nat, i = .int .i64 p ∧ p ≤ m1 ∧ Below W5.heap.size W5 wr) (fun i _ => m1 - (intOf i).toNat)
        case atStart => exact ⟨0, rfl, Nat.zero_le _, below_drewN (Below.refl _ _) nq⟩
        case round =>
          obtain ⟨p, rfl, hp, hb⟩ := hrel
          replace c0 := cell_later hb c0
          replace c1 := cell_later hb c1
          replace c2 := cell_later hb c2
          replace c3 := cell_later hb c3
          replace o0 := cell_later hb o0
          replace o1 := cell_later hb o1
          replace o2 := cell_later hb o2
          replace o3 := cell_later hb o3
          replace o4 := cell_later hb o4
          replace z0 := cell_later hb z0
          replace z1 := cell_later hb z1
          replace z2 := cell_later hb z2
          replace z3 := cell_later hb z3
          replace d1 := cell_later hb d1
          replace d2 := cell_later hb d2
          replace w1 := cell_later hb w1
          replace w2 := cell_later hb w2
          have hbr := HB6.out.trans (hb.mono HB6.out.size)
          by_cases hpl : p < m1
          · go_wp2_with fail
            obtain ⟨wo, rfl⟩ : ∃ wo : World, wo = wr := ⟨_, rfl⟩
            clear hbr
            go_loopw [70] (fun i wr => ∃ q : Nat, i = .int .i64 q ∧ q ≤ m2 ∧ Below wo.heap.size wo wr) (fun i _ => m2 - (intOf i).toNat)
            case atStart => exact ⟨0, rfl, Nat.zero_le _, Below.refl _ _⟩
            case round =>
              obtain ⟨q, rfl, hq, hb2⟩ := hrel
              replace c0 := cell_later hb2 c0
              replace c1 := cell_later hb2 c1
              replace c2 := cell_later hb2 c2
              replace c3 := cell_later hb2 c3
              replace o0 := cell_later hb2 o0
              replace o1 := cell_later hb2 o1
              replace o2 := cell_later hb2 o2
              replace o3 := cell_later hb2 o3
              replace o4 := cell_later hb2 o4
              replace z0 := cell_later hb2 z0
              replace z1 := cell_later hb2 z1
              replace z2 := cell_later hb2 z2
              replace z3 := cell_later hb2 z3
              replace w1 := cell_later hb2 w1
              replace w2 := cell_later hb2 w2
              by_cases hql : q < m2
              · by_cases p1 : og = g1
                · have u1 : (og.toList == g1.toList) = true := str_yes p1
                  by_cases p2 : ot = (p : Int)
                  · have u2 : ((ot : Int) == (p : Int)) = true := by simp [p2]
                    clear NB HFY HFQ
                    clear p1 p2
                    go_wp2_with fail
                    go_quiet (fail)
                    have hbw2 : ∀ n, Below wo.heap.size wo (wr.drewN n) := fun n => below_drewN hb2 n
                    go_wp2_with fail
                    go_roundw
                    case rel => exact ⟨q + 1, by go_num, by omega, hbw2 _⟩
                    case measure => simp [intOf]; omega
                  · have u2 : ((ot : Int) == (p : Int)) = false := by simpa using p2
                    have hna : Hid (¬ (og = g1 ∧ ot = (p : Int))) := fun h => p2 h.2
                    by_cases p3 : og = g2
                    · have u3 : (og.toList == g2.toList) = true := str_yes p3
                      by_cases p4 : ot = (q : Int)
                      · have u4 : ((ot : Int) == (q : Int)) = true := by simp [p4]
                        clear NB HFY HFQ
                        clear p1 p2 p3 p4
                        go_wp2_with fail
                        go_quiet (fail)
                        have hbw2 : ∀ n, Below wo.heap.size wo (wr.drewN n) := fun n => below_drewN hb2 n
                        go_wp2_with fail
                        go_roundw
                        case rel => exact ⟨q + 1, by go_num, by omega, hbw2 _⟩
                        case measure => simp [intOf]; omega
                      · have u4 : ((ot : Int) == (q : Int)) = false := by simpa using p4
                        have hnb : Hid (¬ (og = g2 ∧ ot = (q : Int))) := fun h => p4 h.2
                        clear p1 p2 p3 p4
                        go_wp2_with fail
                        go_quiet (fail)
                        have hbw2 : ∀ n, Below wo.heap.size wo (wr.drewN n) := fun n => below_drewN hb2 n
                        have hbq : ∀ n, Below W5.heap.size W5 (wr.drewN n) := fun n => hb.trans ((hbw2 n).mono hb.size)
                        have hbr3 : ∀ n, Below w.heap.size w (wr.drewN n) := fun n => HB6.out.trans ((hbq n).mono HB6.out.size)
                        clear u1 u2 hb2
                        clear u3 u4
                        have H1 := Lib.hid (fun n => HFQ.out _ (hbr3 n) s (p : Int) hs ⟨by omega, by omega⟩)
                        go_wp2_with fail
                        refine (H1.out _).mono ?_
                        rintro e U1 ⟨rfl, hu1⟩
                        have hd1 := (hbq _).trans (hu1.mono (hbq _).size)
                        have H2 := Lib.hid (HFQ.out _ (HB6.out.trans (hd1.mono HB6.out.size)) t (q : Int) ht ⟨by omega, by omega⟩)
                        replace c0 := cell_later hu1 c0
                        replace c1 := cell_later hu1 c1
                        replace c2 := cell_later hu1 c2
                        replace c3 := cell_later hu1 c3
                        replace o0 := cell_later hu1 o0
                        replace z0 := cell_later hu1 z0
                        replace z1 := cell_later hu1 z1
                        replace z2 := cell_later hu1 z2
                        replace z3 := cell_later hu1 z3
                        clear H1
                        go_wp2_with fail
                        refine H2.out.mono ?_
                        rintro e U2 ⟨rfl, hu2⟩
                        have hd2 := hd1.trans (hu2.mono hd1.size)
                        have H3 := Lib.hid (HFY.out _ hd2 s (p : Int) hs ⟨by omega, by omega⟩)
                        replace z0 := cell_later hu2 z0
                        replace z1 := cell_later hu2 z1
                        replace z2 := cell_later hu2 z2
                        replace z3 := cell_later hu2 z3
                        replace o0 := cell_later hu2 o0
                        clear H2
                        go_wp2_with fail
                        refine H3.out.mono ?_
                        rintro e U3 ⟨rfl, hu3⟩
                        have hd3 := hd2.trans (hu3.mono hd2.size)
                        have H4 := Lib.hid (HFY.out _ hd3 t (q : Int) ht ⟨by omega, by omega⟩)
                        replace z0 := cell_later hu3 z0
                        replace z1 := cell_later hu3 z1
                        replace z2 := cell_later hu3 z2
                        replace z3 := cell_later hu3 z3
                        replace o0 := cell_later hu3 o0
                        clear H3
                        go_wp2_with fail
                        refine H4.out.mono ?_
                        rintro e U4 ⟨rfl, hu4⟩
                        have hd4 := hd3.trans (hu4.mono hd3.size)
                        have hw4 := (hbw2 _).trans (((hu1.trans (hu2.mono hu1.size)).trans ((hu3.trans (hu4.mono hu3.size)).mono (hu1.trans (hu2.mono hu1.size)).size)).mono (hbw2 _).size)
                        replace o0 := cell_later hu4 o0
                        clear H4 hu1 hu2 hu3 hu4 hd1 hd2 hd3
                        obtain ⟨cc1, cc2, cc3, cc4, ⟨x1, x2⟩, ⟨x3, x4⟩, ⟨x5, x6⟩, ⟨x7, x8⟩, k1', k2', k3'⟩ := NB.out p q hpl hql hna.out hnb.out
                        rw [x1, x2, x3, x4, x5, x6, x7, x8]
                        clear NB x1 x2 x3 x4 x5 x6 x7 x8 hna hnb c0 c1 c2 c3 z0 z1 z2 z3
                        go_wp2_with fail
                        rw [max_zero4]
                        by_cases ek : ok = 1
                        · have tk : ((ok : Int) != 1) = false := by simp [ek]
                          by_cases e1 : cc1 = cc2
                          · have e2 := k1' e1
                            have v1 : ((cc1 : Int) == (cc2 : Int)) = true := by simp [e1]
                            have v2 : ((cc3 : Int) != (cc4 : Int)) = false := by simp [e2]
                            have v3 : ¬ (cc1 : Int) < (cc2 : Int) := by omega
                            clear k1' k2' k3' e1 e2 ek
                            go_wp2_with fail
                            go_roundw
                            case rel => exact ⟨q + 1, by go_num, by omega, hw4⟩
                            case measure => simp [intOf]; omega
                          · have v1 : ((cc1 : Int) == (cc2 : Int)) = false := by simp; omega
                            by_cases e3 : cc1 < cc2
                            · have e4 := k3' e3
                              have v3 : (cc1 : Int) < (cc2 : Int) := by omega
                              have v4 : ¬ (cc4 : Int) < (cc3 : Int) := by omega
                              clear k1' k2' k3' e1 e3 e4 ek
                              go_wp2_with fail
                              go_roundw
                              case rel => exact ⟨q + 1, by go_num, by omega, hw4⟩
                              case measure => simp [intOf]; omega
                            · have v3 : ¬ (cc1 : Int) < (cc2 : Int) := by omega
                              clear k1' k2' k3' e1 e3 ek
                              go_wp2_with fail
                              go_roundw
                              case rel => exact ⟨q + 1, by go_num, by omega, hw4⟩
                              case measure => simp [intOf]; omega
                        · have tk : ((ok : Int) != 1) = true := by simpa using ek
                          by_cases e1 : cc1 = cc2
                          · have e2 := k1' e1
                            have v1 : ((cc1 : Int) == (cc2 : Int)) = true := by simp [e1]
                            have v2 : ((cc3 : Int) != (cc4 : Int)) = false := by simp [e2]
                            have v5 : ((cc3 : Int) == (cc4 : Int)) = true := by simp [e2]
                            have v3 : ¬ (cc1 : Int) < (cc2 : Int) := by omega
                            clear k1' k2' k3' e1 e2 ek
                            go_wp2_with fail
                            go_roundw
                            case rel => exact ⟨q + 1, by go_num, by omega, hw4⟩
                            case measure => simp [intOf]; omega
                          · have v1 : ((cc1 : Int) == (cc2 : Int)) = false := by simp; omega
                            have e5 := k2' ek e1
                            have v5 : ((cc3 : Int) == (cc4 : Int)) = false := by simp; omega
                            by_cases e3 : cc1 < cc2
                            · have e4 := k3' e3
                              have v3 : (cc1 : Int) < (cc2 : Int) := by omega
                              have v4 : ¬ (cc4 : Int) < (cc3 : Int) := by omega
                              clear k1' k2' k3' e1 e3 e4 ek e5
                              go_wp2_with fail
                              go_roundw
                              case rel => exact ⟨q + 1, by go_num, by omega, hw4⟩
                              case measure => simp [intOf]; omega
                            · have v3 : ¬ (cc1 : Int) < (cc2 : Int) := by omega
                              clear k1' k2' k3' e1 e3 ek e5
                              go_wp2_with fail
                              go_roundw
                              case rel => exact ⟨q + 1, by go_num, by omega, hw4⟩
                              case measure => simp [intOf]; omega
                    · have u3 : (og.toList == g2.toList) = false := str_no p3
                      have hnb : Hid (¬ (og = g2 ∧ ot = (q : Int))) := fun h => p3 h.1
                      clear p1 p2 p3
                      go_wp2_with fail
                      go_quiet (fail)
                      have hbw2 : ∀ n, Below wo.heap.size wo (wr.drewN n) := fun n => below_drewN hb2 n
                      have hbq : ∀ n, Below W5.heap.size W5 (wr.drewN n) := fun n => hb.trans ((hbw2 n).mono hb.size)
                      have hbr3 : ∀ n, Below w.heap.size w (wr.drewN n) := fun n => HB6.out.trans ((hbq n).mono HB6.out.size)
                      clear u1 u2 hb2
                      clear u3
                      have H1 := Lib.hid (fun n => HFQ.out _ (hbr3 n) s (p : Int) hs ⟨by omega, by omega⟩)
                      go_wp2_with fail
                      refine (H1.out _).mono ?_
                      rintro e U1 ⟨rfl, hu1⟩
                      have hd1 := (hbq _).trans (hu1.mono (hbq _).size)
                      have H2 := Lib.hid (HFQ.out _ (HB6.out.trans (hd1.mono HB6.out.size)) t (q : Int) ht ⟨by omega, by omega⟩)
                      replace c0 := cell_later hu1 c0
                      replace c1 := cell_later hu1 c1
                      replace c2 := cell_later hu1 c2
                      replace c3 := cell_later hu1 c3
                      replace o0 := cell_later hu1 o0
                      replace z0 := cell_later hu1 z0
                      replace z1 := cell_later hu1 z1
                      replace z2 := cell_later hu1 z2
                      replace z3 := cell_later hu1 z3
                      clear H1
                      go_wp2_with fail
                      refine H2.out.mono ?_
                      rintro e U2 ⟨rfl, hu2⟩
                      have hd2 := hd1.trans (hu2.mono hd1.size)
                      have H3 := Lib.hid (HFY.out _ hd2 s (p : Int) hs ⟨by omega, by omega⟩)
                      replace z0 := cell_later hu2 z0
                      replace z1 := cell_later hu2 z1
                      replace z2 := cell_later hu2 z2
                      replace z3 := cell_later hu2 z3
                      replace o0 := cell_later hu2 o0
                      clear H2
                      go_wp2_with fail
                      refine H3.out.mono ?_
                      rintro e U3 ⟨rfl, hu3⟩
                      have hd3 := hd2.trans (hu3.mono hd2.size)
                      have H4 := Lib.hid (HFY.out _ hd3 t (q : Int) ht ⟨by omega, by omega⟩)
                      replace z0 := cell_later hu3 z0
                      replace z1 := cell_later hu3 z1
                      replace z2 := cell_later hu3 z2
                      replace z3 := cell_later hu3 z3
                      replace o0 := cell_later hu3 o0
                      clear H3
                      go_wp2_with fail
                      refine H4.out.mono ?_
                      rintro e U4 ⟨rfl, hu4⟩
                      have hd4 := hd3.trans (hu4.mono hd3.size)
                      have hw4 := (hbw2 _).trans (((hu1.trans (hu2.mono hu1.size)).trans ((hu3.trans (hu4.mono hu3.size)).mono (hu1.trans (hu2.mono hu1.size)).size)).mono (hbw2 _).size)
                      replace o0 := cell_later hu4 o0
                      clear H4 hu1 hu2 hu3 hu4 hd1 hd2 hd3
                      obtain ⟨cc1, cc2, cc3, cc4, ⟨x1, x2⟩, ⟨x3, x4⟩, ⟨x5, x6⟩, ⟨x7, x8⟩, k1', k2', k3'⟩ := NB.out p q hpl hql hna.out hnb.out
                      rw [x1, x2, x3, x4, x5, x6, x7, x8]
                      clear NB x1 x2 x3 x4 x5 x6 x7 x8 hna hnb c0 c1 c2 c3 z0 z1 z2 z3
                      go_wp2_with fail
                      rw [max_zero4]
                      by_cases ek : ok = 1
                      · have tk : ((ok : Int) != 1) = false := by simp [ek]
                        by_cases e1 : cc1 = cc2
                        · have e2 := k1' e1
                          have v1 : ((cc1 : Int) == (cc2 : Int)) = true := by simp [e1]
                          have v2 : ((cc3 : Int) != (cc4 : Int)) = false := by simp [e2]
                          have v3 : ¬ (cc1 : Int) < (cc2 : Int) := by omega
                          clear k1' k2' k3' e1 e2 ek
                          go_wp2_with fail
                          go_roundw
                          case rel => exact ⟨q + 1, by go_num, by omega, hw4⟩
                          case measure => simp [intOf]; omega
                        · have v1 : ((cc1 : Int) == (cc2 : Int)) = false := by simp; omega
                          by_cases e3 : cc1 < cc2
                          · have e4 := k3' e3
                            have v3 : (cc1 : Int) < (cc2 : Int) := by omega
                            have v4 : ¬ (cc4 : Int) < (cc3 : Int) := by omega
                            clear k1' k2' k3' e1 e3 e4 ek
                            go_wp2_with fail
                            go_roundw
                            case rel => exact ⟨q + 1, by go_num, by omega, hw4⟩
                            case measure => simp [intOf]; omega
                          · have v3 : ¬ (cc1 : Int) < (cc2 : Int) := by omega
                            clear k1' k2' k3' e1 e3 ek
                            go_wp2_with fail
                            go_roundw
                            case rel => exact ⟨q + 1, by go_num, by omega, hw4⟩
                            case measure => simp [intOf]; omega
                      · have tk : ((ok : Int) != 1) = true := by simpa using ek
                        by_cases e1 : cc1 = cc2
                        · have e2 := k1' e1
                          have v1 : ((cc1 : Int) == (cc2 : Int)) = true := by simp [e1]
                          have v2 : ((cc3 : Int) != (cc4 : Int)) = false := by simp [e2]
                          have v5 : ((cc3 : Int) == (cc4 : Int)) = true := by simp [e2]
                          have v3 : ¬ (cc1 : Int) < (cc2 : Int) := by omega
                          clear k1' k2' k3' e1 e2 ek
                          go_wp2_with fail
                          go_roundw
                          case rel => exact ⟨q + 1, by go_num, by omega, hw4⟩
                          case measure => simp [intOf]; omega
                        · have v1 : ((cc1 : Int) == (cc2 : Int)) = false := by simp; omega
                          have e5 := k2' ek e1
                          have v5 : ((cc3 : Int) == (cc4 : Int)) = false := by simp; omega
                          by_cases e3 : cc1 < cc2
                          · have e4 := k3' e3
                            have v3 : (cc1 : Int) < (cc2 : Int) := by omega
                            have v4 : ¬ (cc4 : Int) < (cc3 : Int) := by omega
                            clear k1' k2' k3' e1 e3 e4 ek e5
                            go_wp2_with fail
                            go_roundw
                            case rel => exact ⟨q + 1, by go_num, by omega, hw4⟩
                            case measure => simp [intOf]; omega
                          · have v3 : ¬ (cc1 : Int) < (cc2 : Int) := by omega
                            clear k1' k2' k3' e1 e3 ek e5
                            go_wp2_with fail
                            go_roundw
                            case rel => exact ⟨q + 1, by go_num, by omega, hw4⟩
                            case measure => simp [intOf]; omega
                · have u1 : (og.toList == g1.toList) = false := str_no p1
                  have u2 := u1
                  have hna : Hid (¬ (og = g1 ∧ ot = (p : Int))) := fun h => p1 h.1
                  by_cases p3 : og = g2
                  · have u3 : (og.toList == g2.toList) = true := str_yes p3
                    by_cases p4 : ot = (q : Int)
                    · have u4 : ((ot : Int) == (q : Int)) = true := by simp [p4]
                      clear NB HFY HFQ
                      clear p1 p3 p4
                      go_wp2_with fail
                      go_quiet (fail)
                      have hbw2 : ∀ n, Below wo.heap.size wo (wr.drewN n) := fun n => below_drewN hb2 n
                      go_wp2_with fail
                      go_roundw
                      case rel => exact ⟨q + 1, by go_num, by omega, hbw2 _⟩
                      case measure => simp [intOf]; omega
                    · have u4 : ((ot : Int) == (q : Int)) = false := by simpa using p4
                      have hnb : Hid (¬ (og = g2 ∧ ot = (q : Int))) := fun h => p4 h.2
                      clear p1 p3 p4
                      go_wp2_with fail
                      go_quiet (fail)
                      have hbw2 : ∀ n, Below wo.heap.size wo (wr.drewN n) := fun n => below_drewN hb2 n
                      have hbq : ∀ n, Below W5.heap.size W5 (wr.drewN n) := fun n => hb.trans ((hbw2 n).mono hb.size)
                      have hbr3 : ∀ n, Below w.heap.size w (wr.drewN n) := fun n => HB6.out.trans ((hbq n).mono HB6.out.size)
                      clear u1 u2 hb2
                      clear u3 u4
                      have H1 := Lib.hid (fun n => HFQ.out _ (hbr3 n) s (p : Int) hs ⟨by omega, by omega⟩)
                      go_wp2_with fail
                      refine (H1.out _).mono ?_
                      rintro e U1 ⟨rfl, hu1⟩
                      have hd1 := (hbq _).trans (hu1.mono (hbq _).size)
                      have H2 := Lib.hid (HFQ.out _ (HB6.out.trans (hd1.mono HB6.out.size)) t (q : Int) ht ⟨by omega, by omega⟩)
                      replace c0 := cell_later hu1 c0
                      replace c1 := cell_later hu1 c1
                      replace c2 := cell_later hu1 c2
                      replace c3 := cell_later hu1 c3
                      replace o0 := cell_later hu1 o0
                      replace z0 := cell_later hu1 z0
                      replace z1 := cell_later hu1 z1
                      replace z2 := cell_later hu1 z2
                      replace z3 := cell_later hu1 z3
                      clear H1
                      go_wp2_with fail
                      refine H2.out.mono ?_
                      rintro e U2 ⟨rfl, hu2⟩
                      have hd2 := hd1.trans (hu2.mono hd1.size)
                      have H3 := Lib.hid (HFY.out _ hd2 s (p : Int) hs ⟨by omega, by omega⟩)
                      replace z0 := cell_later hu2 z0
                      replace z1 := cell_later hu2 z1
                      replace z2 := cell_later hu2 z2
                      replace z3 := cell_later hu2 z3
                      replace o0 := cell_later hu2 o0
                      clear H2
                      go_wp2_with fail
                      refine H3.out.mono ?_
                      rintro e U3 ⟨rfl, hu3⟩
                      have hd3 := hd2.trans (hu3.mono hd2.size)
                      have H4 := Lib.hid (HFY.out _ hd3 t (q : Int) ht ⟨by omega, by omega⟩)
                      replace z0 := cell_later hu3 z0
                      replace z1 := cell_later hu3 z1
                      replace z2 := cell_later hu3 z2
                      replace z3 := cell_later hu3 z3
                      replace o0 := cell_later hu3 o0
                      clear H3
                      go_wp2_with fail
                      refine H4.out.mono ?_
                      rintro e U4 ⟨rfl, hu4⟩
                      have hd4 := hd3.trans (hu4.mono hd3.size)
                      have hw4 := (hbw2 _).trans (((hu1.trans (hu2.mono hu1.size)).trans ((hu3.trans (hu4.mono hu3.size)).mono (hu1.trans (hu2.mono hu1.size)).size)).mono (hbw2 _).size)
                      replace o0 := cell_later hu4 o0
                      clear H4 hu1 hu2 hu3 hu4 hd1 hd2 hd3
                      obtain ⟨cc1, cc2, cc3, cc4, ⟨x1, x2⟩, ⟨x3, x4⟩, ⟨x5, x6⟩, ⟨x7, x8⟩, k1', k2', k3'⟩ := NB.out p q hpl hql hna.out hnb.out
                      rw [x1, x2, x3, x4, x5, x6, x7, x8]
                      clear NB x1 x2 x3 x4 x5 x6 x7 x8 hna hnb c0 c1 c2 c3 z0 z1 z2 z3
                      go_wp2_with fail
                      rw [max_zero4]
                      by_cases ek : ok = 1
                      · have tk : ((ok : Int) != 1) = false := by simp [ek]
                        by_cases e1 : cc1 = cc2
                        · have e2 := k1' e1
                          have v1 : ((cc1 : Int) == (cc2 : Int)) = true := by simp [e1]
                          have v2 : ((cc3 : Int) != (cc4 : Int)) = false := by simp [e2]
                          have v3 : ¬ (cc1 : Int) < (cc2 : Int) := by omega
                          clear k1' k2' k3' e1 e2 ek
                          go_wp2_with fail
                          go_roundw
                          case rel => exact ⟨q + 1, by go_num, by omega, hw4⟩
                          case measure => simp [intOf]; omega
                        · have v1 : ((cc1 : Int) == (cc2 : Int)) = false := by simp; omega
                          by_cases e3 : cc1 < cc2
                          · have e4 := k3' e3
                            have v3 : (cc1 : Int) < (cc2 : Int) := by omega
                            have v4 : ¬ (cc4 : Int) < (cc3 : Int) := by omega
                            clear k1' k2' k3' e1 e3 e4 ek
                            go_wp2_with fail
                            go_roundw
                            case rel => exact ⟨q + 1, by go_num, by omega, hw4⟩
                            case measure => simp [intOf]; omega
                          · have v3 : ¬ (cc1 : Int) < (cc2 : Int) := by omega
                            clear k1' k2' k3' e1 e3 ek
                            go_wp2_with fail
                            go_roundw
                            case rel => exact ⟨q + 1, by go_num, by omega, hw4⟩
                            case measure => simp [intOf]; omega
                      · have tk : ((ok : Int) != 1) = true := by simpa using ek
                        by_cases e1 : cc1 = cc2
                        · have e2 := k1' e1
                          have v1 : ((cc1 : Int) == (cc2 : Int)) = true := by simp [e1]
                          have v2 : ((cc3 : Int) != (cc4 : Int)) = false := by simp [e2]
                          have v5 : ((cc3 : Int) == (cc4 : Int)) = true := by simp [e2]
                          have v3 : ¬ (cc1 : Int) < (cc2 : Int) := by omega
                          clear k1' k2' k3' e1 e2 ek
                          go_wp2_with fail
                          go_roundw
                          case rel => exact ⟨q + 1, by go_num, by omega, hw4⟩
                          case measure => simp [intOf]; omega
                        · have v1 : ((cc1 : Int) == (cc2 : Int)) = false := by simp; omega
                          have e5 := k2' ek e1
                          have v5 : ((cc3 : Int) == (cc4 : Int)) = false := by simp; omega
                          by_cases e3 : cc1 < cc2
                          · have e4 := k3' e3
                            have v3 : (cc1 : Int) < (cc2 : Int) := by omega
                            have v4 : ¬ (cc4 : Int) < (cc3 : Int) := by omega
                            clear k1' k2' k3' e1 e3 e4 ek e5
                            go_wp2_with fail
                            go_roundw
                            case rel => exact ⟨q + 1, by go_num, by omega, hw4⟩
                            case measure => simp [intOf]; omega
                          · have v3 : ¬ (cc1 : Int) < (cc2 : Int) := by omega
                            clear k1' k2' k3' e1 e3 ek e5
                            go_wp2_with fail
                            go_roundw
                            case rel => exact ⟨q + 1, by go_num, by omega, hw4⟩
                            case measure => simp [intOf]; omega
                  · have u3 : (og.toList == g2.toList) = false := str_no p3
                    have hnb : Hid (¬ (og = g2 ∧ ot = (q : Int))) := fun h => p3 h.1
                    clear p1 p3
                    go_wp2_with fail
                    go_quiet (fail)
                    have hbw2 : ∀ n, Below wo.heap.size wo (wr.drewN n) := fun n => below_drewN hb2 n
                    have hbq : ∀ n, Below W5.heap.size W5 (wr.drewN n) := fun n => hb.trans ((hbw2 n).mono hb.size)
                    have hbr3 : ∀ n, Below w.heap.size w (wr.drewN n) := fun n => HB6.out.trans ((hbq n).mono HB6.out.size)
                    clear u1 u2 hb2
                    clear u3
                    have H1 := Lib.hid (fun n => HFQ.out _ (hbr3 n) s (p : Int) hs ⟨by omega, by omega⟩)
                    go_wp2_with fail
                    refine (H1.out _).mono ?_
                    rintro e U1 ⟨rfl, hu1⟩
                    have hd1 := (hbq _).trans (hu1.mono (hbq _).size)
                    have H2 := Lib.hid (HFQ.out _ (HB6.out.trans (hd1.mono HB6.out.size)) t (q : Int) ht ⟨by omega, by omega⟩)
                    replace c0 := cell_later hu1 c0
                    replace c1 := cell_later hu1 c1
                    replace c2 := cell_later hu1 c2
                    replace c3 := cell_later hu1 c3
                    replace o0 := cell_later hu1 o0
                    replace z0 := cell_later hu1 z0
                    replace z1 := cell_later hu1 z1
                    replace z2 := cell_later hu1 z2
                    replace z3 := cell_later hu1 z3
                    clear H1
                    go_wp2_with fail
                    refine H2.out.mono ?_
                    rintro e U2 ⟨rfl, hu2⟩
                    have hd2 := hd1.trans (hu2.mono hd1.size)
                    have H3 := Lib.hid (HFY.out _ hd2 s (p : Int) hs ⟨by omega, by omega⟩)
                    replace z0 := cell_later hu2 z0
                    replace z1 := cell_later hu2 z1
                    replace z2 := cell_later hu2 z2
                    replace z3 := cell_later hu2 z3
                    replace o0 := cell_later hu2 o0
                    clear H2
                    go_wp2_with fail
                    refine H3.out.mono ?_
                    rintro e U3 ⟨rfl, hu3⟩
                    have hd3 := hd2.trans (hu3.mono hd2.size)
                    have H4 := Lib.hid (HFY.out _ hd3 t (q : Int) ht ⟨by omega, by omega⟩)
                    replace z0 := cell_later hu3 z0
                    replace z1 := cell_later hu3 z1
                    replace z2 := cell_later hu3 z2
                    replace z3 := cell_later hu3 z3
                    replace o0 := cell_later hu3 o0
                    clear H3
                    go_wp2_with fail
                    refine H4.out.mono ?_
                    rintro e U4 ⟨rfl, hu4⟩
                    have hd4 := hd3.trans (hu4.mono hd3.size)
                    have hw4 := (hbw2 _).trans (((hu1.trans (hu2.mono hu1.size)).trans ((hu3.trans (hu4.mono hu3.size)).mono (hu1.trans (hu2.mono hu1.size)).size)).mono (hbw2 _).size)
                    replace o0 := cell_later hu4 o0
                    clear H4 hu1 hu2 hu3 hu4 hd1 hd2 hd3
                    obtain ⟨cc1, cc2, cc3, cc4, ⟨x1, x2⟩, ⟨x3, x4⟩, ⟨x5, x6⟩, ⟨x7, x8⟩, k1', k2', k3'⟩ := NB.out p q hpl hql hna.out hnb.out
                    rw [x1, x2, x3, x4, x5, x6, x7, x8]
                    clear NB x1 x2 x3 x4 x5 x6 x7 x8 hna hnb c0 c1 c2 c3 z0 z1 z2 z3
                    go_wp2_with fail
                    rw [max_zero4]
                    by_cases ek : ok = 1
                    · have tk : ((ok : Int) != 1) = false := by simp [ek]
                      by_cases e1 : cc1 = cc2
                      · have e2 := k1' e1
                        have v1 : ((cc1 : Int) == (cc2 : Int)) = true := by simp [e1]
                        have v2 : ((cc3 : Int) != (cc4 : Int)) = false := by simp [e2]
                        have v3 : ¬ (cc1 : Int) < (cc2 : Int) := by omega
                        clear k1' k2' k3' e1 e2 ek
                        go_wp2_with fail
                        go_roundw
                        case rel => exact ⟨q + 1, by go_num, by omega, hw4⟩
                        case measure => simp [intOf]; omega
                      · have v1 : ((cc1 : Int) == (cc2 : Int)) = false := by simp; omega
                        by_cases e3 : cc1 < cc2
                        · have e4 := k3' e3
                          have v3 : (cc1 : Int) < (cc2 : Int) := by omega
                          have v4 : ¬ (cc4 : Int) < (cc3 : Int) := by omega
                          clear k1' k2' k3' e1 e3 e4 ek
                          go_wp2_with fail
                          go_roundw
                          case rel => exact ⟨q + 1, by go_num, by omega, hw4⟩
                          case measure => simp [intOf]; omega
                        · have v3 : ¬ (cc1 : Int) < (cc2 : Int) := by omega
                          clear k1' k2' k3' e1 e3 ek
                          go_wp2_with fail
                          go_roundw
                          case rel => exact ⟨q + 1, by go_num, by omega, hw4⟩
                          case measure => simp [intOf]; omega
                    · have tk : ((ok : Int) != 1) = true := by simpa using ek
                      by_cases e1 : cc1 = cc2
                      · have e2 := k1' e1
                        have v1 : ((cc1 : Int) == (cc2 : Int)) = true := by simp [e1]
                        have v2 : ((cc3 : Int) != (cc4 : Int)) = false := by simp [e2]
                        have v5 : ((cc3 : Int) == (cc4 : Int)) = true := by simp [e2]
                        have v3 : ¬ (cc1 : Int) < (cc2 : Int) := by omega
                        clear k1' k2' k3' e1 e2 ek
                        go_wp2_with fail
                        go_roundw
                        case rel => exact ⟨q + 1, by go_num, by omega, hw4⟩
                        case measure => simp [intOf]; omega
                      · have v1 : ((cc1 : Int) == (cc2 : Int)) = false := by simp; omega
                        have e5 := k2' ek e1
                        have v5 : ((cc3 : Int) == (cc4 : Int)) = false := by simp; omega
                        by_cases e3 : cc1 < cc2
                        · have e4 := k3' e3
                          have v3 : (cc1 : Int) < (cc2 : Int) := by omega
                          have v4 : ¬ (cc4 : Int) < (cc3 : Int) := by omega
                          clear k1' k2' k3' e1 e3 e4 ek e5
                          go_wp2_with fail
                          go_roundw
                          case rel => exact ⟨q + 1, by go_num, by omega, hw4⟩
                          case measure => simp [intOf]; omega
                        · have v3 : ¬ (cc1 : Int) < (cc2 : Int) := by omega
                          clear k1' k2' k3' e1 e3 ek e5
                          go_wp2_with fail
                          go_roundw
                          case rel => exact ⟨q + 1, by go_num, by omega, hw4⟩
                          case measure => simp [intOf]; omega
              · obtain rfl : m2 = q := by omega
                go_wp2_with fail
                go_roundw
                case rel => exact ⟨p + 1, by go_num, by omega, hb.trans (hb2.mono hb.size)⟩
                case measure => simp [intOf]; omega
          · obtain rfl : m1 = p := by omega
            clear NB HFY
            have HA1 := Lib.hid (HAW.out _ hbr)
            go_wp2_with fail
            refine HA1.out.mono ?_
            rintro e W9 ⟨rfl, hb9⟩
            go_wp2
            go_ret
            exact ⟨rfl, hbr.trans (hb9.mono hbr.size)⟩
    · have t0 : ((E : Int) != 0) = true := by simp [h0]
      clear HNB HYQ h0 HX5
      have HA1 := Lib.hid (HAW.out _ hb8)
      go_wp2_with fail
      refine HA1.out.mono ?_
      rintro e W9 ⟨rfl, hb9⟩
      go_wp2
      go_ret
      exact ⟨rfl, hb8.trans (hb9.mono hb8.size)⟩
end Go.Proofs.YtbdgmgddliploaaGreatDoor
