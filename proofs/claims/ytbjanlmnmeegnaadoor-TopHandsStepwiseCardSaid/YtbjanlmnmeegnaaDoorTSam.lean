/- Same of the reference: nodes that are equal. -/
import Derived.Test.YtbjanlmnmeegnaaDoorTVal
import Derived.Test.YtbjanlmnmeegnaaDoorETree
set_option linter.unusedVariables false
set_option linter.unusedSimpArgs false
namespace Go.Proofs.YtbjanlmnmeegnaaDoor
open Go.RowKit

theorem cnt_mem : ∀ {l : List Nd} {x : Nd}, x ∈ l → cntN x ≤ cntL l
  | [], x, h => by cases h
  | y :: r, x, h => by
    unfold cntL
    rcases List.mem_cons.1 h with rfl | h
    · omega
    · have := cnt_mem h; omega
theorem er_kind (v : Vl) : v.er = .mk v.kind v.text v.num (v.items.map Vl.er) := by
  obtain ⟨k, n, t, a, c, l⟩ := v
  rw [Vl.er, Vl.erL_map]; rfl
set_option maxRecDepth 100000 in
set_option maxHeartbeats 8000000 in
theorem same_yes : ∀ (N : Nat) (S T : Nat → Prop) (a b : Option Addr) (n c m d : Nat) (vs us : List Vl) (w : World), cntL (vs.map Vl.er) ≤ N → Vals S w a n c vs → Vals T w b m d us → vs.map Vl.er = us.map Vl.er →
    Calls Tryd.prog 9 #[.slice a n c, .slice b m d] w fun e w' => e = .returned (.bool true) ∧ Below w.heap.size w w' := by
  intro N
  induction N with
  | zero =>
    intro S T a b n c m d vs us w hN hv hu he
    have h0 : vs = [] := by
      cases vs with
      | nil => rfl
      | cons v r => rw [List.map_cons, er_kind, cntL, cntN] at hN; omega
    subst h0
    have h1 : us = [] := by
      cases us with
      | nil => rfl
      | cons => cases he
    subst h1
    obtain rfl : n = 0 := hv.1
    obtain rfl : m = 0 := hu.1
    clear hN hv hu he
    go_enter Tryd.func9, Tryd.ntmps9
    go_wp2
    go_loopw [5] (fun i wr => i = .int .i64 0 ∧ wr = w) (fun _ _ => 0)
    case atStart => exact ⟨rfl, rfl⟩
    case round =>
      obtain ⟨rfl, rfl⟩ := hrel
      go_wp2
      go_ret
      exact ⟨rfl, Below.refl _ _⟩
  | succ N ih =>
    intro S T a b n c m d vs us w hN hv hu he
    have hln : n = m := by rw [hv.1, hu.1, ← List.length_map (f := Vl.er), he, List.length_map]
    subst hln
    have HV := Lib.hid hv
    have HU := Lib.hid hu
    have hnb := hv.2.2.1
    have hIH : Hid (∀ (k : Nat) v u (W : World), vs[k]? = some v → us[k]? = some u → Below w.heap.size w W → Calls Tryd.prog 9 #[.slice v.addr v.items.length v.cap, .slice u.addr u.items.length u.cap] W fun e w' => e = .returned (.bool true) ∧ Below W.heap.size W w') := fun k v u W h1 h2 hb => by
      have e1 : v.er = u.er := by
        have q1 : (vs.map Vl.er)[k]? = some v.er := by rw [List.getElem?_map, h1]; rfl
        have q2 : (us.map Vl.er)[k]? = some u.er := by rw [List.getElem?_map, h2]; rfl
        rw [he, q2] at q1; exact (Option.some.inj q1).symm
      have hc := cnt_mem (List.mem_map_of_mem (f := Vl.er) (List.mem_of_getElem? h1))
      rw [er_kind v, cntN] at hc
      have r1 := (rd_iff.1 (hv.2.2.2 k v h1).2).2.2.2
      have r2 := (rd_iff.1 (hu.2.2.2 k u h2).2).2.2.2
      rw [er_kind v, er_kind u] at e1
      injection e1 with _ _ _ e4
      exact ih S T _ _ _ _ _ _ v.items u.items W (by omega) (r1.below hb) (r2.below hb) e4
    have hEQ : Hid (∀ (k : Nat) v u, vs[k]? = some v → us[k]? = some u → v.kind = u.kind ∧ v.text = u.text ∧ v.num = u.num) := fun k v u h1 h2 => by
      have e1 : v.er = u.er := by
        have q1 : (vs.map Vl.er)[k]? = some v.er := by rw [List.getElem?_map, h1]; rfl
        have q2 : (us.map Vl.er)[k]? = some u.er := by rw [List.getElem?_map, h2]; rfl
        rw [he, q2] at q1; exact (Option.some.inj q1).symm
      rw [er_kind v, er_kind u] at e1
      injection e1 with x1 x2 x3 _
      exact ⟨x1, x2, x3⟩
    clear hN hv hu he ih
    go_enter Tryd.func9, Tryd.ntmps9
    go_wp2
    go_loopw [5] (fun i wr => ∃ k : Nat, i = .int .i64 k ∧ k ≤ n ∧ Below w.heap.size w wr) (fun i _ => n - (intOf i).toNat)
    case atStart => exact ⟨0, rfl, Nat.zero_le _, Below.refl _ _⟩
    case round =>
      obtain ⟨k, rfl, hk, hB⟩ := hrel
      by_cases hkl : k < n
      · obtain ⟨v, b1, o1, h1, -, ea, -, -, ⟨d0, d1, d2, d3⟩, -⟩ := (HV.out.below hB).get hkl
        obtain ⟨u, b2, o2, h2, -, eb, -, -, ⟨e0, e1, e2, e3⟩, -⟩ := (HU.out.below hB).get hkl
        subst ea
        subst eb
        have HCC := Lib.hid (fun W hb => hIH.out k v u W h1 h2 hb)
        obtain ⟨q1, q2, q3⟩ := hEQ.out k v u h1 h2
        obtain ⟨vk, vn, vt, va, vc, vl⟩ := v
        obtain ⟨uk, un, ut, ua, uc, ul⟩ := u
        dsimp only [Vl.kind, Vl.num, Vl.text, Vl.sl, Vl.addr, Vl.items, Vl.cap] at d0 d1 d2 d3 e0 e1 e2 e3 q1 q2 q3 HCC
        subst q1 q2 q3
        have hts : (vt.toList == vt.toList) = true := by simp
        have HB := Lib.hid hB
        clear h1 h2 hB
        go_wp2_with fail
        obtain ⟨X, Wf, hX, hS1, hS2⟩ := family (fun V => Below wr.heap.size wr V) wr (Below.refl _ _)
        have HS2q := Lib.hid hS2
        have q_d0 := fun x => cell_later (hS1 x) d0
        have q_d1 := fun x => cell_later (hS1 x) d1
        have q_d2 := fun x => cell_later (hS1 x) d2
        have q_d3 := fun x => cell_later (hS1 x) d3
        have q_e0 := fun x => cell_later (hS1 x) e0
        have q_e1 := fun x => cell_later (hS1 x) e1
        have q_e2 := fun x => cell_later (hS1 x) e2
        have q_e3 := fun x => cell_later (hS1 x) e3
        clear hS1 hS2
        have hd0 : Below wr.heap.size wr wr.drew := (Below.refl _ _).drew
        refine wp_region_tree (Wf := Wf) 50 (.read 0 (.read 1 (.read 2 (.read 3 (.read 4 (.read 5 (.read 6 (.read 7 (.read 8 (.read 9 (.read 10 (.read 11 (.read 12 (.read 13 (.read 14 (.read 15 (.read 16 (.read 17 (.read 18 (.read 19 (.read 20 (.read 21 (.read 22 (.read 23 (.read 24 (.read 25 (.read 26 (.read 27 (.read 28 (.read 29 (.read 30 (.read 31 (.read 32 (.read 33 (.read 34 (.read 35 (.read 36 (.read 37 (.read 38 (.read 39 (.read 40 (.read 41 (.read 42 (.read 43 (.read 44 (.read 45 (.read 46 (.read 47 (.act 48 (.read 49 .fin)))))))))))))))))))))))))))))))))))))))))))))))))) (by kernel_rfl) (by kernel_rfl) (fun _ _ d _ _ h => by cases d <;> exact h) (HS2q.out _ hd0) ?_
        refine wpTree_read _ rfl (fun K hK => ?_); unfold rOp; go_simp; (refine hK _ ?_; clear hK K)
        refine wpTree_read _ rfl (fun K hK => ?_); unfold rOp; go_simp; (refine hK _ ?_; clear hK K)
        refine wpTree_read _ rfl (fun K hK => ?_); unfold rOp; go_simp; (refine hK _ ?_; clear hK K)
        refine wpTree_read _ rfl (fun K hK => ?_); unfold rOp; go_simp; (refine hK _ ?_; clear hK K)
        refine wpTree_read _ rfl (fun K hK => ?_); unfold rOp; go_simp; (refine hK _ ?_; clear hK K)
        refine wpTree_read _ rfl (fun K hK => ?_); unfold rOp; go_simp; (refine hK _ ?_; clear hK K)
        refine wpTree_read _ rfl (fun K hK => ?_); unfold rOp; go_simp; (refine hK _ ?_; clear hK K)
        refine wpTree_read _ rfl (fun K hK => ?_); unfold rOp; go_simp; (refine hK _ ?_; clear hK K)
        refine wpTree_read _ rfl (fun K hK => ?_); unfold rOp; go_simp; (refine hK _ ?_; clear hK K)
        refine wpTree_read _ rfl (fun K hK => ?_); unfold rOp; go_simp; (refine hK _ ?_; clear hK K)
        refine wpTree_read _ rfl (fun K hK => ?_); unfold rOp; go_simp; (refine hK _ ?_; clear hK K)
        refine wpTree_read _ rfl (fun K hK => ?_); unfold rOp; go_simp; (refine hK _ ?_; clear hK K)
        refine wpTree_read _ rfl (fun K hK => ?_); unfold rOp; go_simp; (refine hK _ ?_; clear hK K)
        refine wpTree_read _ rfl (fun K hK => ?_); unfold rOp; go_simp; (refine hK _ ?_; clear hK K)
        refine wpTree_read _ rfl (fun K hK => ?_); unfold rOp; go_simp; (refine hK _ ?_; clear hK K)
        refine wpTree_read _ rfl (fun K hK => ?_); unfold rOp; go_simp; (refine hK _ ?_; clear hK K)
        refine wpTree_read _ rfl (fun K hK => ?_); unfold rOp; go_simp; (refine hK _ ?_; clear hK K)
        refine wpTree_read _ rfl (fun K hK => ?_); unfold rOp; go_simp; (refine hK _ ?_; clear hK K)
        refine wpTree_read _ rfl (fun K hK => ?_); unfold rOp; go_simp; (refine hK _ ?_; clear hK K)
        refine wpTree_read _ rfl (fun K hK => ?_); unfold rOp; go_simp; (refine hK _ ?_; clear hK K)
        refine wpTree_read _ rfl (fun K hK => ?_); unfold rOp; go_simp; (refine hK _ ?_; clear hK K)
        refine wpTree_read _ rfl (fun K hK => ?_); unfold rOp; go_simp; (refine hK _ ?_; clear hK K)
        refine wpTree_read _ rfl (fun K hK => ?_); unfold rOp; go_simp; (refine hK _ ?_; clear hK K)
        refine wpTree_read _ rfl (fun K hK => ?_); unfold rOp; go_simp; (refine hK _ ?_; clear hK K)
        refine wpTree_read _ rfl (fun K hK => ?_); unfold rOp; go_simp; (refine hK _ ?_; clear hK K)
        refine wpTree_read _ rfl (fun K hK => ?_); unfold rOp; go_simp; (refine hK _ ?_; clear hK K)
        refine wpTree_read _ rfl (fun K hK => ?_); unfold rOp; go_simp; (refine hK _ ?_; clear hK K)
        refine wpTree_read _ rfl (fun K hK => ?_); unfold rOp; go_simp; (refine hK _ ?_; clear hK K)
        refine wpTree_read _ rfl (fun K hK => ?_); unfold rOp; go_simp; (refine hK _ ?_; clear hK K)
        refine wpTree_read _ rfl (fun K hK => ?_); unfold rOp; go_simp; (refine hK _ ?_; clear hK K)
        refine wpTree_read _ rfl (fun K hK => ?_); unfold rOp; go_simp; (refine hK _ ?_; clear hK K)
        refine wpTree_read _ rfl (fun K hK => ?_); unfold rOp; go_simp; (refine hK _ ?_; clear hK K)
        refine wpTree_read _ rfl (fun K hK => ?_); unfold rOp; go_simp; (refine hK _ ?_; clear hK K)
        refine wpTree_read _ rfl (fun K hK => ?_); unfold rOp; go_simp; (refine hK _ ?_; clear hK K)
        refine wpTree_read _ rfl (fun K hK => ?_); unfold rOp; go_simp; (refine hK _ ?_; clear hK K)
        refine wpTree_read _ rfl (fun K hK => ?_); unfold rOp; go_simp; (refine hK _ ?_; clear hK K)
        refine wpTree_read _ rfl (fun K hK => ?_); unfold rOp; go_simp; (refine hK _ ?_; clear hK K)
        refine wpTree_read _ rfl (fun K hK => ?_); unfold rOp; go_simp; (refine hK _ ?_; clear hK K)
        refine wpTree_read _ rfl (fun K hK => ?_); unfold rOp; go_simp; (refine hK _ ?_; clear hK K)
        refine wpTree_read _ rfl (fun K hK => ?_); unfold rOp; go_simp; (refine hK _ ?_; clear hK K)
        refine wpTree_read _ rfl (fun K hK => ?_); unfold rOp; go_simp; (refine hK _ ?_; clear hK K)
        refine wpTree_read _ rfl (fun K hK => ?_); unfold rOp; go_simp; (refine hK _ ?_; clear hK K)
        refine wpTree_read _ rfl (fun K hK => ?_); unfold rOp; go_simp; (refine hK _ ?_; clear hK K)
        refine wpTree_read _ rfl (fun K hK => ?_); unfold rOp; go_simp; (refine hK _ ?_; clear hK K)
        refine wpTree_read _ rfl (fun K hK => ?_); unfold rOp; go_simp; (refine hK _ ?_; clear hK K)
        refine wpTree_read _ rfl (fun K hK => ?_); unfold rOp; go_simp; (refine hK _ ?_; clear hK K)
        refine wpTree_read _ rfl (fun K hK => ?_); unfold rOp; go_simp; (refine hK _ ?_; clear hK K)
        refine wpTree_read _ rfl (fun K hK => ?_); unfold rOp; go_simp; (refine hK _ ?_; clear hK K)
        refine wpTree_act _ rfl ?_
        have HQ := Lib.hid (HCC.out wr.drew (HB.out.trans (hd0.mono HB.out.size)))
        go_wp2_with fail
        refine HQ.out.mono ?_
        rintro e V2 ⟨rfl, hst⟩
        have hd := hd0.trans (hst.mono hd0.size)
        go_wp2_with fail
        refine ⟨HS2q.out _ hd, ?_⟩
        refine wpTree_read _ rfl (fun K hK => ?_); unfold rOp; go_simp; (refine hK _ ?_; clear hK K)
        refine wpTree_fin ?_
        have hZ := Lib.hid (HB.out.trans (hd.mono HB.out.size))
        clear HS2q hX q_d0 q_d1 q_d2 q_d3 q_e0 q_e1 q_e2 q_e3 HQ hst hd hd0
        go_wp2
        go_roundw
        case rel => exact ⟨k + 1, by go_num, by omega, hZ.out⟩
        case measure => simp [intOf]; omega
      · obtain rfl : k = n := by omega
        have hZ := Lib.hid hB
        clear hB
        go_wp2
        go_ret
        exact ⟨rfl, hZ.out⟩
end Go.Proofs.YtbjanlmnmeegnaaDoor
