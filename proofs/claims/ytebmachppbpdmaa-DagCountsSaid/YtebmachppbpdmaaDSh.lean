/- dag.Shortest. -/
import Derived.Test.YtebmachppbpdmaaDTop
import Derived.Test.YtebmachppbpdmaaHead2
namespace Go.Proofs.Ytebmachppbpdmaa
open Go.RowKit Go.Shelf
attribute [local go_sem] Oper.semAt_some

theorem idx_sorted (ll : List Lk) (s : Nat) : (idx ll s).Pairwise (· < ·) := List.Pairwise.filter _ List.pairwise_lt_range
/-- The first fit in a row is the first of all. -/
theorem row_first {ll : List Lk} {p : List Int} {s : Nat} {pre : List (Edge ll s)} {x : Edge ll s} (h : pre ++ [x] <+: rowE ll s) (hno : ∀ y ∈ pre, ¬ Fit ll p s y.1) (hf : Fit ll p s x.1) : FirstFit ll p s x.1 := by
  refine ⟨(mem_idx.1 x.2).1, hf, fun j hj hfj => ?_⟩
  obtain ⟨rest, hr⟩ := h
  have hm : (rowE ll s).map (·.1) = idx ll s := by simp [rowE]
  have hp := idx_sorted ll s
  have hin : j ∈ idx ll s := mem_idx.2 ⟨by have := (mem_idx.1 x.2).1; omega, hfj.1⟩
  rw [← hm, ← hr] at hp hin
  simp only [List.map_append, List.map_cons, List.append_assoc, List.cons_append, List.nil_append] at hp hin
  rcases List.mem_append.1 hin with h1 | h1
  · obtain ⟨y, hy, rfl⟩ := List.mem_map.1 h1
    exact hno y hy hfj
  · have h2 := (List.pairwise_append.1 hp).2.1
    rcases List.mem_cons.1 h1 with e | e
    · omega
    · have := (List.pairwise_cons.1 h2).1 j e; omega
theorem row_done {ll : List Lk} {p : List Int} {s i : Nat} (h : FirstFit ll p s i) (hno : ∀ y ∈ rowE ll s, ¬ Fit ll p s y.1) : False :=
  hno ⟨i, mem_idx.2 ⟨h.1, h.2.1.1⟩⟩ (by simp [rowE]) h.2.1
theorem cells_kept {W W' : World} {b B : Nat} {o : Obj} {row : Option Nat} (h : W.heap[b]? = some o) (ho : o.isCells = true) (hg : W.grownBy W' row) (hr : ∀ r, row = some r → B ≤ r ∧ ∃ o : Obj, W.heap[r]? = some o ∧ o.isCells = false) : W'.heap[b]? = some o := by
  rw [hg.block b (Array.getElem?_eq_some_iff.1 h).1 (fun e => by obtain ⟨_, o', ho', hc⟩ := hr b e.symm; rw [h] at ho'; cases ho'; rw [ho] at hc; cases hc)]
  exact h
theorem OwnI.keptR {w w' : World} {B B' n cap : Nat} {a : Option Addr} {l : List Int} {row : Option Nat} (h : OwnI w B a n cap l) (hg : w.grownBy w' row) (hr : ∀ r, row = some r → B' ≤ r ∧ ∃ o : Obj, w.heap[r]? = some o ∧ o.isCells = false) : OwnI w' B a n cap l := by
  refine ⟨h.1, h.2.kept hg ?_⟩
  rcases h.2.2 with ⟨e, _⟩ | ⟨g', c, cur, e, _, hgb, _⟩
  · left; rw [e]; rfl
  · right
    rw [e]
    intro e'
    obtain ⟨_, o, ho, hc⟩ := hr g' e'.symm
    rw [hgb] at ho
    cases ho
    cases hc

theorem ownsRow_cells {w : World} {B : Nat} {e : TypeId} {size : Nat} {v : Value} {n : Nat} {xs : List Value} (h : w.ownsRow B e size v n xs) {j : Nat} {o : Obj} (hj : v.ownBlock = some j) (ho : w.heap[j]? = some o) : o.isCells = true := by
  rcases h.2 with ⟨rfl, _⟩ | ⟨g, c, cur, rfl, _, hg, _⟩
  · cases hj
  · cases hj
    rw [hg] at ho
    cases ho
    rfl
theorem keepsOthers_drewN (W : World) (q : Nat) : KeepsOthers W (W.drewN q) := ⟨Nat.le_refl _, fun _ _ h _ => h⟩
theorem OwnI.keptNe {w w' : World} {B n cap : Nat} {a : Option Addr} {l : List Int} {row : Option Nat} (h : OwnI w B a n cap l) (hg : w.grownBy w' row) (hne : (Value.slice a n cap).ownBlock ≠ row) : OwnI w' B a n cap l := ⟨h.1, h.2.kept hg (.inr hne)⟩
set_option maxRecDepth 100000 in
set_option maxHeartbeats 4000000 in
theorem shortest_any (n : Int) (a : Option Addr) (m cap : Nat) (s t : Int) (ll : List Lk) (w : World) (h : Links w a m cap ll) (hs : I64 s) (ht : I64 t) :
    Calls Try.prog 14 #[.int .i64 n, .slice a m cap, .int .i64 s, .int .i64 t] w fun e w' => ∃ (a' : Option Addr) (q c' : Nat) (r : List Int),
      e = .returned (.tuple #[.slice a' q c', .int .i64 (shCost n ll s t), .int .i64 (shErr n ll s t)]) ∧ Ints w' a' q c' r ∧ ShPath n ll s t r ∧ Below w.heap.size w w' := by
  have H := Lib.hid h.len
  have F := Lib.hid (check2_lit n a m cap s t ll w h hs ht)
  obtain ⟨i0, hi, hz0, hz1, hz2⟩ := info_parts Try.infoInt
  by_cases h0 : chk2 n ll s t = 0
  · obtain ⟨k, u0, b, rfl, rfl, rfl, hu0, hb, hk, hm, hv⟩ := chk2_ok h0
    rw [h0] at F
    have HV : Hid (Valid k ll) := hv
    have hmm : m ≤ 65536 := by rw [h.len]; exact hm
    have E1 : Hid (shCost k ll u0 b = max 0 ((pots ll k b)[u0]?.getD 0)) := by show shCost k ll u0 b = _; rw [shCost, if_pos h0]; rfl
    have E2 : Hid (shErr k ll u0 b = if (pots ll k b)[u0]?.getD 0 < 0 then 6 else 0) := by show shErr k ll u0 b = _; rw [shErr, if_pos h0]; rfl
    have E3 : Hid (∀ r, ShPath k ll u0 b r ↔ if 0 ≤ (pots ll k b)[u0]?.getD 0 then GPath ll (pots ll k b) b u0 r else r = []) := fun r => by
      unfold ShPath
      rw [h0]
      simp
    have HP : Hid (FoldOk potW ll k b 0 (pots ll k b)) := pots_ok hv hb
    have HW : Hid (Within (pots ll k b) 4398046511105) := pots_within hv hk hb
    clear h0 hv hm
    refine (callsIn_wide (n := 10)).1 ?_
    refine callsIn_of_wp_marks Try.func14 rfl trivial ?_ rfl
    simp only [Try.ntmps14, List.size_toArray, List.length_cons, List.length_nil, Nat.reduceAdd, Nat.reduceSub, Array.replicate_succ, Array.replicate_zero, List.push_toArray, List.append_toArray, List.nil_append, List.cons_append]
    gi_wp2_with (refine ⟨trivial, ?_⟩; gi_at_call 39; refine (callsIn_wide.2 F.out).mono ?_; rintro e w1 ⟨rfl, b1⟩)
    refine ⟨trivial, (callsIn_wide.2 (potentials_in k a m cap b ll w1 (h.below b1) HV.out hk hmm hb)).mono ?_⟩
    rintro e w2 ⟨a2, c2, rfl, o2, b2⟩
    have b3 := b1.trans (b2.mono b1.size)
    have h2 := h.below b3
    have hsz2 := b3.size
    change OwnI w2 _ a2 k c2 (pots ll k b) at o2
    generalize pots ll k b = p at *
    obtain ⟨g, rfl, -, hgs, -, -, hc⟩ := o2.at_ (by omega)
    have c1 := hc.out u0 hu0
    clear b1 b2 F
    by_cases hL : p[u0]?.getD 0 < 0
    · have E4 : Hid (shCost k ll u0 b = 0 ∧ shErr k ll u0 b = 6 ∧ ShPath k ll u0 b []) := ⟨by rw [E1.out]; omega, by rw [E2.out, if_pos hL], by rw [E3.out, if_neg (by omega)]⟩
      gi_wp2
      exact ⟨_, results_tmp3 rfl _ _ _, none, 0, 0, [], by rw [E4.out.1, E4.out.2.1]; rfl, Ints.nil _, E4.out.2.2, b3.alloc hsz2 _⟩
    · have E4 : Hid (shCost k ll u0 b = p[u0]?.getD 0 ∧ shErr k ll u0 b = 0 ∧ ∀ r, GPath ll p b u0 r → ShPath k ll u0 b r) := ⟨by rw [E1.out]; omega, by rw [E2.out, if_neg hL], fun r hr => by rw [E3.out, if_pos (by omega)]; exact hr⟩
      have hp0 : Hid (0 ≤ p[u0]?.getD 0) := by show 0 ≤ _; omega
      have hLd : decide (p[u0]?.getD 0 < 0) = false := by simpa using hL
      clear E1 E2 E3
      gi_wp2
      obtain ⟨w3, hw3⟩ : ∃ w3, w3 = (w2.alloc (.cells #[.slice (some ⟨g, 0, none⟩) k c2] 26)).alloc (.cells #[.slice none 0 0] 26) := ⟨_, rfl⟩
      have hsz3 : w3.heap.size = w2.heap.size + 2 := by rw [hw3]; simp
      have b23 : Below w2.heap.size w2 w3 := by rw [hw3]; exact ((Below.refl _ w2).alloc (Nat.le_refl _) _).alloc (by simp) _
      have cp3 : w3.heap[w2.heap.size]? = some (.cells #[.slice (some ⟨g, 0, none⟩) k c2] 26 (0, 0)) := by
        rw [hw3, Below.heap_alloc _ _ _ (by simp)]; exact World.alloc_heap_new _ _
      have co3 : w3.heap[w2.heap.size + 1]? = some (.cells #[.slice none 0 0] 26 (0, 0)) := by
        have := World.alloc_heap_new (w2.alloc (.cells #[.slice (some ⟨g, 0, none⟩) k c2] 26)) (.cells #[.slice none 0 0] 26)
        rw [World.size_alloc] at this
        rw [hw3]; exact this
      rw [← hw3]
      refine ⟨trivial, (callsIn_wide.2 (leaving_any k a m cap ll w3 (h2.below b23) HV.out hk hmm)).mono ?_⟩
      rintro e w4 ⟨la, lc, rfl, o4, b4⟩
      replace cp3 := cell_of_one ((b4.block w2.heap.size (by omega)).trans cp3)
      replace co3 := (b4.block (w2.heap.size + 1) (by omega)).trans co3
      have b24 : Below w2.heap.size w2 w4 := b23.trans (b4.mono (by omega))
      have h4 := h2.below b24
      have hsz4 : w2.heap.size + 2 ≤ w4.heap.size := by have := b4.size; omega
      have hB4 : Below w.heap.size w w4 := b3.trans (b24.mono hsz2)
      have hpc : ∀ j, j < k → w4.cell? ⟨g, j, none⟩ = some (.int .i64 (p[j]?.getD 0)) := fun j hj => cell_later b24 (hc.out j hj)
      have HPC := Lib.hid hpc
      replace o4 : OwnII w4 (w2.heap.size + 2) la k lc (leaveTo ll k ll.length) := by rw [← hsz3]; exact o4
      clear hw3 hsz3 b23 b4 c1 hc o2 hpc h2 hs ht w3 w1
      gi_wp2
      have hget : ∀ s, s < k → ∃ gl ra rn rc, la = some ⟨gl, 0, none⟩ ∧ w2.heap.size + 2 ≤ gl ∧ gl < w4.heap.size ∧ w4.cell? ⟨gl, s, none⟩ = some (.slice ra rn rc) ∧ Ints w4 ra rn rc (rowTo ll s ll.length) ∧ ∀ x, ra = some x → w2.heap.size + 2 ≤ x.block ∧ x.block < w4.heap.size := by
        intro s hs
        obtain ⟨gl, ra, rn, rc, e, hB, hlt, _, hc, ho, _⟩ := o4.at_ hs
        rw [leaveTo_at hs] at ho
        have hlen := ho.len
        have hrl := rowTo_length ll s ll.length
        have hmm' := H.out
        refine ⟨gl, ra, rn, rc, e, by omega, hlt, hc, ho.ints (by omega) (fun x hx => ?_), fun x hx => ?_⟩
        · obtain ⟨i, hi, rfl⟩ := List.mem_map.1 hx
          have := (mem_idxTo.1 hi).1
          exact I64.small (by omega) (by omega)
        · have := ho.2.lt x.block (ownBlock_some hx)
          omega
      have HG := Lib.hid hget
      have hlk : ∀ x, a = some x → 0 < m → x.block < w2.heap.size := fun x hx hm0 => by
        obtain ⟨b, off, e, hb, _⟩ := h.at_ hm0
        rw [e] at hx; cases hx; exact Nat.lt_of_lt_of_le hb hsz2
      have HLK := Lib.hid hlk
      have X0 := World.alloc_heap_new w4 (.cells #[.int .i64 (u0 : Int)] 3)
      have B0 : Below w4.heap.size w4 (w4.alloc (.cells #[.int .i64 (u0 : Int)] 3)) := (Below.refl _ w4).alloc (Nat.le_refl _) _
      generalize w4.alloc (.cells #[.int .i64 (u0 : Int)] 3) = W0 at *
      clear hget hlk h
      refine wpIn_loop_ghost_k (fun c a' W' => ∃ (bs u on oc : Nat) (oa : Option Addr) (pre : List Int) (ds : List Deferred) (u40 u41 u42 u43 u44 u45 u46 u76 : Value), c + u = b ∧ u < k ∧ on ≤ u ∧ w4.heap.size ≤ bs ∧ W'.heap[bs]? = some (.cells #[.int .i64 (u : Int)] 3 (0, 0)) ∧ W'.heap[w2.heap.size + 1]? = some (.cells #[.slice oa on oc] 26 (0, 0)) ∧ (∀ x, oa = some x → x.block ≠ bs) ∧ Keep w4.heap.size (w2.heap.size + 1) w4 W' ∧
        OwnI W' w4.heap.size oa on oc pre ∧ Below w.heap.size w W' ∧ Marks w4.heap.size ds W' ∧ Hid (∀ rest, GPath ll p b u rest → GPath ll p b u0 (pre ++ rest)) ∧ Hid (0 ≤ p[u]?.getD 0) ∧ a' = { tmps := #[.int .i64 k, .slice a m cap, .int .i64 u0, .int .i64 b, undef, undef, undef, undef, .slice none 0 0, .int .i64 0, .int .i64 0, .int .i64 0, .pointer (some ⟨w2.heap.size, 0, none⟩), .pointer (some ⟨w2.heap.size + 1, 0, none⟩), .slice la k lc, .pointer (some ⟨bs, 0, none⟩), undef, undef, .int .i64 k, .slice a m cap, .int .i64 u0, .int .i64 b, .slice (some ⟨w.heap.size, 0, none⟩) 2 2, .int .i64 0, .int .i64 0, .bool false, undef, .int .i64 k, .slice a m cap, .int .i64 b, .slice (some ⟨g, 0, none⟩) k c2, .slice (some ⟨g, 0, none⟩) k c2, .int .i64 u0, .pointer (some ⟨g, u0, none⟩), .int .i64 (p[u0]?.getD 0), .bool false, .int .i64 k, .slice a m cap, .slice la k lc, .int .i64 u0, u40, u41, u42, u43, u44, u45, u46, undef, undef, undef, undef, undef, undef, undef, undef, undef, undef, undef, undef, undef, undef, undef, undef, undef, undef, undef, undef, undef, undef, undef, undef, undef, undef, undef, undef, undef, u76, undef, undef, undef, undef, undef], defers := ds }) (b - u0) ?_ ?_
      · have hle : u0 ≤ b := by
          rcases Nat.lt_or_ge b u0 with e | e
          · have e2 := HP.out.above u0 e hu0
            have e3 := hp0.out
            rw [e2] at e3; omega
          · exact e
        exact ⟨w4.heap.size, u0, 0, 0, none, [], [], undef, undef, undef, undef, undef, undef, undef, undef, by omega, hu0, by omega, Nat.le_refl _, X0, (B0.block _ (by omega)).trans co3, by simp, Keep.below B0 (Nat.le_refl _), OwnI.nil _ _, hB4.trans (B0.mono hB4.size), trivial, fun rest hr => hr, hp0.out, rfl⟩
      clear X0 B0 W0
      rintro c a' W' ⟨bs, u, on, oc, oa, pre, ds, u40, u41, u42, u43, u44, u45, u46, u76, hcu, huk, hou, hbs, hbx, hbo, hap, hK, hO, hB, hM, hpre, hpu, rfl⟩ J K hJ hKK
      have cbs := cell_of_one hbx
      have cbo := cell_of_one hbo
      have cp : W'.cell? ⟨w2.heap.size, 0, none⟩ = some (.slice (some ⟨g, 0, none⟩) k c2) := by rw [hK.cell (a := ⟨w2.heap.size, 0, none⟩) (by show w2.heap.size < _; omega) (by show w2.heap.size ≠ _; omega)]; exact cp3
      have hpw : ∀ j, j < k → W'.cell? ⟨g, j, none⟩ = some (.int .i64 (p[j]?.getD 0)) := fun j hj => by rw [hK.cell (a := ⟨g, j, none⟩) (by show g < _; omega) (by show g ≠ _; omega)]; exact HPC.out j hj
      have HPW := Lib.hid hpw
      clear hpw
      by_cases hub : u = b
      · subst hub
        have d0 : ((u : Int) != (u : Int)) = false := by simp
        have hG : Hid (GPath ll p u u0 pre) := by have := hpre.out [] rfl; rw [List.append_nil] at this; exact this
        have c9 := HPW.out u0 hu0
        gi_wp2
        refine wpIn_wide.2 ?_
        go_quiet (fail)
        go_wp2
        gi_wp2
        refine leaves_marks (by simp) (Φ := fun W => OwnI W w4.heap.size oa on oc pre ∧ Below w.heap.size w W) ?_ ?_ ds _ (hM.keep (fun _ _ h => h)) ⟨hO.drewN nq, below_drewN hB nq⟩
        · rintro W D ⟨h1, h2⟩ hD hd
          exact ⟨h1.putObj hd rfl _, h2.trans (belowK_b (w := w) (Nat.le_refl _) W D _ _ (by omega) hd rfl rfl)⟩
        · rintro W ⟨h1, h2⟩
          have hpI : Ints W oa on oc pre := h1.ints (by omega) (fun x hx => by have := hG.out.i64 x hx; exact I64.small (by omega) (by have := H.out; omega))
          exact ⟨_, results_tmp3 rfl _ _ _, oa, on, oc, pre, by rw [E4.out.1, E4.out.2.1]; rfl, hpI, E4.out.2.2 _ hG.out, h2⟩
      · have d0 : ((u : Int) != (b : Int)) = true := by simp; omega
        obtain ⟨hlt, fi, hfi⟩ := pot_fit HV.out HP.out huk hub hpu.out
        have HFI := Lib.hid hfi
        clear hfi
        gi_wp2_with (refine ⟨trivial, ?_⟩; gi_at_call 42; refine (from_in _ a la m cap k lc u _).mono ?_; rintro e w' ⟨rfl, rfl⟩)
        obtain ⟨gl, ra, rn, rc, rfl, gl1, gl2, crow, hrow, hra⟩ := HG.out u huk
        obtain ⟨WL, hWL⟩ : ∃ WL, WL = (((W'.alloc (.cells #[.slice a m cap] 22)).alloc (.cells #[.slice (some ⟨gl, 0, none⟩) k lc] 46)).alloc (.cells #[.int .i64 (u : Int)] 3)) := ⟨_, rfl⟩
        have hszL : WL.heap.size = W'.heap.size + 3 := by rw [hWL]; simp
        have bL : Below W'.heap.size W' WL := by rw [hWL]; exact (((Below.refl _ W').alloc (Nat.le_refl _) _).alloc (by simp) _).alloc (by simp; omega) _
        have y0 : WL.cell? ⟨W'.heap.size, 0, none⟩ = some (.slice a m cap) := by
          rw [hWL, World.cell?_alloc_past _ _ _ (by simp; omega), World.cell?_alloc_past _ _ _ (by simp)]; exact cell_lit1 _ _ _ rfl
        have y1 : WL.cell? ⟨W'.heap.size + 1, 0, none⟩ = some (.slice (some ⟨gl, 0, none⟩) k lc) := by
          rw [hWL, World.cell?_alloc_past _ _ _ (by simp)]; exact cell_lit1 _ _ _ (by simp)
        have y2 : WL.cell? ⟨W'.heap.size + 2, 0, none⟩ = some (.int .i64 (u : Int)) := by
          rw [hWL]; exact cell_lit1 _ _ _ (by simp)
        rw [← hWL]
        clear hWL
        have hszK := hK.1
        have hKL : Keep w4.heap.size (w2.heap.size + 1) w4 WL := hK.trans (Keep.below bL hK.1)
        have hL6 : 0 < m → ∀ x, a = some x → x.block < w4.heap.size ∧ x.block ≠ w2.heap.size + 1 := fun h0 x hx => by have := HLK.out x hx h0; omega
        have hrd : FromRd (W'.heap.size + 1) (W'.heap.size + 2) W'.heap.size a m cap gl 0 k lc ra rn rc u ll WL :=
          ⟨y1, y2, y0, by rw [Nat.zero_add, hKL.cell (a := ⟨gl, u, none⟩) gl2 (by show gl ≠ _; omega)]; exact crow, hKL.ints hrow (fun x hx => by have := hra x hx; omega), hKL.links h4 hL6⟩
        clear y0 y1 y2 crow hrow
        have hbxs := (Array.getElem?_eq_some_iff.1 hbx).1
        have hbx2 := (bL.block bs hbxs).trans hbx
        have hbo2 := (bL.block (w2.heap.size + 1) (Array.getElem?_eq_some_iff.1 hbo).1).trans hbo
        have hOL := hO.below bL
        have hBL : Below w.heap.size w WL := hB.trans (bL.mono hB.size)
        have HSZL := Lib.hid hszL
        refine from_loop (n := 10) (by omega) (W'.heap.size + 1) (W'.heap.size + 2) W'.heap.size a ra m cap gl 0 k lc rn rc u ll WL.heap.size (fun x Bx t => (((t.setIfInBounds 47 (.int .i64 (x.1 : Int))).setIfInBounds 48 (.agg #[.int .i64 (lkAt ll x.1).1, .int .i64 (lkAt ll x.1).2.1, .int .i64 (lkAt ll x.1).2.2])).setIfInBounds 16 (.int .i64 (x.1 : Int))).setIfInBounds 17 (.pointer (some ⟨Bx, 0, none⟩))) rfl hrd (by omega) hmm (by omega) (by omega) (by omega) (by omega) (fun x hx => by have := hra x hx; omega) (fun h0 x hx => by have := hL6 h0 x hx; omega)
          (fun pr W => (∀ y ∈ pr, ¬ Fit ll p u y.1) ∧ Below WL.heap.size WL W)
          (fun c pr W => ∃ (pr' : List (Edge ll u)) (x : Edge ll u) (oa' : Option Addr) (oc' : Nat), pr = pr' ++ [x] ∧ (∀ y ∈ pr', ¬ Fit ll p u y.1) ∧ Fit ll p u x.1 ∧ c = .exit 2 ∧ W.heap[bs]? = some (.cells #[.int .i64 (dst ll x.1 : Int)] 3 (0, 0)) ∧ W.heap[w2.heap.size + 1]? = some (.cells #[.slice oa' (on + 1) oc'] 26 (0, 0)) ∧
            OwnI W w4.heap.size oa' (on + 1) oc' (pre ++ [(x.1 : Int)]) ∧ Keep w4.heap.size (w2.heap.size + 1) w4 W ∧ Below w.heap.size w W ∧ KeepsFrom w4.heap.size WL W) ?hI ?hIx
          ⟨by simp, Below.refl _ _⟩ ?assign ?body ?done ?stop
        all_goals clear hszL
        case hI =>
          rintro pr X X' row ⟨q1, q2⟩ hg hr
          exact ⟨q1, q2.grown hg q2.size (fun r e => (hr r e).1)⟩
        case hIx =>
          rintro c pr X X' row ⟨pr', x, oa', oc', q1, q2, q3, q4, q5, q6, q7, q8, q9, q10⟩ hg hr
          have hw := HSZL.out
          exact ⟨pr', x, oa', oc', q1, q2, q3, q4, cells_kept q5 rfl hg hr, cells_kept q6 rfl hg hr, q7.keptR hg hr, q8.trans (Keep.grown hg q8.1 (fun r e => .inl (by have := (hr r e).1; omega))),
            q9.grown hg q9.size (fun r e => by have := (hr r e).1; have := hBL.size; omega), ownFrom_keepsFrom (B := w4.heap.size) (w₀ := WL) (Nat.le_refl _) () X X' row q10 hg hr⟩
        case stop =>
          rintro D c pr W hD hpr ⟨pr', x, oa', oc', rfl, q2, q3, rfl, q5, q6, q7, q8, q9, q10⟩ hd
          have hff := row_first hpr q2 q3
          obtain ⟨n1, n2, n3⟩ := fit_next HV.out hff
          have cbs2 := cell_of_one q5
          have hsz5 := q8.1
          have hszL := HSZL.out
          have hdb : dst ll x.1 ≤ b := by
            rcases Nat.lt_or_ge b (dst ll x.1) with e | e
            · have e2 := HP.out.above _ e n2
              rw [e2] at n3; omega
            · exact e
          have hbel : Below W.heap.size W (W.alloc (.cells #[.int .i64 (dst ll x.1 : Int)] 3)) := (Below.refl _ W).alloc (Nat.le_refl _) _
          have HSZ5 := Lib.hid hszL
          clear hszL
          dsimp only
          gi_wp2
          have hszL := HSZ5.out
          refine Handed.intro (b - dst ll x.1) (by omega) (hJ _ _ _ ⟨W.heap.size, dst ll x.1, on + 1, oc', oa', pre ++ [(x.1 : Int)], { target := .collected D, args := #[] } :: ds, _, _, _, _, _, _, _, _, by omega, n2, by omega, by omega, World.alloc_heap_new _ _, ?_, ?_, q8.trans (Keep.below hbel hsz5), q7.alloc _, q9.alloc q9.size _, ?_, ?_, n3, rfl⟩)
          · rw [Below.heap_alloc _ _ _ (Array.getElem?_eq_some_iff.1 q6).1]; exact q6
          · intro y hy e
            have := (q7.2.lt y.block (ownBlock_some hy)).2
            omega
          · have hMM : Marks w4.heap.size ds (W.alloc (.cells #[.int .i64 (dst ll x.1 : Int)] 3)) := hM.keep (fun D' hD' h => by
              have hlt := (Array.getElem?_eq_some_iff.1 h).1
              have h5 := q10.same D' _ hD' ((bL.block D' hlt).trans h) rfl
              rw [Below.heap_alloc _ _ _ (Array.getElem?_eq_some_iff.1 h5).1]; exact h5)
            refine hMM.cons (by omega) (by rw [Below.heap_alloc _ _ _ (Array.getElem?_eq_some_iff.1 hd).1]; exact hd) (fun h => ?_)
            have := hM.lt D h
            omega
          · show ∀ rest, GPath ll p b (dst ll x.1) rest → _
            intro rest hr
            rw [List.append_assoc]
            exact hpre.out _ ⟨hub, x.1, rfl, hff, hr⟩
        case assign =>
          rintro l pr x W K ⟨q1, q2⟩ hK2
          gi_wp2
          exact hK2 _ _ ((KeepsOthers.alloc _ _).from _) (Keep.below ((Below.refl _ W).alloc (Nat.le_refl _) _) q2.size) ⟨q1, q2.alloc q2.size _⟩ ⟨W.heap.size, q2.size, World.alloc_heap_new _ _, rfl⟩
        case done =>
          rintro D W hD ⟨q1, q2⟩ hd
          exact (row_done HFI.out q1).elim
        case body =>
          rintro l pr x a' W ⟨q1, q2⟩ ⟨Bx, hBx, hx, rfl⟩ hltp
          obtain ⟨f, tt, hx1, hx2, hft, htn, hc0, hc1⟩ := HV.out x.1 (mem_idx.1 x.2).1
          have hfu : f = u := by have : (lkAt ll x.1).1 = (u : Int) := (mem_idx.1 x.2).2; omega
          subst hfu
          have hdd : dst ll x.1 = tt := by rw [dst, hx2]; rfl
          have hszL := HSZL.out
          have e1 : W.cell? ⟨Bx, 1, none⟩ = some (.int .i64 (tt : Int)) := by simp [World.cell?, hx, hx2]
          have e2 : W.cell? ⟨Bx, 2, none⟩ = some (.int .i64 (lkAt ll x.1).2.2) := by simp [World.cell?, hx]
          have e3 : W.cell? ⟨w2.heap.size, 0, none⟩ = some (.slice (some ⟨g, 0, none⟩) k c2) := by
            exact cell_later q2 (cell_later bL cp)
          have e4 : W.cell? ⟨bs, 0, none⟩ = some (.int .i64 (f : Int)) := by
            exact cell_later q2 (cell_of_one hbx2)
          have hbo3 : W.heap[w2.heap.size + 1]? = some (.cells #[.slice oa on oc] 26 (0, 0)) := (q2.block _ (by omega)).trans hbo2
          have e5 := cell_of_one hbo3
          have e6 : W.cell? ⟨g, tt, none⟩ = some (.int .i64 (p[tt]?.getD 0)) := by
            exact cell_later q2 (cell_later bL (HPW.out tt htn))
          have e7 : W.cell? ⟨g, f, none⟩ = some (.int .i64 (p[f]?.getD 0)) := by
            exact cell_later q2 (cell_later bL (HPW.out f huk))
          have hw1 := HW.out tt
          have hw2 := HW.out f
          have hfit : Fit ll p f x.1 ↔ 0 ≤ p[tt]?.getD 0 ∧ (lkAt ll x.1).2.2 + p[tt]?.getD 0 = p[f]?.getD 0 := by
            unfold Fit cst; rw [hdd, hx1]; simp
          have HFL : Hid (f < k) := huk
          obtain ⟨v, hve⟩ : ∃ v, v = p[tt]?.getD 0 := ⟨_, rfl⟩
          obtain ⟨pu, hpe⟩ : ∃ v, v = p[f]?.getD 0 := ⟨_, rfl⟩
          obtain ⟨cc, hce⟩ : ∃ v, v = (lkAt ll x.1).2.2 := ⟨_, rfl⟩
          rw [← hve] at hfit e6 hw1
          rw [← hpe] at hfit e7 hw2
          rw [← hce] at hfit e2 hc0 hc1
          have HFT := Lib.hid hfit
          clear hfit hve hpe hce
          have sw : IntKind.i64.wrap (cc + v) = cc + v := IntWalk.i64_in _ (by omega)
          clear hszL
          by_cases h1 : 0 ≤ v
          · have hd1 : decide (0 ≤ v) = true := by simpa using h1
            by_cases h2' : cc + v = pu
            · have hd2 : (cc + v == pu) = true := by simpa using h2'
              gi_wp2
              refine wpIn_region_head 20 (by kernel_rfl) (by kernel_rfl) (by kernel_rfl) (fun _ _ h => h) ?_
              simp only [List.take_succ_cons, List.take_zero, List.drop_succ_cons, List.drop_zero]
              repeat (go_big_quiet_step (fail))
              refine wpQuiet_nil ?_
              rintro _ ⟨nq, rfl⟩
              go_wp2
              have g0 : OwnI W w4.heap.size oa on oc pre := hOL.below q2
              have g1 : Boxed W bs 3 (.int .i64 (f : Int)) := (q2.block bs (Nat.lt_of_lt_of_le hbxs bL.size)).trans hbx2
              have g2 : Boxed W (w2.heap.size + 1) 26 (.slice oa on oc) := hbo3
              have hBW : Below W.heap.size W (W.drewN (nq + 1)) := below_drewN (Below.refl _ W) (nq + 1)
              obtain ⟨X, Wf, hX, hS1, hS2⟩ := family (fun w' => w'.cell? ⟨Bx, 1, none⟩ = some (.int .i64 (tt : Int))) (W.drewN nq).drew e1
              have HS2 := Lib.hid hS2
              clear hS2
              obtain ⟨WA, hWA⟩ : ∃ WA, WA = (W.drewN (nq + 1)).alloc (.cells #[.int .i64 (x.1 : Int)] 3) := ⟨_, rfl⟩
              have hA1 : OwnI WA w4.heap.size oa on oc pre := by rw [hWA]; exact (g0.drewN (nq + 1)).alloc _
              have hA2 : WA.cell? ⟨W.heap.size, 0, none⟩ = some (.int .i64 (x.1 : Int)) := by rw [hWA]; exact cell_lit1 _ _ _ rfl
              have hA3 : Below W.heap.size W WA := by rw [hWA]; exact hBW.alloc (Nat.le_refl _) _
              have hA4 : WA.heap.size = W.heap.size + 1 := by rw [hWA]; show (W.heap.push _).size = _; simp
              have hA5 : Boxed WA bs 3 (.int .i64 (f : Int)) := by rw [hWA]; exact Boxed.alloc (W := W.drewN (nq + 1)) g1 _
              have hA6 : Boxed WA (w2.heap.size + 1) 26 (.slice oa on oc) := by rw [hWA]; exact Boxed.alloc (W := W.drewN (nq + 1)) g2 _
              have hA7 : KeepsOthers W WA := by rw [hWA]; exact (keepsOthers_drewN W (nq + 1)).trans (KeepsOthers.alloc _ _)
              have hA8 : WA.cell? ⟨Bx, 1, none⟩ = some (.int .i64 (tt : Int)) := cell_later hA3 e1
              have hA9 : WA.cell? ⟨w2.heap.size + 1, 0, none⟩ = some (.slice oa on oc) := cell_later hA3 e5
              have hsw := q2.size
              have hs4 := HSZL.out
              have hBxW : Bx < W.heap.size := (Array.getElem?_eq_some_iff.1 hx).1
              have hgne : ∀ B, (∀ y, oa = some y → y.block ≠ B) → some B ≠ (Value.slice oa on oc).ownBlock := fun B hB' e => by
                cases oa with
                | none => cases e
                | some y => exact hB' y rfl (Option.some.inj e).symm
              have hgb : some bs ≠ (Value.slice oa on oc).ownBlock := hgne bs hap
              have hgx : some Bx ≠ (Value.slice oa on oc).ownBlock := hgne Bx (fun y hy e => by have := (hOL.2.lt y.block (ownBlock_some hy)).2; omega)
              have hgo : some (w2.heap.size + 1) ≠ (Value.slice oa on oc).ownBlock := hgne _ (fun y hy e => by have := (hOL.2.lt y.block (ownBlock_some hy)).1; omega)
              have fin : ∀ (a3 : Option Addr) (c3 : Nat) (w3 : World), OwnI w3 w4.heap.size a3 (on + 1) c3 (pre ++ [(x.1 : Int)]) → Below w4.heap.size W w3 → WA.grownBy w3 (Value.slice oa on oc).ownBlock → ((Value.slice a3 (on + 1) c3).ownBlock = (Value.slice oa on oc).ownBlock ∨ (Value.slice a3 (on + 1) c3).ownBlock = some WA.heap.size) →
                  w3.cell? ⟨Bx, 1, none⟩ = some (.int .i64 (tt : Int)) ∧ w3.cell? ⟨w2.heap.size + 1, 0, none⟩ = some (.slice oa on oc) ∧ w3.frozen? ⟨w2.heap.size + 1, 0, none⟩ = false ∧ (w3.setCell ⟨w2.heap.size + 1, 0, none⟩ (.slice a3 (on + 1) c3)).cell? ⟨Bx, 1, none⟩ = some (.int .i64 (tt : Int)) ∧
                  (w3.setCell ⟨w2.heap.size + 1, 0, none⟩ (.slice a3 (on + 1) c3)).cell? ⟨bs, 0, none⟩ = some (.int .i64 (f : Int)) ∧ (w3.setCell ⟨w2.heap.size + 1, 0, none⟩ (.slice a3 (on + 1) c3)).frozen? ⟨bs, 0, none⟩ = false ∧
                  ∀ W9, W9 = (w3.setCell ⟨w2.heap.size + 1, 0, none⟩ (.slice a3 (on + 1) c3)).setCell ⟨bs, 0, none⟩ (.int .i64 (tt : Int)) → KeepsFrom WL.heap.size W W9 ∧ W9.heap[bs]? = some (.cells #[.int .i64 (tt : Int)] 3 (0, 0)) ∧ W9.heap[w2.heap.size + 1]? = some (.cells #[.slice a3 (on + 1) c3] 26 (0, 0)) ∧
                    OwnI W9 w4.heap.size a3 (on + 1) c3 (pre ++ [(x.1 : Int)]) ∧ Keep w4.heap.size (w2.heap.size + 1) w4 W9 ∧ Below w.heap.size w W9 ∧ KeepsFrom w4.heap.size WL W9 := by
                intro a3 c3 w3 o3 b3 hg3 hat3
                have k1 := hA5.kept hg3 hgb
                have k2 := hA6.kept hg3 hgo
                have k3 : w3.cell? ⟨Bx, 1, none⟩ = some (.int .i64 (tt : Int)) := hg3.cell hA8 hgx
                have hbne : bs ≠ w2.heap.size + 1 := by omega
                have k4 : Boxed (w3.setCell ⟨w2.heap.size + 1, 0, none⟩ (.slice a3 (on + 1) c3)) bs 3 (.int .i64 (f : Int)) := k1.other hbne _
                have k5 : (w3.setCell ⟨w2.heap.size + 1, 0, none⟩ (.slice a3 (on + 1) c3)).cell? ⟨Bx, 1, none⟩ = some (.int .i64 (tt : Int)) := (grownBy_setCell' w3 (w2.heap.size + 1) _).cell k3 (fun e => by have := Option.some.inj e; change Bx = _ at this; omega)
                have hko : KeepsOthers W w3 := hA7.trans (KeepsOthers.of_grownBy hg3 (fun j o hj ho => ownsRow_cells hA1.2 hj ho))
                refine ⟨k3, k2.cell, k2.frozen, k5, k4.cell, k4.frozen, ?_⟩
                rintro W9 rfl
                have hne3 : (Value.slice a3 (on + 1) c3).ownBlock ≠ some bs := by
                  rcases hat3 with e | e
                  · rw [e]; exact fun e2 => hgb e2.symm
                  · rw [e, hA4]; intro e2; have := Option.some.inj e2; omega
                have hne4 : (Value.slice a3 (on + 1) c3).ownBlock ≠ some (w2.heap.size + 1) := fun e2 => by have := (o3.2.lt _ e2).1; omega
                have hko9 : KeepsOthers W ((w3.setCell ⟨w2.heap.size + 1, 0, none⟩ (.slice a3 (on + 1) c3)).setCell ⟨bs, 0, none⟩ (.int .i64 (tt : Int))) := (hko.trans (KeepsOthers.setCell _ _ _)).trans (KeepsOthers.setCell _ _ _)
                refine ⟨hko9.from _, k4.set _, (k2.set _).other (Ne.symm hbne) _, (o3.keptNe (grownBy_setCell' _ _ _) hne4).keptNe (grownBy_setCell' _ _ _) hne3, ?_, ?_, ?_⟩
                · have t1 : Keep w4.heap.size (w2.heap.size + 1) W w3 := ⟨hko.size, fun b hb _ => b3.block b hb⟩
                  exact (((hKL.trans (Keep.below q2 (by omega))).trans t1).trans (Keep.setCell w3 0 _)).trans (Keep.setCell_hi _ hbs 0 _)
                · have t1 : Below w.heap.size w W := hBL.trans (q2.mono hBL.size)
                  have hws := hB4.size
                  exact ((t1.trans (b3.mono hws)).setCell (by show w.heap.size ≤ w2.heap.size + 1; omega) _).setCell (by show w.heap.size ≤ bs; omega) _
                · refine KeepsFrom.trans ⟨q2.size, fun i o _ hi _ => (q2.block i (Array.getElem?_eq_some_iff.1 hi).1).trans hi⟩ (hko9.from _)
              have FIN := Lib.hid fin
              have hA10 : Below w4.heap.size W WA := hA3.mono (by omega)
              have hA11 : w4.heap.size ≤ WA.heap.size := by omega
              have hA12 : on ≤ 1000000 := by omega
              have HA4 := Lib.hid hA4
              clear fin hsw hs4 hgne hA4
              gi_wp2
              refine wpIn_region_reads2R (Wf := Wf) 7 [1, 4, 5] 0 2 [3, 6] (by kernel_rfl) (by kernel_rfl) (by kernel_rfl) (fun _ _ h => h) (fun _ _ d _ _ h => by cases d <;> exact h) (HS2.out _ e1) ?_
              simp only [pickOps, List.filterMap_cons, List.filterMap_nil, List.getElem?_cons_zero, List.getElem?_cons_succ]
              repeat (refine wpReads_step (fun K hK => ?_); unfold rOp; go_simp; (refine hK _ ?_; clear hK K))
              refine wpReads_nil ⟨wpActs_cons ?_, wpActs_cons ?_⟩
              · go_wp2
                refine ⟨HS2.out _ e1, wpActs_cons ?_⟩
                go_wp2
                rw [← hWA]
                refine ⟨HS2.out _ hA8, wpActs_cons ?_⟩
                clear hWA
                go_wp2_with (at_builtin; refine wpList_appI rfl _ _ rfl rfl rfl hA1 hA2 hA12 hA11 hA10 ?_; intro a3 c3 w3 o3 b3 hg3 hat3)
                obtain ⟨k1, k2, k3, k4, k5, k6, k7⟩ := FIN.out a3 c3 w3 o3 b3 hg3 hat3
                have K7 := Lib.hid k7
                refine ⟨HS2.out _ k1, wpActs_cons ?_⟩
                clear hg3 hat3 b3 o3 k7
                go_wp2
                refine ⟨HS2.out _ k4, wpActs_nil ?_⟩
                go_wp2
                gi_wp2
                obtain ⟨z1, z2, z3, z4, z5, z6, z7⟩ := K7.out _ rfl
                exact ⟨z1, pr, x, a3, c3, rfl, q1, HFT.out.2 ⟨h1, h2'⟩, rfl, by rw [hdd]; exact z2, z3, z4, z5, z6, z7⟩
              · go_wp2
                rw [← hWA]
                refine ⟨HS2.out _ hA8, wpActs_cons ?_⟩
                clear hWA
                go_wp2
                refine ⟨HS2.out _ hA8, wpActs_cons ?_⟩
                go_wp2_with (at_builtin; refine wpList_appI rfl _ _ rfl rfl rfl hA1 hA2 hA12 hA11 hA10 ?_; intro a3 c3 w3 o3 b3 hg3 hat3)
                obtain ⟨k1, k2, k3, k4, k5, k6, k7⟩ := FIN.out a3 c3 w3 o3 b3 hg3 hat3
                have K7 := Lib.hid k7
                refine ⟨HS2.out _ k1, wpActs_cons ?_⟩
                clear hg3 hat3 b3 o3 k7
                go_wp2
                refine ⟨HS2.out _ k4, wpActs_nil ?_⟩
                go_wp2
                gi_wp2
                obtain ⟨z1, z2, z3, z4, z5, z6, z7⟩ := K7.out _ rfl
                exact ⟨z1, pr, x, a3, c3, rfl, q1, HFT.out.2 ⟨h1, h2'⟩, rfl, by rw [hdd]; exact z2, z3, z4, z5, z6, z7⟩
            · have hd2 : (cc + v == pu) = false := by simpa using h2'
              have hno : ¬ Fit ll p f x.1 := fun h => h2' (HFT.out.1 h).2
              gi_wp2
              refine wpIn_region_head 20 (by kernel_rfl) (by kernel_rfl) (by kernel_rfl) (fun _ _ h => h) ?_
              simp only [List.take_succ_cons, List.take_zero, List.drop_succ_cons, List.drop_zero]
              repeat (go_big_quiet_step (fail))
              refine wpQuiet_nil ?_
              rintro _ ⟨nq, rfl⟩
              go_wp2
              gi_wp2
              exact ⟨((keepsOthers_drewN W nq).from _), Keep.below (below_drewN (Below.refl _ W) nq) q2.size, (fun y hy => by rcases List.mem_append.1 hy with e | e; exact q1 y e; rw [List.mem_singleton.1 e]; exact hno), below_drewN q2 nq⟩
          · have hd1 : decide (0 ≤ v) = false := by simpa using h1
            have hno : ¬ Fit ll p f x.1 := fun h => h1 (HFT.out.1 h).1
            gi_wp2
            refine wpIn_region_head 20 (by kernel_rfl) (by kernel_rfl) (by kernel_rfl) (fun _ _ h => h) ?_
            simp only [List.take_succ_cons, List.take_zero, List.drop_succ_cons, List.drop_zero]
            repeat (go_big_quiet_step (fail))
            refine wpQuiet_nil ?_
            rintro _ ⟨nq, rfl⟩
            go_wp2
            gi_wp2
            exact ⟨((keepsOthers_drewN W nq).from _), Keep.below (below_drewN (Below.refl _ W) nq) q2.size, (fun y hy => by rcases List.mem_append.1 hy with e | e; exact q1 y e; rw [List.mem_singleton.1 e]; exact hno), below_drewN q2 nq⟩
  · have z : (chk2 n ll s t != 0) = true := by simpa using h0
    have E3 : Hid (shCost n ll s t = 0 ∧ shErr n ll s t = chk2 n ll s t ∧ ShPath n ll s t []) := ⟨by rw [shCost, if_neg h0], by rw [shErr, if_neg h0], by unfold ShPath; rw [if_neg (fun h => h0 h.1)]⟩
    clear h0
    generalize chk2 n ll s t = C at *
    go_enter Try.func14, Try.ntmps14
    go_wp2_with (go_at_call 39; refine F.out.mono ?_; rintro e w1 ⟨rfl, b1⟩)
    go_ret3
    exact ⟨none, 0, 0, [], by rw [E3.out.1, E3.out.2.1]; rfl, Ints.nil _, E3.out.2.2, b1⟩
end Go.Proofs.Ytebmachppbpdmaa
