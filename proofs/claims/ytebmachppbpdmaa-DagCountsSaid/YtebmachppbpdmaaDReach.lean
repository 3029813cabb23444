/- dag.Reach. -/
import Derived.Test.YtebmachppbpdmaaDSh
import Derived.Test.YtebmachppbpdmaaDRRe
namespace Go.Proofs.Ytebmachppbpdmaa
open Go.RowKit Go.Shelf
attribute [local go_sem] Oper.semAt_some

theorem ownsRow_same {w w' : World} {base size n : Nat} {e : TypeId} {v : Value} {xs : List Value} (h : w.ownsRow base e size v n xs) (hb : ∀ b, v.ownBlock = some b → w'.heap[b]? = w.heap[b]?) : w'.ownsRow base e size v n xs := by
  refine ⟨h.1, ?_⟩
  rcases h.2 with hn | ⟨g, cap, cur, rfl, hb', hgg, rest⟩
  · exact .inl hn
  · exact .inr ⟨g, cap, cur, rfl, hb', (hb g rfl).trans hgg, rest⟩
theorem OwnI.same {w w' : World} {B n cap : Nat} {a : Option Addr} {l : List Int} (h : OwnI w B a n cap l) (hb : ∀ b, (Value.slice a n cap).ownBlock = some b → w'.heap[b]? = w.heap[b]?) : OwnI w' B a n cap l := ⟨h.1, ownsRow_same h.2 hb⟩
theorem OwnB.alloc {w : World} {g n : Nat} {bs : List Bool} (h : OwnB w g n bs) (o : Obj) : OwnB (w.alloc o) g n bs := World.ownsRow.alloc h o
theorem OwnB.same {w w' : World} {g n : Nat} {bs : List Bool} (h : OwnB w g n bs) (hb : w'.heap[g]? = w.heap[g]?) : OwnB w' g n bs := ownsRow_same h (fun b e => by cases e; exact hb)
theorem wpListIn_make_full {F : Fence} {nF : Nat} {P : Program} (w : World) {ops : Array Oper} {rest : List Oper} {o : Oper} {a : Act} {Q : Exit → Act → World → Prop} (hg : o.guard = none) (l c : Operand) (t : TypeId) (hop : o.op = Op.makeSlice t l c)
    (base : Nat) (e : TypeId) (i : TypeInfo) (z : Value) (size : Nat) (h1 : P.underlying t = some (.slice e)) (h2 : P.info? e = some i) (h3 : i.zero = some z) (h4 : i.size = size) (kl kc : IntKind) (n : Nat)
    (hl : a.eval l = .int kl (n : Int)) (hc : a.eval c = .int kc (n : Int)) (b2 : i.bytes * n ≤ 281474976710656) (b3 : n ≤ maxLen) (b4 : base ≤ w.heap.size)
    (hK : ∀ w', w'.ownsRow base e size (.slice (some ⟨w.heap.size, 0, none⟩) n n) n (madeCells z.cells (n * size)).toList → w.grownBy w' none → wpListIn F nF P ops Q rest (a.put o.dst (.slice (some ⟨w.heap.size, 0, none⟩) n n)) w') : wpListIn F nF P ops Q (o :: rest) a w := by
  refine wpListIn_plain hg fun K hK' => ?_
  obtain ⟨w', hrun, r1, r2⟩ := run_make_full (P := P) w base t e i z size h1 h2 h3 h4 kl kc n b2 b3 b4
  unfold Oper.wpIn
  refine ⟨by simp [Oper.about, hop], ?_⟩
  rw [Oper.semAt_plain F _ _ (by rw [hop]; intro c hc'; cases hc')]
  simp [execOp, hop, hl, hc, hrun, Result.andThen]
  exact hK' _ _ (hK w' r1 r2)
/-- What a loop over links has marked. -/
def markE (ll : List Lk) (s : Nat) (bs : List Bool) (pre : List (Edge ll s)) : List Bool := pre.foldl (fun b x => b.set (dst ll x.1) true) bs
theorem markE_all {ll : List Lk} {s : Nat} {bs : List Bool} : markE ll s bs (rowE ll s) = mark ll bs s ll.length := rowE_foldl (fun (b : List Bool) (i : Nat) => b.set (dst ll i) true) bs

set_option maxRecDepth 100000 in
set_option maxHeartbeats 4000000 in
theorem reach_any (n : Int) (a : Option Addr) (m cap : Nat) (s0 : Int) (ll : List Lk) (w : World) (h : Links w a m cap ll) (hs0 : I64 s0) :
    Calls Try.prog 21 #[.int .i64 n, .slice a m cap, .int .i64 s0] w fun e w' => ∃ (a' : Option Addr) (q c' : Nat), e = .returned (.tuple #[.slice a' q c', .int .i64 (chk2 n ll s0 s0)]) ∧ Ints w' a' q c' (reL n ll s0) ∧ Below w.heap.size w w' := by
  have H := Lib.hid h.len
  have F := Lib.hid (check1_lit n a m cap s0 ll w h hs0)
  obtain ⟨i0, hi, hz0, hz1, hz2⟩ := info_parts Try.infoBool
  by_cases h0 : chk2 n ll s0 s0 = 0
  · obtain ⟨k, s, s', rfl, rfl, -, hs, -, hk, hm, hv⟩ := chk2_ok h0
    have HV : Hid (Valid k ll) := hv
    have hmm : m ≤ 65536 := by rw [h.len]; exact hm
    have E1 : Hid (reL k ll s = reachL ll k s) := by show reL k ll s = _; rw [reL, if_pos h0]; rfl
    rw [h0] at F ⊢
    clear h0 hv hm hs0
    refine (callsIn_wide (n := 10)).1 ?_
    refine callsIn_of_wp_marks Try.func21 rfl trivial ?_ rfl
    simp only [Try.ntmps21, List.size_toArray, List.length_cons, List.length_nil, Nat.reduceAdd, Nat.reduceSub, Array.replicate_succ, Array.replicate_zero, List.push_toArray, List.append_toArray, List.nil_append, List.cons_append]
    gi_wp2_with (first | (refine ⟨trivial, ?_⟩; gi_at_call 39; refine (callsIn_wide.2 F.out).mono ?_; rintro e w1 ⟨rfl, b1⟩) | (gi_at_make; refine wpListIn_make_full _ rfl _ _ 65 rfl w1.heap.size 4 i0 (.bool false) 1 Try.underlying65 hi hz0 hz1 .i64 .i64 k rfl rfl (by rw [hz2]; omega) (by unfold maxLen; omega) (Nat.le_refl _) ?_; intro w2 hrow hgr; have ho2 : OwnB w2 w1.heap.size k (List.replicate k false) := OwnB.made hrow; have b2 : Below w1.heap.size w1 w2 := (Below.refl _ w1).grown hgr (Nat.le_refl _) (by simp); have c1 := (ho2.alloc (.cells #[.slice (some ⟨w1.heap.size, 0, none⟩) k k] 65)).cell s hs; have f1 := (ho2.alloc (.cells #[.slice (some ⟨w1.heap.size, 0, none⟩) k k] 65)).free s))
    obtain ⟨w3, hw3⟩ : ∃ w3, w3 = (w2.alloc (.cells #[.slice (some ⟨w1.heap.size, 0, none⟩) k k] 65)).setCell ⟨w1.heap.size, s, none⟩ (.bool true) := ⟨_, rfl⟩
    have hg12 : w1.heap.size < w2.heap.size := by
      rcases hrow.2 with ⟨e, _⟩ | ⟨g, c, cur, e, _, hgb, _⟩
      · cases e
      · cases e; exact (Array.getElem?_eq_some_iff.1 hgb).1
    have o3 : OwnB w3 w1.heap.size k (reachB ll k s 0) := by rw [hw3, reachB]; exact (ho2.alloc _).stored s true
    have b13 : Below w1.heap.size w1 w3 := by rw [hw3]; exact (b2.alloc (by omega) _).setCell (Nat.le_refl _) _
    have cb3 : w3.heap[w2.heap.size]? = some (.cells #[.slice (some ⟨w1.heap.size, 0, none⟩) k k] 65 (0, 0)) := by
      rw [hw3, Below.heap_setCell _ _ _ _ (by show w2.heap.size ≠ w1.heap.size; omega)]; exact World.alloc_heap_new _ _
    have hsz3 : w3.heap.size = w2.heap.size + 1 := by rw [hw3]; simp [World.setCell]
    rw [← hw3]
    have h3 := (h.below b1).below b13
    refine ⟨trivial, (callsIn_wide.2 (leaving_any k a m cap ll w3 h3 HV.out hk hmm)).mono ?_⟩
    rintro e w4 ⟨la, lc, rfl, l4, b4⟩
    replace cb3 := cell_of_one ((b4.block w2.heap.size (by omega)).trans cb3)
    have o4 : OwnB w4 w1.heap.size k (reachB ll k s 0) := o3.same (b4.block _ (by omega))
    have h4 := h3.below b4
    have hsz4 := b4.size
    have hB4 : Below w.heap.size w w4 := (b1.trans (b13.mono b1.size)).trans (b4.mono (by have := b1.size; omega))
    have hlk : ∀ x, a = some x → 0 < m → x.block < w.heap.size := fun x hx hm0 => by
      obtain ⟨b, off, e, hb, _⟩ := h.at_ hm0
      rw [e] at hx; cases hx; exact hb
    have HLK := Lib.hid hlk
    clear hw3 hrow hgr c1 f1 b13 b4 h3 o3 ho2 b2 hlk h F
    gi_wp2
    have hget : ∀ s, s < k → ∃ gl ra rn rc, la = some ⟨gl, 0, none⟩ ∧ w3.heap.size ≤ gl ∧ gl < w4.heap.size ∧ w4.cell? ⟨gl, s, none⟩ = some (.slice ra rn rc) ∧ Ints w4 ra rn rc (rowTo ll s ll.length) ∧ ∀ x, ra = some x → w3.heap.size ≤ x.block ∧ x.block < w4.heap.size := by
      intro s hs
      obtain ⟨gl, ra, rn, rc, e, hB, hlt, _, hc, ho, _⟩ := l4.at_ hs
      rw [leaveTo_at hs] at ho
      have hlen := ho.len
      have hrl := rowTo_length ll s ll.length
      have hmm' := H.out
      refine ⟨gl, ra, rn, rc, e, by omega, hlt, hc, ho.ints (by omega) (fun x hx => ?_), fun x hx => ?_⟩
      · obtain ⟨i, hi, rfl⟩ := List.mem_map.1 hx
        have := (mem_idxTo.1 hi).1
        exact I64.small (by omega) (by omega)
      · have := ho.2.lt x.block (ownBlock_some hx)
        omega
    have HG := Lib.hid hget
    clear hget
    have hm0 : marked (reachF ll k s) s = [] := by
      have : marked (reachF ll k s) s = marked (List.replicate k false) s := marked_congr fun j hj => by
        rw [reachF_at HV.out (k := 0) (by omega) (by omega), reachB, List.getElem?_set_ne (by omega)]
      rw [this]
      have hx : ∀ x, x ∉ marked (List.replicate k false) s := fun x hx => by
        obtain ⟨j, hj, _, hb⟩ := marked_mem.1 hx
        simp [List.getElem?_replicate] at hb
        split at hb <;> simp at hb
      exact List.eq_nil_iff_forall_not_mem.2 hx
    refine wpIn_loop_ghost_k (fun c a' W' => ∃ (j u on oc : Nat) (oa : Option Addr) (ds : List Deferred) (u32 u33 u34 u35 u36 u37 u38 u39 u40 u41 u42 u43 u44 u45 u46 u47 u48 u49 : Value), u = s + j ∧ c + u = k ∧ on ≤ u ∧ OwnB W' w1.heap.size k (reachB ll k s j) ∧ Keep w4.heap.size w1.heap.size w4 W' ∧ OwnI W' w4.heap.size oa on oc (marked (reachF ll k s) u) ∧ Below w.heap.size w W' ∧ Marks w4.heap.size ds W' ∧
      a' = { tmps := #[.int .i64 k, .slice a m cap, .int .i64 s, undef, undef, undef, .slice none 0 0, .int .i64 0, .int .i64 0, .pointer (some ⟨w2.heap.size, 0, none⟩), .slice la k lc, .slice oa on oc, .int .i64 u, undef, undef, .int .i64 k, .slice a m cap, .int .i64 s, .slice (some ⟨w.heap.size, 0, none⟩) 1 1, .int .i64 0, .int .i64 0, .bool false, undef, .int .i64 k, .slice (some ⟨w1.heap.size, 0, none⟩) k k, .slice (some ⟨w1.heap.size, 0, none⟩) k k, .int .i64 s, .pointer (some ⟨w1.heap.size, s, none⟩), .int .i64 k, .slice a m cap, .slice la k lc, .int .i64 s, u32, u33, u34, u35, u36, u37, u38, u39, u40, u41, u42, u43, u44, u45, u46, u47, u48, u49, undef, undef, undef, undef, undef, undef, undef], defers := ds }) (k - s) ?_ ?_
    · exact ⟨0, s, 0, 0, none, [], undef, undef, undef, undef, undef, undef, undef, undef, undef, undef, undef, undef, undef, undef, undef, undef, undef, undef, rfl, by omega, by omega, o4, Keep.refl _ _ _, by rw [hm0]; exact OwnI.nil _ _, hB4, trivial, rfl⟩
    have hMB : Hid (w.heap.size ≤ w4.heap.size) := hB4.size
    clear hm0 o4 hB4
    rintro c a' W' ⟨j, u, on, oc, oa, ds, u32, u33, u34, u35, u36, u37, u38, u39, u40, u41, u42, u43, u44, u45, u46, u47, u48, u49, hu, hcu, hou, hO, hK, hI, hB, hM, rfl⟩ J K hJ hKK
    have HU := Lib.hid hu
    have cb : W'.cell? ⟨w2.heap.size, 0, none⟩ = some (.slice (some ⟨w1.heap.size, 0, none⟩) k k) := by rw [hK.cell (a := ⟨w2.heap.size, 0, none⟩) (by show w2.heap.size < _; omega) (by show w2.heap.size ≠ _; omega)]; exact cb3
    by_cases huk : u < k
    · have hc1 := hO.cell u huk
      have hju : u < s + k := by omega
      clear hu
      cases hbu : (reachB ll k s j)[u]?.getD false with
      | false =>
        rw [hbu] at hc1
        have hr1 : reachB ll k s (j + 1) = reachB ll k s j := by rw [reachB, rnext, ← HU.out, hbu]; rfl
        have hr2 : marked (reachF ll k s) (u + 1) = marked (reachF ll k s) u := marked_no (by rw [reachF_at HV.out (k := j) (by have := HU.out; omega) (by have := HU.out; omega)]; exact hbu)
        have HR := Lib.hid (And.intro hr1 hr2)
        clear hr1 hr2 hbu
        gi_wp2
        exact Handed.intro (c - 1) (by omega) (hJ _ _ _ ⟨j + 1, u + 1, on, oc, oa, ds, _, _, _, _, _, _, _, _, _, _, _, _, _, _, _, _, _, _, by have := HU.out; omega, by omega, by omega, by rw [HR.out.1]; exact hO, hK, by rw [HR.out.2]; exact hI, hB, hM, rfl⟩)
      | true =>
        rw [hbu] at hc1
        have hszK := hK.1
        have hr1 : reachB ll k s (j + 1) = markE ll u (reachB ll k s j) (rowE ll u) := by rw [reachB, rnext, ← HU.out, hbu, markE_all]; rfl
        have hr2 : marked (reachF ll k s) (u + 1) = marked (reachF ll k s) u ++ [(u : Int)] := marked_yes (by rw [reachF_at HV.out (k := j) (by have := HU.out; omega) (by have := HU.out; omega)]; exact hbu)
        have HR := Lib.hid (And.intro hr1 hr2)
        have HBL : Hid ((reachB ll k s j).length = k) := reachB_length _
        clear hr1 hr2 hbu
        generalize reachB ll k s j = bs at *
        obtain ⟨WA, hWA⟩ : ∃ WA, WA = W'.alloc (.cells #[.int .i64 (u : Int)] 3) := ⟨_, rfl⟩
        have hA1 : OwnI WA w4.heap.size oa on oc (marked (reachF ll k s) u) := by rw [hWA]; exact hI.alloc _
        have hA2 : WA.cell? ⟨W'.heap.size, 0, none⟩ = some (.int .i64 (u : Int)) := by rw [hWA]; exact cell_lit1 _ _ _ rfl
        have hA3 : Below W'.heap.size W' WA := by rw [hWA]; exact (Below.refl _ W').alloc (Nat.le_refl _) _
        have hA4 : OwnB WA w1.heap.size k bs := by rw [hWA]; exact hO.alloc _
        have hA5 : KeepsOthers W' WA := by rw [hWA]; exact KeepsOthers.alloc _ _
        have hA6 : Below w4.heap.size W' WA := hA3.mono hszK
        have hA7 : w4.heap.size ≤ WA.heap.size := Nat.le_trans hszK hA3.size
        have hA8 : on ≤ 1000000 := by omega
        gi_wp2_with (rw [← hWA]; clear hWA; gi_at_builtin; refine wpListIn_appI rfl _ _ rfl rfl rfl hA1 hA2 hA8 hA7 hA6 ?_; intro a3 c3 w5 o5 b5 hg5 hat5)
        refine ⟨trivial, (from_in _ a la m cap k lc u w5).mono ?_⟩
        rintro e w' ⟨rfl, rfl⟩
        obtain ⟨gl, ra, rn, rc, rfl, gl1, gl2, crow, hrow, hra⟩ := HG.out u huk
        have hgne : some w1.heap.size ≠ (Value.slice oa on oc).ownBlock := fun e => by have := (hA1.2.lt _ e.symm).1; omega
        have hko : KeepsOthers W' w5 := hA5.trans (KeepsOthers.of_grownBy hg5 (fun j o hj ho => ownsRow_cells hA1.2 hj ho))
        have ob5 : OwnB w5 w1.heap.size k bs := hA4.same (hg5.block _ (by omega) hgne)
        have k5 : Keep w4.heap.size w1.heap.size w4 w5 := hK.trans ⟨hko.size, fun b hb _ => b5.block b hb⟩
        have B5 : Below w.heap.size w w5 := hB.trans (b5.mono (by have := hB.size; have := hMB.out; omega))
        have M5 : Marks w4.heap.size ds w5 := hM.keep (fun D _ h => hko.same D _ h rfl)
        clear hA1 hA2 hA3 hA4 hA5 hA6 hA7 hg5 hat5 hko hgne b5 hO hI hK hM hB cb WA
        obtain ⟨WL, hWL⟩ : ∃ WL, WL = (((w5.alloc (.cells #[.slice a m cap] 22)).alloc (.cells #[.slice (some ⟨gl, 0, none⟩) k lc] 46)).alloc (.cells #[.int .i64 (u : Int)] 3)) := ⟨_, rfl⟩
        rw [← hWL]
        have hWL' := Lib.hid hWL
        clear hWL
        gi_wp2
        have hWL := hWL'.out
        have hszL : WL.heap.size = w5.heap.size + 3 := by rw [hWL]; simp
        have bL : Below w5.heap.size w5 WL := by rw [hWL]; exact (((Below.refl _ w5).alloc (Nat.le_refl _) _).alloc (by simp) _).alloc (by simp; omega) _
        have y0 : WL.cell? ⟨w5.heap.size, 0, none⟩ = some (.slice a m cap) := by
          rw [hWL, World.cell?_alloc_past _ _ _ (by simp; omega), World.cell?_alloc_past _ _ _ (by simp)]; exact cell_lit1 _ _ _ rfl
        have y1 : WL.cell? ⟨w5.heap.size + 1, 0, none⟩ = some (.slice (some ⟨gl, 0, none⟩) k lc) := by
          rw [hWL, World.cell?_alloc_past _ _ _ (by simp)]; exact cell_lit1 _ _ _ (by simp)
        have y2 : WL.cell? ⟨w5.heap.size + 2, 0, none⟩ = some (.int .i64 (u : Int)) := by
          rw [hWL]; exact cell_lit1 _ _ _ (by simp)
        clear hWL hWL'
        have hsz5 := k5.1
        have hKL : Keep w4.heap.size w1.heap.size w4 WL := k5.trans (Keep.below bL k5.1)
        have hL6 : 0 < m → ∀ x, a = some x → x.block < w4.heap.size ∧ x.block ≠ w1.heap.size := fun h0 x hx => by have := HLK.out x hx h0; have := b1.size; have := hMB.out; omega
        have hrd : FromRd (w5.heap.size + 1) (w5.heap.size + 2) w5.heap.size a m cap gl 0 k lc ra rn rc u ll WL :=
          ⟨y1, y2, y0, by rw [Nat.zero_add, hKL.cell (a := ⟨gl, u, none⟩) gl2 (by show gl ≠ _; omega)]; exact crow, hKL.ints hrow (fun x hx => by have := hra x hx; omega), hKL.links h4 hL6⟩
        clear y0 y1 y2 crow hrow
        have obL : OwnB WL w1.heap.size k bs := ob5.same (bL.block _ (by omega))
        have oIL := o5.below bL
        have hBL : Below w.heap.size w WL := B5.trans (bL.mono B5.size)
        have cbL : WL.cell? ⟨w2.heap.size, 0, none⟩ = some (.slice (some ⟨w1.heap.size, 0, none⟩) k k) := by rw [hKL.cell (a := ⟨w2.heap.size, 0, none⟩) (by show w2.heap.size < _; omega) (by show w2.heap.size ≠ _; omega)]; exact cb3
        have HSZL := Lib.hid hszL
        refine from_loop (n := 10) (by omega) (w5.heap.size + 1) (w5.heap.size + 2) w5.heap.size a ra m cap gl 0 k lc rn rc u ll w1.heap.size (fun x Bx t => ((t.setIfInBounds 50 (.int .i64 (x.1 : Int))).setIfInBounds 51 (.agg #[.int .i64 (lkAt ll x.1).1, .int .i64 (lkAt ll x.1).2.1, .int .i64 (lkAt ll x.1).2.2])).setIfInBounds 14 (.pointer (some ⟨Bx, 0, none⟩))) rfl hrd (by omega) hmm (by omega) (by omega) (by omega) (by omega) (fun x hx => by have := hra x hx; omega) (fun h0 x hx => by have := hL6 h0 x hx; omega)
          (fun pr W => Keep WL.heap.size w1.heap.size WL W ∧ OwnB W w1.heap.size k (markE ll u bs pr) ∧ Below w.heap.size w W) (fun _ _ _ => False) ?hI (fun _ _ _ _ _ hs _ _ => hs) ⟨Keep.refl _ _ _, obL, hBL⟩ ?assign ?body ?done ?stop
        all_goals clear hszL
        case hI =>
          rintro pr X X' row ⟨q1, q2, q3⟩ hg hr
          refine ⟨q1.trans (Keep.grown hg q1.1 (fun r e => .inl (hr r e).1)), q2.same ?_, q3.grown hg q3.size (fun r e => by have := (hr r e).1; have := hBL.size; omega)⟩
          have hlt : w1.heap.size < X.heap.size := by have := q1.1; have := HSZL.out; omega
          exact hg.block _ hlt (fun e => by have := (hr _ e.symm).1; have := HSZL.out; omega)
        case stop => rintro D c pre W _ _ h _; exact h.elim
        case assign =>
          rintro l pr x W K ⟨q1, q2, q3⟩ hK2
          gi_wp2
          have hb := (Below.refl W.heap.size W).alloc (Nat.le_refl _) (.cells #[.int .i64 (lkAt ll x.1).1, .int .i64 (lkAt ll x.1).2.1, .int .i64 (lkAt ll x.1).2.2] 36)
          exact hK2 _ _ ((KeepsOthers.alloc _ _).from _) (Keep.below hb q1.1) ⟨q1.trans (Keep.below hb q1.1), q2.alloc _, q3.alloc q3.size _⟩ ⟨W.heap.size, q1.1, World.alloc_heap_new _ _, rfl⟩
        case done =>
          rintro D W hD ⟨q1, q2, q3⟩ hd
          rw [← HR.out.1] at q2
          have oI : OwnI W w4.heap.size a3 (on + 1) c3 (marked (reachF ll k s) (u + 1)) := by
            rw [HR.out.2]
            exact oIL.same (fun b e => q1.2 b (oIL.2.lt b e).2 (by have := (oIL.2.lt b e).1; omega))
          have hMM : Marks w4.heap.size ds W := M5.keep (fun D' hD' h => by
            have hlt := (Array.getElem?_eq_some_iff.1 h).1
            rw [q1.2 D' (by have := HSZL.out; omega) (by omega), bL.block D' hlt]; exact h)
          have hMD := hMM.cons (D := D) (by have := HSZL.out; omega) hd (fun h => by
            have := M5.lt D h
            have := HSZL.out
            omega)
          dsimp only
          gi_wp2
          exact Handed.intro (c - 1) (by omega) (hJ _ _ _ ⟨j + 1, u + 1, on + 1, c3, a3, { target := .collected D, args := #[] } :: ds, _, _, _, _, _, _, _, _, _, _, _, _, _, _, _, _, _, _, by have := HU.out; omega, by omega, by omega, q2, hKL.trans (q1.mono hKL.1), oI, q3, hMD, rfl⟩)
        case body =>
          rintro l pr x a' W ⟨q1, q2, q3⟩ ⟨Bx, hBx, hx, rfl⟩ hltp
          obtain ⟨f, tt, hx1, hx2, hft, htn, hc0, hc1'⟩ := HV.out x.1 (mem_idx.1 x.2).1
          have hdd : dst ll x.1 = tt := by rw [dst, hx2]; rfl
          have e1 : W.cell? ⟨Bx, 1, none⟩ = some (.int .i64 (tt : Int)) := by simp [World.cell?, hx, hx2]
          have e3 : W.cell? ⟨w2.heap.size, 0, none⟩ = some (.slice (some ⟨w1.heap.size, 0, none⟩) k k) := by
            rw [q1.cell (a := ⟨w2.heap.size, 0, none⟩) (by show w2.heap.size < _; have := HSZL.out; omega) (by show w2.heap.size ≠ _; omega)]; exact cbL
          have e4 := q2.cell tt htn
          have e5 := q2.free tt
          have hnx : Hid (markE ll u bs (pr ++ [x]) = (markE ll u bs pr).set tt true) := by show _ = _; rw [markE, List.foldl_append, ← hdd]; rfl
          gi_wp2
          exact ⟨(KeepsOthers.setCell _ _ _).from _, Keep.setCell W tt _, q1.trans (Keep.setCell W tt _), by show OwnB _ _ _ (markE ll u bs (pr ++ [x])); rw [hnx.out]; exact q2.stored tt true, q3.setCell (by show w.heap.size ≤ w1.heap.size; exact b1.size) _⟩
    · obtain rfl : u = k := by omega
      clear hu
      gi_wp2
      refine leaves_marks (by simp) (Φ := fun W => OwnI W w4.heap.size oa on oc (marked (reachF ll u s) u) ∧ Below w.heap.size w W) ?_ ?_ ds _ hM ⟨hI, hB⟩
      · rintro W D ⟨h1, h2⟩ hD hd
        exact ⟨h1.putObj hd rfl _, h2.trans (belowK_b (w := w) (Nat.le_refl _) W D _ _ (by have := hMB.out; omega) hd rfl rfl)⟩
      · rintro W ⟨h1, h2⟩
        have hpI : Ints W oa on oc (marked (reachF ll u s) u) := h1.ints (by omega) (fun x hx => by obtain ⟨y, hy, hxy, _⟩ := marked_mem.1 hx; exact I64.small (by omega) (by omega))
        exact ⟨_, results_tmp2 rfl _ _ _, oa, on, oc, rfl, by rw [E1.out]; exact hpI, h2⟩
  · have z : (chk2 n ll s0 s0 != 0) = true := by simpa using h0
    have E3 : Hid (reL n ll s0 = []) := by show _ = _; rw [reL, if_neg h0]
    rw [E3.out]
    clear h0
    generalize chk2 n ll s0 s0 = C at *
    go_enter Try.func21, Try.ntmps21
    go_wp2_with (go_at_call 39; refine F.out.mono ?_; rintro e w1 ⟨rfl, b1⟩)
    go_ret2
    exact ⟨none, 0, 0, rfl, Ints.nil _, b1⟩
end Go.Proofs.Ytebmachppbpdmaa
