/- sequence.Runs: a loop over the iterator that sequence.runs hands back. -/
import Derived.Test.YtdkokpehcmcnpaaPure4
import Derived.Test.YtdkokpehcmcnpaaOwnII
import Derived.RangeFuncBox
import Derived.RangeFuncLeaves
import Derived.RangeFuncWrites
import Derived.Shelf.Abstract
import Derived.OwnWalkIn
import Derived.TacticsInMore
import Derived.LoopNIn
import Derived.LoopIn
import Derived.Maps.AppendAt
import Derived.Maps.OwnIn
namespace Go.Proofs.Ytdkokpehcmcnpaa
open Go.RowKit Go.Shelf
attribute [local go_sem] Oper.semAt_some

/-- What a round must keep: what lay below n₀, and block b. -/
def KeepR (n₀ b : Nat) (A B : World) : Prop := Below n₀ A B ∧ B.heap[b]? = A.heap[b]?
theorem KeepR.trans {n₀ b : Nat} {A B C : World} (h : KeepR n₀ b A B) (k : KeepR n₀ b B C) : KeepR n₀ b A C := ⟨h.1.trans k.1, k.2.trans h.2⟩
theorem keepR_b {n₀ b : Nat} {w : World} (hn : n₀ ≤ w.heap.size) (hb : b < w.heap.size) (W : World) (l : Nat) (o o' : Obj) (hl : w.heap.size ≤ l) (h : W.heap[l]? = some o) (h1 : o.isCells = false) (h2 : o.isWalk = false) : KeepR n₀ b W (W.putObj l o') :=
  ⟨belowK_b hn W l o o' hl h h1 h2, World.putObj_heap_other (by omega)⟩
theorem grownBy_drewN (w : World) (q : Nat) : w.grownBy (w.drewN q) none := ⟨rfl, rfl, rfl, Nat.le_refl _, fun _ _ _ => rfl⟩
theorem Drew.grownBy {w w' : World} (h : Drew w w') : w.grownBy w' none := by obtain ⟨q, rfl⟩ := h; exact grownBy_drewN w q

theorem runs_head {l : List Int} {fr t : Nat} {rest : List (Nat × Nat)} (h : RunsFrom l fr rest) (hf : fr < l.length) (ht : stopAt l (fr + 1) = t) : ∃ rest', rest = (fr, t - fr) :: rest' ∧ RunsFrom l t rest' := by
  cases rest with
  | nil => simp only [RunsFrom] at h; omega
  | cons p rest => obtain ⟨_, rfl, h⟩ := h; subst ht; exact ⟨rest, rfl, h⟩
abbrev runEnc (x : Nat × Nat) : Array Value := #[.int .i64 (x.1 : Int), .int .i64 (x.2 : Int)]

set_option maxRecDepth 100000 in
set_option maxHeartbeats 1000000 in
theorem runs_stops (m : Nat) (hm : 1 ≤ m) (bn : Nat) (a : Option Addr) (n cap : Nat) (l : List Int) (w0 w : World) (h : Ints w0 a n cap l) (hb : Below w0.heap.size w0 w) (hbn : bn < w.heap.size)
    (hbox : w.heap[bn]? = some (.cells #[.slice a n cap] 22 (0, 0))) :
    SeqStopsK Fence.wide m Try.prog 65 #[.pointer (some ⟨bn, 0, none⟩)] runEnc (KeepR w0.heap.size bn) (fun ys => ys = runsOf l) (fun pre => pre <+: runsOf l) (runsOf l).length w := fun lo J Jx W hW hJ _ hY h0 => by
  have hbW : Below w0.heap.size w0 W := hb.trans (hW.mono hb.size)
  have hboxW : W.heap[bn]? = some (.cells #[.slice a n cap] 22 (0, 0)) := (hW.block bn hbn).trans hbox
  have HN := Lib.hid h.len
  have h8 := h.bound
  have HY := Lib.hid hY
  have HJ := Lib.hid hJ
  clear hY hJ hW hbox
  refine callsIn_of_wp Try.func65 rfl trivial ?_ rfl
  simp only [Try.ntmps65, List.size_toArray, List.length_cons, List.length_nil, Nat.reduceAdd, Nat.reduceSub, Array.replicate_succ, Array.replicate_zero, List.push_toArray, List.append_toArray, List.nil_append, List.cons_append]
  gi_wp2
  gi_loopw [3] (fun p wr => ∃ (pre rest : List (Nat × Nat)) (fr : Nat), p = .int .i64 (fr : Int) ∧ fr ≤ n ∧ Hid (runsOf l = pre ++ rest) ∧ Hid (RunsFrom l fr rest) ∧ Below w0.heap.size w0 wr ∧ wr.heap[bn]? = some (.cells #[.slice a n cap] 22 (0, 0)) ∧ Below W.heap.size W W ∧ Hid (J pre wr)) (fun p _ => n - (intOf p).toNat)
  case atStart => exact ⟨[], runsOf l, 0, rfl, Nat.zero_le _, rfl, runs_spec l, hbW, hboxW, Below.refl _ _, h0⟩
  case round =>
    obtain ⟨pre, rest, fr, rfl, hfr, hpre, hrest, hB, hbx, -, hJp⟩ := hrel
    have hc := cell_of_one hbx
    clear hbW hboxW h0
    by_cases hlt : fr < n
    · gi_wp2
      refine wpIn_wide.2 ?_
      obtain ⟨wo, rfl⟩ : ∃ wo : World, wo = wr := ⟨_, rfl⟩
      go_loopw [4] (fun p wr => ∃ t : Nat, p = .int .i64 (t : Int) ∧ fr + 1 ≤ t ∧ t ≤ n ∧ Hid (stopAt l (fr + 1) = stopAt l t) ∧ Drew wo wr) (fun p _ => n - (intOf p).toNat)
      case atStart => exact ⟨fr + 1, by go_num, Nat.le_refl _, by omega, rfl, Drew.refl _⟩
      case round =>
        obtain ⟨t, rfl, ht1, ht2, hst, hq⟩ := hrel
        have hc2 := cell_later (hq.below _) hc
        have hI := (h.below hB).drews hq
        by_cases htn : t < n
        · obtain ⟨b, off, rfl, -, hcl⟩ := hI.at_ (by omega)
          have c1 := hcl.out t htn
          have c2 := hcl.out (t - 1) (by omega)
          have x1 := (hI.i64 t).2
          have x2 := (hI.i64 (t - 1)).1
          by_cases hx : l[t - 1]?.getD 0 < l[t]?.getD 0
          · have e1 : IntKind.i64.wrap (l[t]?.getD 0 - 1) = l[t]?.getD 0 - 1 := IntWalk.i64_in _ (by omega)
            by_cases hy : l[t]?.getD 0 - 1 = l[t - 1]?.getD 0
            · have e2 : (l[t]?.getD 0 - 1 == l[t - 1]?.getD 0) = true := by simp [hy]
              have hs : Hid (stopAt l t = stopAt l (t + 1)) := stopAt_step (by rw [← HN.out]; exact htn) (cont_yes hx hy)
              clear hy x1 x2
              go_wp2
              go_quiet (fail)
              go_wp2
              go_roundw
              case rel => exact ⟨t + 1, by go_num, by omega, by omega, hst.out.trans hs.out, hq.drewN _⟩
              case measure => simp [intOf]; omega
            · have e2 : (l[t]?.getD 0 - 1 == l[t - 1]?.getD 0) = false := by simp [hy]
              have hs : Hid (stopAt l t = t) := stopAt_stop (cont_no2 hy)
              clear hy x1 x2
              go_wp2
              go_quiet (fail)
              go_wp2
              obtain ⟨rest', hr1, hr2⟩ := runs_head hrest.out (by rw [← HN.out]; omega) (hst.out.trans hs.out)
              have HR1 := Lib.hid hr1
              have hq2 : Drew wo (wr.drewN nq) := hq.drewN nq
              have hB2 : Below w0.heap.size w0 (wr.drewN nq) := hB.trans (hq2.below _)
              have hbx2 : (wr.drewN nq).heap[bn]? = some (.cells #[.slice (some ⟨b, off, none⟩) n cap] 22 (0, 0)) := by obtain ⟨q, hqq⟩ := hq2; rw [hqq]; exact hbx
              have hJ2 : Hid (J pre (wr.drewN nq)) := HJ.out _ _ _ none hJp.out hq2.grownBy (fun r e => by cases e)
              obtain ⟨fn, tmps, assign, body, hy, hR⟩ := HY.out pre (fr, t - fr) (wr.drewN nq) hJ2.out (by rw [hpre.out, HR1.out]; simp)
              dsimp only [runEnc] at hy
              rw [Int.ofNat_sub (by omega)] at hy
              have HRR := Lib.hid hR
              clear hR hr1
              gi_wp2
              refine HRR.out.mono ?_
              rintro e W3 (⟨rfl, hJ3, hk3⟩ | ⟨rfl, hJx3⟩)
              · have HJ3 := Lib.hid hJ3
                clear hJ3
                gi_wp2
                go_roundw
                case rel => exact ⟨pre ++ [(fr, t - fr)], rest', t, rfl, by omega, (by rw [hpre.out, HR1.out]; simp : runsOf l = _), hr2, hB2.trans hk3.1, hk3.2.trans hbx2, Below.refl _ _, HJ3.out⟩
                case measure => simp [intOf]; omega
              · gi_wp2
                refine bodyPost_ret (results_none rfl _ _ _) rfl ?_
                exact ⟨⟨_, rfl⟩, .inr ⟨pre ++ [(fr, t - fr)], ⟨rest', by rw [hpre.out, HR1.out]; simp⟩, hJx3⟩⟩
          · have hs : Hid (stopAt l t = t) := stopAt_stop (cont_no1 hx)
            have hd : decide (l[t - 1]?.getD 0 < l[t]?.getD 0) = false := by simpa using hx
            clear x1 x2 hx
            go_wp2
            go_quiet (fail)
            go_wp2
            obtain ⟨rest', hr1, hr2⟩ := runs_head hrest.out (by rw [← HN.out]; omega) (hst.out.trans hs.out)
            have HR1 := Lib.hid hr1
            have hq2 : Drew wo (wr.drewN nq) := hq.drewN nq
            have hB2 : Below w0.heap.size w0 (wr.drewN nq) := hB.trans (hq2.below _)
            have hbx2 : (wr.drewN nq).heap[bn]? = some (.cells #[.slice (some ⟨b, off, none⟩) n cap] 22 (0, 0)) := by obtain ⟨q, hqq⟩ := hq2; rw [hqq]; exact hbx
            have hJ2 : Hid (J pre (wr.drewN nq)) := HJ.out _ _ _ none hJp.out hq2.grownBy (fun r e => by cases e)
            obtain ⟨fn, tmps, assign, body, hy, hR⟩ := HY.out pre (fr, t - fr) (wr.drewN nq) hJ2.out (by rw [hpre.out, HR1.out]; simp)
            dsimp only [runEnc] at hy
            rw [Int.ofNat_sub (by omega)] at hy
            have HRR := Lib.hid hR
            clear hR hr1
            gi_wp2
            refine HRR.out.mono ?_
            rintro e W3 (⟨rfl, hJ3, hk3⟩ | ⟨rfl, hJx3⟩)
            · have HJ3 := Lib.hid hJ3
              clear hJ3
              gi_wp2
              go_roundw
              case rel => exact ⟨pre ++ [(fr, t - fr)], rest', t, rfl, by omega, (by rw [hpre.out, HR1.out]; simp : runsOf l = _), hr2, hB2.trans hk3.1, hk3.2.trans hbx2, Below.refl _ _, HJ3.out⟩
              case measure => simp [intOf]; omega
            · gi_wp2
              refine bodyPost_ret (results_none rfl _ _ _) rfl ?_
              exact ⟨⟨_, rfl⟩, .inr ⟨pre ++ [(fr, t - fr)], ⟨rest', by rw [hpre.out, HR1.out]; simp⟩, hJx3⟩⟩
        · have hs : Hid (stopAt l t = t) := stopAt_stop (by rw [← HN.out]; omega)
          have hd : decide ((t : Int) < (n : Int)) = false := by simp; omega
          go_wp2
          go_quiet (fail)
          go_wp2
          obtain ⟨rest', hr1, hr2⟩ := runs_head hrest.out (by rw [← HN.out]; omega) (hst.out.trans hs.out)
          have HR1 := Lib.hid hr1
          have hq2 : Drew wo (wr.drewN nq) := hq.drewN nq
          have hB2 : Below w0.heap.size w0 (wr.drewN nq) := hB.trans (hq2.below _)
          have hbx2 : (wr.drewN nq).heap[bn]? = some (.cells #[.slice a n cap] 22 (0, 0)) := by obtain ⟨q, hqq⟩ := hq2; rw [hqq]; exact hbx
          have hJ2 : Hid (J pre (wr.drewN nq)) := HJ.out _ _ _ none hJp.out hq2.grownBy (fun r e => by cases e)
          obtain ⟨fn, tmps, assign, body, hy, hR⟩ := HY.out pre (fr, t - fr) (wr.drewN nq) hJ2.out (by rw [hpre.out, HR1.out]; simp)
          dsimp only [runEnc] at hy
          rw [Int.ofNat_sub (by omega)] at hy
          have HRR := Lib.hid hR
          clear hR hr1
          gi_wp2
          refine HRR.out.mono ?_
          rintro e W3 (⟨rfl, hJ3, hk3⟩ | ⟨rfl, hJx3⟩)
          · have HJ3 := Lib.hid hJ3
            clear hJ3
            gi_wp2
            go_roundw
            case rel => exact ⟨pre ++ [(fr, t - fr)], rest', t, rfl, by omega, (by rw [hpre.out, HR1.out]; simp : runsOf l = _), hr2, hB2.trans hk3.1, hk3.2.trans hbx2, Below.refl _ _, HJ3.out⟩
            case measure => simp [intOf]; omega
          · gi_wp2
            refine bodyPost_ret (results_none rfl _ _ _) rfl ?_
            exact ⟨⟨_, rfl⟩, .inr ⟨pre ++ [(fr, t - fr)], ⟨rest', by rw [hpre.out, HR1.out]; simp⟩, hJx3⟩⟩
    · gi_wp2
      go_end0
      refine ⟨⟨_, rfl⟩, .inl ⟨pre, ?_, hJp.out⟩⟩
      have e : rest = [] := RunsFrom.unique hrest.out (show RunsFrom l fr [] from by show l.length ≤ fr; rw [← HN.out]; omega)
      rw [hpre.out, e]; simp

theorem runs_in (m : Nat) (a : Option Addr) (n cap : Nat) (w : World) :
    CallsIn Fence.wide m Try.prog 44 #[.slice a n cap] w fun e w' => e = .returned (.func (.func 65) #[] #[.pointer (some ⟨w.heap.size, 0, none⟩)]) ∧ w' = w.alloc (.cells #[.slice a n cap] 22) := by
  refine callsIn_of_wp Try.func44 rfl trivial ?_ rfl
  simp only [Try.ntmps44, List.size_toArray, List.length_cons, List.length_nil, Nat.reduceAdd, Nat.reduceSub, Array.replicate_succ, Array.replicate_zero, List.push_toArray, List.append_toArray, List.nil_append, List.cons_append]
  gi_wp2
  go_ret
  exact ⟨rfl, rfl⟩

/-- It abides the turn of a block that is no cells. -/
theorem OwnII.keptRow {w w' : World} {B : Nat} {a : Option Addr} {n cap : Nat} {ll : List (List Int)} {row : Option Nat} (h : OwnII w B a n cap ll) (hg : w.grownBy w' row) (hr : ∀ r, row = some r → ∃ o : Obj, w.heap[r]? = some o ∧ o.isCells = false) : OwnII w' B a n cap ll := by
  have key : ∀ {e : TypeId} {v : Value} {m : Nat} {xs : List Value}, w.ownsRow B e 1 v m xs → w'.ownsRow B e 1 v m xs := by
    intro e v m xs hv
    refine hv.kept hg ?_
    rcases hv.2 with ⟨rfl, _⟩ | ⟨g, c, cur, rfl, _, hgb, _⟩
    · exact .inl rfl
    · right
      intro e'
      obtain ⟨o, ho, hc⟩ := hr g e'.symm
      rw [hgb] at ho
      cases ho
      cases hc
  obtain ⟨rs, h1, h2, h3, h4, h5⟩ := h
  exact ⟨rs, h1, h2, key h3, fun j r hj => ⟨⟨(h4 j r hj).1.1, key (h4 j r hj).1.2⟩, (h4 j r hj).2⟩, h5⟩
theorem ownsRow_cells {w : World} {B : Nat} {e : TypeId} {size : Nat} {v : Value} {n : Nat} {xs : List Value} (h : w.ownsRow B e size v n xs) {j : Nat} {o : Obj} (hj : v.ownBlock = some j) (ho : w.heap[j]? = some o) : o.isCells = true := by
  rcases h.2 with ⟨rfl, _⟩ | ⟨g, c, cur, rfl, _, hg, _⟩
  · cases hj
  · cases hj
    rw [hg] at ho
    cases ho
    rfl
/-- What is known between two rounds. -/
def HoldsR (w : World) (pre : List (Nat × Nat)) (W : World) : Prop :=
  (∃ (oa : Option Addr) (on oc : Nat), Boxed W w.heap.size 24 (.slice oa on oc) ∧ OwnII W (w.heap.size + 2) oa on oc (pre.map pair)) ∧ Below w.heap.size w W ∧ w.heap.size + 2 ≤ W.heap.size

theorem holdsR_own (w : World) (B : Nat) (hB : w.heap.size ≤ B) : OwnFrom B (HoldsR w) := by
  intro s W W' row hs hg hr
  obtain ⟨⟨oa, on, oc, hb, ho⟩, hB2, hsz⟩ := hs
  refine ⟨⟨oa, on, oc, hb.kept hg ?_, ho.keptRow hg (fun r e => (hr r e).2)⟩, hB2.grown hg hB2.size (fun k e => Nat.le_trans hB (hr k e).1), Nat.le_trans hsz hg.size⟩
  intro e
  obtain ⟨_, o, h1, h2⟩ := hr _ e.symm
  rw [show W.heap[w.heap.size]? = _ from hb] at h1
  cases h1
  cases h2

set_option maxRecDepth 100000 in
set_option maxHeartbeats 2000000 in
theorem runs_any (a : Option Addr) (n cap : Nat) (l : List Int) (w : World) (h : Ints w a n cap l) (hm : n ≤ 1024) :
    Calls Try.prog 12 #[.slice a n cap] w fun e w' => ∃ (a' : Option Addr) (q cap' : Nat), e = .returned (.tuple #[.slice a' q cap', .int .i64 0]) ∧ OwnII w' w.heap.size a' q cap' (runsL l) ∧ Below w.heap.size w w' := by
  obtain ⟨i1, ki, kz0, kz1, kz2⟩ := info_parts Try.infoInts
  have HN := Lib.hid h.len
  have hlen : (runsOf l).length ≤ 1024 := by
    have := RunsFrom.length_le (Nat.zero_le _) (runs_spec l)
    have := HN.out
    omega
  refine (callsIn_wide (n := 10)).1 ?_
  refine callsIn_of_wp_marks Try.func12 rfl trivial ?_ rfl
  simp only [Try.ntmps12, List.size_toArray, List.length_cons, List.length_nil, Nat.reduceAdd, Nat.reduceSub, Array.replicate_succ, Array.replicate_zero, List.push_toArray, List.append_toArray, List.nil_append, List.cons_append]
  gi_wp2_with (refine ⟨trivial, ?_⟩; gi_at_call 44; refine (runs_in _ a n cap _).mono ?_; rintro e w' ⟨rfl, rfl⟩)
  have bO := Boxed.new w 24 (.slice none 0 0)
  have bN := Boxed.new (w.alloc (.cells #[.slice none 0 0] 24)) 22 (.slice a n cap)
  rw [World.size_alloc] at bN
  have hB0 : Below w.heap.size w ((w.alloc (.cells #[.slice none 0 0] 24)).alloc (.cells #[.slice a n cap] 22)) := ((Below.refl _ w).alloc (Nat.le_refl _) _).alloc (by simp) _
  refine wpIn_rangeFunc_ownG (α := Nat × Nat) (n := 10) rfl (by decide) (gf := 65) (lb := #[.pointer (some ⟨w.heap.size + 1, 0, none⟩)]) rfl trivial (enters_of Try.func65 (by kernel_rfl) rfl)
    (runs_stops 9 (by omega) (w.heap.size + 1) a n cap l w _ h hB0 (by simp) bN) KeepR.trans (keepR_b (by simp; omega) (by simp)) (Below.refl _ _) (fun _ => rfl)
    (HoldsR w) (fun _ _ _ => False) (holdsR_own w _ (by simp; omega)) (fun _ _ _ _ _ hs _ _ => hs)
    ⟨⟨none, 0, 0, bO.alloc _, OwnII.nil _ _⟩, hB0, by simp⟩
    (fun x => { tmps := #[.slice a n cap, undef, .slice none 0 0, .int .i64 0, .pointer (some ⟨w.heap.size, 0, none⟩), .int .i64 (x.1 : Int), .int .i64 (x.2 : Int), .slice a n cap, .int .i64 n, .bool (decide ((1024 : Int) < (n : Int))), .slice a n cap, .func (.func 65) #[] #[.pointer (some ⟨w.heap.size + 1, 0, none⟩)], .int .i64 (x.1 : Int), .int .i64 (x.2 : Int), undef, undef, undef, undef, undef, undef, undef], defers := [] }) ?assign ?body ?done ?stop
  case assign =>
    intro l x W K hK
    gi_wp2
    exact hK
  case body =>
    rintro lo pre x W ⟨⟨oa, on, oc, hbo, ho⟩, hB, hWs⟩ hlt
    have hc := hbo.cell
    have hon : on ≤ 1024 := by rw [ho.len]; simp; omega
    have hsB := hB.size
    have hlt1 : Hid (∀ q, (Value.slice oa on oc).ownBlock = some q → w.heap.size + 2 ≤ q ∧ q < W.heap.size) := by obtain ⟨xs, hx, _⟩ := ho.own; exact hx.lt
    obtain ⟨rs, hown, hpush⟩ := ho.rows
    have HP := Lib.hid hpush
    clear hpush
    gi_wp2_with (gi_at_builtin; refine wpListIn_append_own_at _ rfl _ _ 24 rfl (w.heap.size + 2) 22 i1 (.slice none 0 0) 1 24 Try.underlying24 ki kz0 kz1 kz2 rfl (by decide) (.slice oa on oc) on _ rfl ((hown.alloc _).alloc _) ⟨W.heap.size + 1, 0, none⟩ 1 1 [.slice (some ⟨W.heap.size, 0, none⟩) 2 2] rfl rfl (by have := cell_one_new (W.alloc (.cells #[.int .i64 (x.1 : Int), .int .i64 (x.2 : Int)] 3)) (.slice (some ⟨W.heap.size, 0, none⟩) 2 2) 22; simpa using this) (by simp [Value.oneCell']) (by unfold maxLen; omega) (by omega) (by simp; omega) ?_; intro v' w3 hown' hgrow _ hat; obtain ⟨a3, cap3, rfl, hO3⟩ := HP.out _ w3 v' (some ⟨W.heap.size, 0, none⟩) 2 2 (pair x) (((Below.refl _ W).alloc (Nat.le_refl _) _).alloc (by simp) _) ((OwnI.lit2 W (w.heap.size + 2) x.1 x.2 hWs).alloc _) (fun y hy => by cases hy; exact Nat.le_refl _) hown' hgrow hat; have hbo3 : Boxed w3 w.heap.size 24 (.slice oa on oc) := ((hbo.alloc _).alloc _).kept hgrow (fun e => by have := (hlt1.out _ e.symm).1; omega); have hc3 := hbo3.cell; have hf3 := hbo3.frozen)
    have hne : some (w.heap.size + 1) ≠ (Value.slice oa on oc).ownBlock := fun e => by have := (hlt1.out _ e.symm).1; omega
    refine ⟨(((KeepsOthers.alloc _ _).trans (KeepsOthers.alloc _ _)).trans ((KeepsOthers.of_grownBy hgrow (fun j o hj ho => ownsRow_cells ((hown.alloc _).alloc _) hj ho)).trans (KeepsOthers.setCell _ _ _))).from _,
      ⟨((((Below.refl w.heap.size W).alloc hsB _).alloc (by simp; omega) _).grown hgrow (by simp; omega) (fun j hj => by have := (hlt1.out j hj).1; omega)).setCell (Nat.le_refl _) _, ?_⟩,
      ⟨a3, on + 1, cap3, hbo3.set _, ?_⟩, ?_, ?_⟩
    · rw [Below.heap_setCell _ _ _ _ (by simp), hgrow.block _ (by simp; omega) hne, Below.heap_alloc _ _ _ (by simp; omega), Below.heap_alloc _ _ _ (by omega)]
    · rw [List.map_append]; exact hO3.setBelow (by show w.heap.size < _; omega) _
    · exact hB.trans (((((Below.refl w.heap.size W).alloc hsB _).alloc (by simp; omega) _).grown hgrow (by simp; omega) (fun j hj => by have := (hlt1.out j hj).1; omega)).setCell (Nat.le_refl _) _)
    · have := hgrow.size; simp at this; simp [World.setCell]; omega
  case done =>
    rintro D ys W hD rfl ⟨⟨oa, on, oc, hbo, ho⟩, hB, hWs⟩ hK
    have hc := hbo.cell
    gi_wp2
    refine ⟨by simp, .inl ⟨_, _, rfl, run_takeDeferred hK, ?_⟩⟩
    exact ⟨_, results_tmp2 rfl _ _ _, oa, on, oc, rfl, (ho.keptRow (grownBy_putObj' W D _) (fun r e => by cases e; exact ⟨_, hK, rfl⟩)).mono (by omega), hB.trans (belowK_b (w := w) (Nat.le_refl _) W D _ _ (by simp at hD; omega) hK rfl rfl)⟩
  case stop =>
    rintro D c pre W _ _ h _
    exact h.elim
set_option maxHeartbeats 400000 in
theorem runs_long (a : Option Addr) (n cap : Nat) (w : World) (hm : 1024 < n) :
    Calls Try.prog 12 #[.slice a n cap] w fun e w' => e = .returned (.tuple #[.slice none 0 0, .int .i64 4]) ∧ w' = w := by
  go_enter Try.func12, Try.ntmps12
  go_wp2
  go_ret2
  exact ⟨rfl, rfl⟩
end Go.Proofs.Ytdkokpehcmcnpaa
