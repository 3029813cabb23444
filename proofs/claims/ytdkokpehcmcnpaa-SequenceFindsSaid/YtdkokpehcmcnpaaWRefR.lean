/- The reference's Runs. -/
import Derived.Test.YtdkokpehcmcnpaaPure6
import Derived.Test.YtdkokpehcmcnpaaOwnII
namespace Go.Proofs.Ytdkokpehcmcnpaa
open Go.RowKit

/-- A store into row k. -/
theorem OwnII.storeRow {w : World} {B : Nat} {a : Option Addr} {n cap : Nat} {ll : List (List Int)} (h : OwnII w B a n cap ll) {k g gk nk ck j : Nat} {x : Int} (hk : k < n) (ha : a = some ⟨g, 0, none⟩)
    (hc : w.cell? ⟨g, k, none⟩ = some (.slice (some ⟨gk, 0, none⟩) nk ck)) :
    OwnII (w.setCell ⟨gk, j, none⟩ (.int .i64 x)) B a n cap (ll.set k ((ll[k]?.getD []).set j x)) := by
  obtain ⟨rs, h1, h2, h3, h4, h5⟩ := h
  subst ha
  obtain ⟨r, hr⟩ : ∃ r, rs[k]? = some r := ⟨_, List.getElem?_eq_getElem (by omega)⟩
  have hc' := h3.cellAt k (by omega)
  rw [List.getElem?_map, hr, hc] at hc'
  simp only [Option.map_some, Option.some.injEq, rowV, Value.slice.injEq] at hc'
  obtain ⟨e1, rfl, rfl⟩ := hc'
  obtain ⟨ok, apk⟩ := h4 k r hr
  rw [← e1] at ok apk
  have hne : ∀ (b : Option Addr) (m c : Nat), Apart b (some ⟨gk, 0, none⟩) → (Value.slice b m c).ownBlock ≠ some gk := by
    intro b m c hap
    cases hb1 : b with
    | none => simp [Value.ownBlock]
    | some y => simpa [Value.ownBlock] using hap y ⟨gk, 0, none⟩ hb1 rfl
  have hset : ∀ (b : Option Addr) (m c : Nat) (s : List Int), OwnI w B b m c s → Apart b (some ⟨gk, 0, none⟩) → OwnI (w.setCell ⟨gk, j, none⟩ (.int .i64 x)) B b m c s := by
    intro b m c s hb hap
    exact ⟨hb.1, ownsRow_setCell_other hb.2 (hne b m c hap) _⟩
  refine ⟨rs, by simpa using h1, h2, ownsRow_setCell_other h3 (hne _ _ _ apk.symm) _, fun i q hq => ?_, h5⟩
  by_cases hi : i = k
  · subst hi
    rw [hr] at hq
    cases hq
    rw [List.getElem?_set_self (by omega), ← e1]
    exact ⟨ok.stored j x, apk⟩
  · rw [List.getElem?_set_ne (fun e => hi e.symm)]
    have ap := h5 i k q r hi hq hr
    rw [← e1] at ap
    exact ⟨hset _ _ _ _ (h4 i q hq).1 ap, (h4 i q hq).2⟩

theorem follows_any (x y : Int) (hx : I64 x) (hy : I64 y) (w : World) : Calls Try.prog 50 #[.int .i64 x, .int .i64 y] w fun e w' => e = .returned (.bool (decide (x < y ∧ y - 1 = x))) ∧ Drew w w' := by
  have hx1 := hx.1
  have hx2 := hx.2
  have hy1 := hy.1
  have hy2 := hy.2
  clear hx hy
  go_enter Try.func50, Try.ntmps50
  by_cases h : x < y
  · have hw : IntKind.i64.wrap (y - 1) = y - 1 := IntWalk.i64_in _ (by omega)
    go_wp2
    go_ret
    exact ⟨by simp [h]; rfl, Drew.refl _⟩
  · have hd : decide (x < y) = false := by simpa using h
    go_wp2
    go_ret
    exact ⟨by simp, Drew.refl _⟩

/-- The runs of the first k elements. -/
def RunState (l : List Int) (k : Nat) (rr : List (Nat × Nat)) : Prop :=
  (k = 0 ∧ rr = []) ∨ ∃ r s, rr = r ++ [(s, k - s)] ∧ Running l k r s
theorem RunState.length_le {l : List Int} {k : Nat} {rr : List (Nat × Nat)} (h : RunState l k rr) (hl : k ≤ l.length) : rr.length ≤ l.length := by
  rcases h with ⟨_, rfl⟩ | ⟨r, s, rfl, h⟩
  · simp
  · have h1 := h.2.2.2 (runsGo l l.length s) (runsGo_spec l _ _ (by omega))
    have h2 := RunsFrom.length_le (Nat.zero_le _) h1
    have h3 : 0 < (runsGo l l.length s).length := by
      obtain ⟨f, hf⟩ : ∃ f, l.length = f + 1 := ⟨l.length - 1, by have := h.1; have := h.2.1; omega⟩
      rw [show runsGo l l.length s = runsGo l (f + 1) s by rw [hf], runsGo, if_pos (by have := h.1; have := h.2.1; omega)]
      simp
    simp at h2 ⊢; omega
theorem RunState.done {l : List Int} {rr : List (Nat × Nat)} (h : RunState l l.length rr) : rr.map pair = runsL l := by
  rcases h with ⟨h0, rfl⟩ | ⟨r, s, rfl, h⟩
  · have : l = [] := List.eq_nil_of_length_eq_zero h0
    subst this; rfl
  · rw [runsL, h.done]
theorem RunState.next {l : List Int} {k : Nat} {rr : List (Nat × Nat)} (h : RunState l k rr) (hk : k < l.length) (hc : 0 < k → ¬ cont l k = true) : RunState l (k + 1) (rr ++ [(k, 1)]) := by
  rcases h with ⟨rfl, rfl⟩ | ⟨r, s, rfl, h⟩
  · exact .inr ⟨[], 0, by simp, Running.first hk⟩
  · exact .inr ⟨_, k, by rw [show k + 1 - k = 1 by omega], h.next hk (hc (by have := h.1; omega))⟩

set_option maxHeartbeats 1000000 in
theorem ref_runs_any (a : Option Addr) (n cap : Nat) (l : List Int) (w : World) (h : Ints w a n cap l) (hm : n ≤ 1024) :
    Calls Try.prog 20 #[.slice a n cap] w fun e w' => ∃ (a' : Option Addr) (q cap' : Nat), e = .returned (.tuple #[.slice a' q cap', .int .i64 0]) ∧ OwnII w' w.heap.size a' q cap' (runsL l) ∧ Below w.heap.size w w' := by
  have H := Lib.hid h.len
  obtain ⟨i1, ki, kz0, kz1, kz2⟩ := info_parts Try.infoInts
  go_enter Try.func20, Try.ntmps20
  go_wp2
  have M0 := OwnII.made0 w w.heap.size (Nat.le_refl _)
  have B0 := (Below.refl w.heap.size w).alloc (Nat.le_refl _) (.cells #[] 22)
  go_loopw [4, 5] (fun o i wr => ∃ (k : Nat) (ac : Option Addr) (nc cc : Nat) (rr : List (Nat × Nat)), k ≤ n ∧ i = .int .i64 k ∧ o = .slice ac nc cc ∧ OwnII wr w.heap.size ac nc cc (rr.map pair) ∧ Hid (RunState l k rr) ∧ Below w.heap.size w wr) (fun _ i _ => n - (intOf i).toNat)
  case atStart => exact ⟨0, _, 0, 0, [], Nat.zero_le _, rfl, rfl, M0, .inl ⟨rfl, rfl⟩, B0⟩
  case round =>
    clear M0 B0
    obtain ⟨k, ac, nc, cc, rr, hk, rfl, rfl, ho, hr, hB⟩ := hrel
    have hncl := ho.len
    have hnc : nc ≤ n := by rw [hncl, H.out]; simpa using hr.out.length_le (by rw [← H.out]; exact hk)
    have HNC := Lib.hid hncl
    clear hncl
    by_cases hlt : k < n
    · obtain ⟨b, off, rfl, -, hcl⟩ := (h.below hB).at_ (by omega)
      have hsB := hB.size
      obtain ⟨rs, hown, hpush⟩ := ho.rows
      have HP := Lib.hid hpush
      clear hpush
      have hlt1 : Hid (∀ q, (Value.slice ac nc cc).ownBlock = some q → w.heap.size ≤ q ∧ q < wr.heap.size) := hown.lt
      by_cases hk0 : 0 < k
      · have c1 := hcl.out k hlt
        have c2 := hcl.out (k - 1) (by omega)
        have F := fun w => follows_any (l[k - 1]?.getD 0) (l[k]?.getD 0) (h.i64 _) (h.i64 _) w
        have i0k : (0 : Int) < (k : Int) := by omega
        cases hcont : cont l k with
        | true =>
          have hnc0 : 0 < nc := by
            rw [HNC.out]
            rcases hr.out with ⟨h0, _⟩ | ⟨r, s, e, _⟩
            · omega
            · rw [e]; simp
          obtain ⟨g, aj, nj, cj, rfl, hgB, hgs, hfz, hcj, hoj, hapj⟩ := ho.at_ (j := nc - 1) (by omega)
          have hst : Hid (∃ r s, rr = r ++ [(s, k - s)] ∧ Running l k r s ∧ nc - 1 = r.length) := by
            rcases hr.out with ⟨h0, _⟩ | ⟨r, s, e, h⟩
            · omega
            · exact ⟨r, s, e, h, by rw [HNC.out, e]; simp⟩
          obtain ⟨r, s, er, hrun, hlr⟩ := hst
          have erow : (rr.map pair)[nc - 1]?.getD [] = [(s : Int), ((k - s : Nat) : Int)] := by rw [er, hlr]; simp [pair]
          rw [erow] at hoj
          have hnj := hoj.len
          simp at hnj
          subst hnj
          obtain ⟨gj, rfl, hgjB, hgjs, -, hfj, hcjs⟩ := hoj.at_ (by omega)
          have c3 := hcjs.out 1 (by omega)
          rw [show ([(s : Int), ((k - s : Nat) : Int)])[1]?.getD 0 = ((k - s : Nat) : Int) from rfl] at c3
          have f3 := hoj.free 1
          have HE := Lib.hid er
          have HL := Lib.hid hlr
          have HW := Lib.hid erow
          have HR2 : Hid (Running l k r s) := hrun
          clear er hlr erow hrun hapj
          have hks : k - s ≤ k := by omega
          have F1 : ∀ w, Calls Try.prog 50 #[.int .i64 (l[k - 1]?.getD 0), .int .i64 (l[k]?.getD 0)] w fun e w' => e = .returned (.bool true) ∧ Drew w w' := fun w => by
            have := F w
            rw [show decide (l[k - 1]?.getD 0 < l[k]?.getD 0 ∧ l[k]?.getD 0 - 1 = l[k - 1]?.getD 0) = cont l k from rfl, hcont] at this
            exact this
          have HF := Lib.hid F1
          have HCO := Lib.hid hcont
          clear F1 F hcont
          go_wp2
          go_quiet ((go_at_call 50; exact Drew.quiet (HF.out _)))
          go_wp2
          go_roundw
          case rel =>
            refine ⟨k + 1, some ⟨g, 0, none⟩, nc, cc, r ++ [(s, k + 1 - s)], by omega, by go_num, rfl, ?_, .inr ⟨r, s, rfl, HR2.out.on (by rw [← H.out]; exact hlt) HCO.out⟩, (below_drewN hB nq).setCell (by show w.heap.size ≤ gj; omega) _⟩
            have hs := (ho.drewN nq).storeRow (k := nc - 1) (j := 1) (x := ((k - s : Nat) : Int) + 1) (by omega) rfl hcj
            rw [HW.out, HE.out, HL.out] at hs
            have hsk := HR2.out.1
            have e2 : ((k - s : Nat) : Int) + 1 = ((k + 1 - s : Nat) : Int) := by omega
            have e3 : ((r ++ [(s, k - s)]).map pair).set r.length ([(s : Int), ((k - s : Nat) : Int)].set 1 (((k - s : Nat) : Int) + 1)) = (r ++ [(s, k + 1 - s)]).map pair := by
              rw [e2]; simp [pair]
            rw [e3] at hs
            exact hs
          case measure => simp [intOf]; omega
        | false =>
          have F1 : ∀ w, Calls Try.prog 50 #[.int .i64 (l[k - 1]?.getD 0), .int .i64 (l[k]?.getD 0)] w fun e w' => e = .returned (.bool false) ∧ Drew w w' := fun w => by
            have := F w
            rw [show decide (l[k - 1]?.getD 0 < l[k]?.getD 0 ∧ l[k]?.getD 0 - 1 = l[k - 1]?.getD 0) = cont l k from rfl, hcont] at this
            exact this
          have HF := Lib.hid F1
          have HN : Hid (RunState l (k + 1) (rr ++ [(k, 1)])) := hr.out.next (by rw [← H.out]; exact hlt) (fun _ => by rw [hcont]; simp)
          clear F1 F hcont
          go_wp2
          go_quiet ((go_at_call 50; exact Drew.quiet (HF.out _)))
          have hb2 : Below wr.heap.size wr (wr.drewN nq) := drewN_below _ _ _
          go_wp2_with (at_builtin; refine wpList_append_own_at _ rfl _ _ 24 rfl w.heap.size 22 i1 (.slice none 0 0) 1 24 Try.underlying24 ki kz0 kz1 kz2 rfl (by decide) (.slice ac nc cc) nc _ rfl (((ownsRow_below hown hb2).alloc _).alloc _) ⟨wr.heap.size + 1, 0, none⟩ 1 1 [.slice (some ⟨wr.heap.size, 0, none⟩) 2 2] rfl rfl (by have := cell_one_new ((wr.drewN nq).alloc (.cells #[.int .i64 (k:Int), .int .i64 1] 3)) (.slice (some ⟨wr.heap.size, 0, none⟩) 2 2) 22; simpa using this) (by simp [Value.oneCell']) (by unfold maxLen; omega) (by omega) (by simp; omega) ?_; intro v' w3 hown' hgrow _ hat; obtain ⟨a3, cap3, rfl, hO3⟩ := HP.out _ w3 v' (some ⟨wr.heap.size, 0, none⟩) 2 2 [(k : Int), 1] ((hb2.alloc (Nat.le_refl _) _).alloc (by simp) _) ((OwnI.lit2 (wr.drewN nq) w.heap.size k 1 hsB).alloc _) (fun x hx => by cases hx; exact Nat.le_refl _) hown' hgrow hat)
          go_roundw
          case rel => exact ⟨k + 1, a3, nc + 1, cap3, rr ++ [(k, 1)], by omega, by go_num, rfl, by rw [List.map_append]; exact hO3, HN.out, (((below_drewN hB nq).alloc hsB _).alloc (by simp; omega) _).grown hgrow (by simp; omega) (fun q hq => (hlt1.out q hq).1)⟩
          case measure => simp [intOf]; omega
      · have i0k : decide ((0 : Int) < (k : Int)) = false := decide_eq_false (by omega)
        have HN : Hid (RunState l (k + 1) (rr ++ [(k, 1)])) := hr.out.next (by rw [← H.out]; exact hlt) (fun x => absurd x hk0)
        go_wp2
        go_quiet (fail)
        have hb2 : Below wr.heap.size wr (wr.drewN nq) := drewN_below _ _ _
        go_wp2_with (at_builtin; refine wpList_append_own_at _ rfl _ _ 24 rfl w.heap.size 22 i1 (.slice none 0 0) 1 24 Try.underlying24 ki kz0 kz1 kz2 rfl (by decide) (.slice ac nc cc) nc _ rfl (((ownsRow_below hown hb2).alloc _).alloc _) ⟨wr.heap.size + 1, 0, none⟩ 1 1 [.slice (some ⟨wr.heap.size, 0, none⟩) 2 2] rfl rfl (by have := cell_one_new ((wr.drewN nq).alloc (.cells #[.int .i64 (k:Int), .int .i64 1] 3)) (.slice (some ⟨wr.heap.size, 0, none⟩) 2 2) 22; simpa using this) (by simp [Value.oneCell']) (by unfold maxLen; omega) (by omega) (by simp; omega) ?_; intro v' w3 hown' hgrow _ hat; obtain ⟨a3, cap3, rfl, hO3⟩ := HP.out _ w3 v' (some ⟨wr.heap.size, 0, none⟩) 2 2 [(k : Int), 1] ((hb2.alloc (Nat.le_refl _) _).alloc (by simp) _) ((OwnI.lit2 (wr.drewN nq) w.heap.size k 1 hsB).alloc _) (fun x hx => by cases hx; exact Nat.le_refl _) hown' hgrow hat)
        go_roundw
        case rel => exact ⟨k + 1, a3, nc + 1, cap3, rr ++ [(k, 1)], by omega, by go_num, rfl, by rw [List.map_append]; exact hO3, HN.out, (((below_drewN hB nq).alloc hsB _).alloc (by simp; omega) _).grown hgrow (by simp; omega) (fun q hq => (hlt1.out q hq).1)⟩
        case measure => simp [intOf]; omega
    · go_wp2
      go_ret2
      obtain rfl : k = n := by omega
      refine ⟨ac, nc, cc, rfl, ?_, hB⟩
      have e := RunState.done (l := l) (rr := rr) (by rw [← H.out]; exact hr.out)
      rw [← e]
      exact ho
set_option maxHeartbeats 400000 in
theorem ref_runs_long (a : Option Addr) (n cap : Nat) (w : World) (hm : 1024 < n) :
    Calls Try.prog 20 #[.slice a n cap] w fun e w' => e = .returned (.tuple #[.slice none 0 0, .int .i64 4]) ∧ w' = w := by
  go_enter Try.func20, Try.ntmps20
  go_wp2
  go_ret2
  exact ⟨rfl, rfl⟩
end Go.Proofs.Ytdkokpehcmcnpaa
