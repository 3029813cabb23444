/- The reference: count, long, Great. -/
import Derived.Test.YtancjkaoocgeeaaDoorCPure1
namespace Go.Proofs.YtancjkaoocgeeaaDoor
open Go.RowKit

/-- What is known behind the boxing of a value. -/
structure Boxed (S : Nat → Prop) (w W : World) (b : Nat) (v : Vl) : Prop where
  below : Below w.heap.size w W
  lt : w.heap.size ≤ W.heap.size
  at_ : VAt W b 0 v
  rd : Rd S W v
theorem boxed (S : Nat → Prop) (w : World) (v : Vl) (h : Rd S w v) : Boxed S w (w.alloc (.cells v.cells 24)) w.heap.size v := by
  have hb : Below w.heap.size w (w.alloc (.cells v.cells 24)) := (Below.refl _ w).alloc (Nat.le_refl _) _
  refine ⟨hb, hb.size, ⟨?_, ?_, ?_, ?_⟩, h.below hb⟩ <;> (rw [World.cell?_alloc_at _ _ _ _ rfl]; rfl)
theorem VAt.later {w w' : World} {b o : Nat} {v : Vl} (h : VAt w b o v) (hb : Below w.heap.size w w') : VAt w' b o v :=
  ⟨cell_later hb h.1, cell_later hb h.2.1, cell_later hb h.2.2.1, cell_later hb h.2.2.2⟩
theorem Boxed.later {S : Nat → Prop} {w W W' : World} {b : Nat} {v : Vl} (h : Boxed S w W b v) (hb : Below W.heap.size W W') : Boxed S w W' b v :=
  ⟨h.below.trans (hb.mono h.lt), Nat.le_trans h.lt hb.size, h.at_.later hb, h.rd.below hb⟩
theorem Rd.vals {S : Nat → Prop} {w : World} {v : Vl} (h : Rd S w v) : Vals S w v.addr v.items.length v.cap v.items := (rd_iff.1 h).2.2.2
theorem er_take (l : List Vl) (j : Nat) : (l.map Vl.er).take j = (l.take j).map Vl.er := (List.map_take).symm
theorem take_er {l : List Vl} {j : Nat} {u : Vl} (h : l[j]? = some u) : (l.map Vl.er).take (j + 1) = (l.map Vl.er).take j ++ [u.er] := by
  rw [List.take_add_one, List.getElem?_map, h]; rfl

theorem cnt_fold_bd {n : Nat} (hc : ∀ v, 1 ≤ cntV 60 n v ∧ cntV 60 n v ≤ 60 * ((n : Int) + 1) + 1) : ∀ (l : List V) (s : Int), 1 ≤ s → s ≤ 60 * ((n : Int) + 2) + 1 →
    1 ≤ l.foldl (fun s u => if s ≤ 60 then s + cntV 60 n u else s) s ∧ l.foldl (fun s u => if s ≤ 60 then s + cntV 60 n u else s) s ≤ 60 * ((n : Int) + 2) + 1
  | [], s, h1, h2 => ⟨h1, h2⟩
  | u :: l, s, h1, h2 => by
    rw [List.foldl_cons]
    have := hc u
    exact cnt_fold_bd hc l _ (by split <;> omega) (by split <;> omega)
theorem cntV_bd : ∀ (n : Nat) (v : V), 1 ≤ cntV 60 n v ∧ cntV 60 n v ≤ 60 * ((n : Int) + 1) + 1
  | 0, v => by rw [cntV]; omega
  | n + 1, v => by
    have := cnt_fold_bd (cntV_bd n) v.items 1 (by omega) (by omega)
    rw [cntV]; push_cast; omega
set_option maxRecDepth 100000 in
set_option maxHeartbeats 1000000 in
theorem count_any : ∀ (n : Nat) (S : Nat → Prop) (v : Vl) (w : World), n ≤ 70 → Rd S w v →
    Calls Tryd.prog 31 #[v.val, .int .i64 n, .int .i64 60] w fun e w' => e = .returned (.int .i64 (cntV 60 n v.er)) ∧ Below w.heap.size w w'
  | 0, S, .mk k nn t a c l, w, _, h => by
    change Calls _ _ #[.agg #[.int .i64 k, .int .i64 nn, .string t, .slice a l.length c], _, _] _ _
    go_enter Tryd.func31, Tryd.ntmps31
    go_wp2
    go_ret
    exact ⟨rfl, (Below.refl _ _).alloc (Nat.le_refl _) _⟩
  | n + 1, S, .mk k nn t a c l, w, hn, h => by
    have IH := Lib.hid (count_any n)
    have hB := boxed S w _ h
    have hE : Hid (cntV 60 (n + 1) (Vl.mk k nn t a c l).er = (l.map Vl.er).foldl (fun s u => if s ≤ 60 then s + cntV 60 n u else s) 1) := by show _ = _; rw [cntV, Vl.er_items]; rfl
    have hL := hB.rd.vals.2.2.1
    have hBE := hB.below
    have hlt := hB.lt
    change l.length * 56 ≤ _ at hL
    change Boxed S w (w.alloc (.cells #[.int .i64 k, .int .i64 nn, .string t, .slice a l.length c] 24)) _ _ at hB
    change Below _ w (w.alloc (.cells #[.int .i64 k, .int .i64 nn, .string t, .slice a l.length c] 24)) at hBE
    change w.heap.size ≤ (w.alloc (.cells #[.int .i64 k, .int .i64 nn, .string t, .slice a l.length c] 24)).heap.size at hlt
    change Calls _ _ #[.agg #[.int .i64 k, .int .i64 nn, .string t, .slice a l.length c], _, _] _ _
    obtain ⟨N, hN⟩ : ∃ N : Nat, N = n + 1 := ⟨_, rfl⟩
    rw [← hN]
    rw [← hN] at hE
    have hN1 : (n : Int) = (N : Int) - 1 := by omega
    have HN := Lib.hid hN
    have HN1 := Lib.hid hN1
    have hNlo : 1 ≤ N := by omega
    have hNhi : N ≤ 70 := by omega
    clear hN hN1
    go_enter Tryd.func31, Tryd.ntmps31
    go_wp2
    generalize w.alloc (.cells #[.int .i64 k, .int .i64 nn, .string t, .slice a l.length c] 24) = W1 at *
    go_loopw [8, 7] (fun i s wr => ∃ (j : Nat) (x : Int), i = .int .i64 j ∧ s = .int .i64 x ∧ j ≤ l.length ∧ Hid (x = ((l.map Vl.er).take j).foldl (fun s u => if s ≤ 60 then s + cntV 60 n u else s) 1) ∧ 1 ≤ x ∧ x ≤ 10000 ∧ Below W1.heap.size W1 wr) (fun i _ _ => l.length - (intOf i).toNat)
    case atStart => exact ⟨0, 1, rfl, rfl, Nat.zero_le _, rfl, by omega, by omega, Below.refl _ _⟩
    case round =>
      obtain ⟨j, x, rfl, rfl, hj, hx, hx1, hx2, hb⟩ := hrel
      have hBr := hB.later hb
      obtain ⟨-, -, -, k4⟩ := hBr.at_
      change wr.cell? ⟨w.heap.size, 3, none⟩ = some (.slice a l.length c) at k4
      by_cases hlj : j < l.length
      · obtain ⟨u, bb, off, hu, -, ea, -, -, ⟨c1, c2, c3, c4⟩, hru⟩ := hBr.rd.vals.get hlj
        change a = _ at ea
        change l[j]? = _ at hu
        subst ea
        by_cases hx60 : x ≤ 60
        · have hst : Hid (x + cntV 60 n u.er = ((l.map Vl.er).take (j + 1)).foldl (fun s u => if s ≤ 60 then s + cntV 60 n u else s) 1) := by
            show _ = _
            rw [take_er hu, List.foldl_append, ← hx.out]
            show _ = if x ≤ 60 then _ else _
            rw [if_pos hx60]
          have hbd := cntV_bd n u.er
          have HF := IH.out S u wr (by omega) hru
          rw [HN1.out] at HF
          replace HF := Lib.hid HF
          obtain ⟨uk, un, ut, ua, uc, ul⟩ := u
          dsimp only [Vl.kind, Vl.num, Vl.text, Vl.sl, Vl.addr, Vl.items, Vl.cap] at c1 c2 c3 c4
          dsimp only [Vl.val, Vl.cells, Vl.kind, Vl.num, Vl.text, Vl.sl, Vl.addr, Vl.items, Vl.cap] at HF
          clear hx hru hu
          generalize cntV 60 n _ = C at *
          have sw : IntKind.i64.wrap (x + C) = x + C := IntWalk.i64_in _ (by omega)
          go_wp2_with (go_at_call 31; refine HF.out.mono ?_; rintro e w' ⟨rfl, hb'⟩)
          go_roundw
          case rel => exact ⟨j + 1, x + C, by go_num, rfl, by omega, hst.out, by omega, by omega, hb.trans (hb'.mono hb.size)⟩
          case measure => simp [intOf]; omega
        · have hst : Hid (cntV 60 N (Vl.mk k nn t (some ⟨bb, off, none⟩) c l).er = x) := by
            show _ = _
            rw [hE.out]
            rw [← List.take_append_drop j (l.map Vl.er), List.foldl_append, ← hx.out]
            have key : ∀ m : List V, m.foldl (fun s u => if s ≤ 60 then s + cntV 60 n u else s) x = x := by
              intro m
              induction m with
              | nil => rfl
              | cons y m ih => rw [List.foldl_cons, if_neg hx60]; exact ih
            exact key _
          have d60 : decide (x ≤ 60) = false := by simp; omega
          clear hx hru hu
          go_wp2
          go_ret
          exact ⟨by rw [hst.out]; rfl, hBE.trans (hb.mono hlt)⟩
      · obtain rfl : j = l.length := by omega
        have hst : Hid (cntV 60 N (Vl.mk k nn t a c l).er = x) := by
          show _ = _
          rw [hE.out, hx.out, List.take_of_length_le (by simp)]
        clear hx
        go_wp2
        go_ret
        exact ⟨by rw [hst.out]; rfl, hBE.trans (hb.mono hlt)⟩
end Go.Proofs.YtancjkaoocgeeaaDoor

namespace Go.Proofs.YtancjkaoocgeeaaDoor
open Go.RowKit

theorem longV_succ (n : Nat) (v : V) : longV (n + 1) v = (decide (40 < v.text.size) || v.items.any (longV n)) := rfl
theorem any_take_no {l : List Vl} {p : V → Bool} {j : Nat} {u : Vl} (hu : l[j]? = some u) (h : ((l.map Vl.er).take j).any p = false) (hp : p u.er = false) : ((l.map Vl.er).take (j + 1)).any p = false := by
  rw [take_er hu, List.any_append, h]; simp [hp]
theorem any_at_yes {l : List Vl} {p : V → Bool} {j : Nat} {u : Vl} (hu : l[j]? = some u) (hp : p u.er = true) : (l.map Vl.er).any p = true :=
  List.any_eq_true.2 ⟨u.er, List.mem_map_of_mem (List.mem_of_getElem? hu), hp⟩
set_option maxRecDepth 100000 in
set_option maxHeartbeats 1000000 in
theorem long_any : ∀ (n : Nat) (S : Nat → Prop) (v : Vl) (w : World), n ≤ 70 → Rd S w v →
    Calls Tryd.prog 32 #[v.val, .int .i64 n] w fun e w' => e = .returned (.bool (longV n v.er)) ∧ Below w.heap.size w w'
  | 0, S, .mk k nn t a c l, w, _, h => by
    have ht := (rd_iff.1 h).2.2.1
    change t.size ≤ _ at ht
    change Calls _ _ #[.agg #[.int .i64 k, .int .i64 nn, .string t, .slice a l.length c], _] _ _
    by_cases h40 : 40 < t.size
    · have d40 : decide (40 < t.size) = true := by simp [h40]
      go_enter Tryd.func32, Tryd.ntmps32
      go_wp2
      go_ret
      exact ⟨rfl, (Below.refl _ _).alloc (Nat.le_refl _) _⟩
    · have d40 : decide (40 < t.size) = false := by simp; omega
      go_enter Tryd.func32, Tryd.ntmps32
      go_wp2
      go_ret
      exact ⟨rfl, (Below.refl _ _).alloc (Nat.le_refl _) _⟩
  | n + 1, S, .mk k nn t a c l, w, hn, h => by
    have IH := Lib.hid (long_any n)
    have ht := (rd_iff.1 h).2.2.1
    change t.size ≤ _ at ht
    have hB := boxed S w _ h
    have hE : Hid (longV (n + 1) (Vl.mk k nn t a c l).er = (decide (40 < t.size) || (l.map Vl.er).any (longV n))) := by show _ = _; rw [longV_succ, Vl.er_items, Vl.er_text]; rfl
    have hL := hB.rd.vals.2.2.1
    have hBE := hB.below
    have hlt := hB.lt
    change l.length * 56 ≤ _ at hL
    change Boxed S w (w.alloc (.cells #[.int .i64 k, .int .i64 nn, .string t, .slice a l.length c] 24)) _ _ at hB
    change Below _ w (w.alloc (.cells #[.int .i64 k, .int .i64 nn, .string t, .slice a l.length c] 24)) at hBE
    change w.heap.size ≤ (w.alloc (.cells #[.int .i64 k, .int .i64 nn, .string t, .slice a l.length c] 24)).heap.size at hlt
    change Calls _ _ #[.agg #[.int .i64 k, .int .i64 nn, .string t, .slice a l.length c], _] _ _
    obtain ⟨N, hN⟩ : ∃ N : Nat, N = n + 1 := ⟨_, rfl⟩
    rw [← hN]
    rw [← hN] at hE
    have HN1 : Hid ((n : Int) = (N : Int) - 1) := by show _ = _; omega
    have hNlo : 1 ≤ N := by omega
    have hNhi : N ≤ 70 := by omega
    have hnn : n ≤ 70 := by omega
    clear hN
    have dN : ((N : Int) == 0) = false := by simp; omega
    by_cases h40 : 40 < t.size
    · have d40 : decide (40 < t.size) = true := by simp [h40]
      have hst : Hid (longV N (Vl.mk k nn t a c l).er = true) := by show _ = _; rw [hE.out, d40]; rfl
      go_enter Tryd.func32, Tryd.ntmps32
      go_wp2
      go_ret
      exact ⟨by rw [hst.out]; rfl, hBE⟩
    · have d40 : decide (40 < t.size) = false := by simp; omega
      have hE2 : Hid (longV N (Vl.mk k nn t a c l).er = (l.map Vl.er).any (longV n)) := by show _ = _; rw [hE.out, d40]; rfl
      clear hE
      go_enter Tryd.func32, Tryd.ntmps32
      go_wp2
      generalize w.alloc (.cells #[.int .i64 k, .int .i64 nn, .string t, .slice a l.length c] 24) = W1 at *
      go_loopw [5] (fun i wr => ∃ (j : Nat), i = .int .i64 j ∧ j ≤ l.length ∧ Hid (((l.map Vl.er).take j).any (longV n) = false) ∧ Below W1.heap.size W1 wr) (fun i _ => l.length - (intOf i).toNat)
      case atStart => exact ⟨0, rfl, Nat.zero_le _, rfl, Below.refl _ _⟩
      case round =>
        obtain ⟨j, rfl, hj, hx, hb⟩ := hrel
        have hBr := hB.later hb
        obtain ⟨-, -, -, k4⟩ := hBr.at_
        change wr.cell? ⟨w.heap.size, 3, none⟩ = some (.slice a l.length c) at k4
        by_cases hlj : j < l.length
        · obtain ⟨u, bb, off, hu, -, ea, -, -, ⟨c1, c2, c3, c4⟩, hru⟩ := hBr.rd.vals.get hlj
          change a = _ at ea
          change l[j]? = _ at hu
          subst ea
          have HF := IH.out S u wr hnn hru
          rw [HN1.out] at HF
          cases hl : longV n u.er with
          | true =>
            rw [hl] at HF
            have hst : Hid (longV N (Vl.mk k nn t (some ⟨bb, off, none⟩) c l).er = true) := by show _ = _; rw [hE2.out]; exact any_at_yes hu hl
            replace HF := Lib.hid HF
            obtain ⟨uk, un, ut, ua, uc, ul⟩ := u
            dsimp only [Vl.kind, Vl.num, Vl.text, Vl.sl, Vl.addr, Vl.items, Vl.cap] at c1 c2 c3 c4
            dsimp only [Vl.val, Vl.cells, Vl.kind, Vl.num, Vl.text, Vl.sl, Vl.addr, Vl.items, Vl.cap] at HF
            clear hx hru hu hl
            go_wp2_with (go_at_call 32; refine HF.out.mono ?_; rintro e w' ⟨rfl, hb'⟩)
            go_ret
            exact ⟨by rw [hst.out]; rfl, hBE.trans ((hb.trans (hb'.mono hb.size)).mono hlt)⟩
          | false =>
            rw [hl] at HF
            have hst : Hid (((l.map Vl.er).take (j + 1)).any (longV n) = false) := any_take_no hu hx.out hl
            replace HF := Lib.hid HF
            obtain ⟨uk, un, ut, ua, uc, ul⟩ := u
            dsimp only [Vl.kind, Vl.num, Vl.text, Vl.sl, Vl.addr, Vl.items, Vl.cap] at c1 c2 c3 c4
            dsimp only [Vl.val, Vl.cells, Vl.kind, Vl.num, Vl.text, Vl.sl, Vl.addr, Vl.items, Vl.cap] at HF
            clear hx hru hu hl
            go_wp2_with (go_at_call 32; refine HF.out.mono ?_; rintro e w' ⟨rfl, hb'⟩)
            go_roundw
            case rel => exact ⟨j + 1, by go_num, by omega, hst.out, hb.trans (hb'.mono hb.size)⟩
            case measure => simp [intOf]; omega
        · obtain rfl : j = l.length := by omega
          have hst : Hid (longV N (Vl.mk k nn t a c l).er = false) := by
            show _ = _
            rw [hE2.out, ← hx.out, List.take_of_length_le (by simp)]
          clear hx
          go_wp2
          go_ret
          exact ⟨by rw [hst.out]; rfl, hBE.trans (hb.mono hlt)⟩
end Go.Proofs.YtancjkaoocgeeaaDoor

namespace Go.Proofs.YtancjkaoocgeeaaDoor
open Go.RowKit
theorem toList_nil {t : ByteArray} : t.toList = [] ↔ t.size = 0 := by
  rw [ByteArray.toList_eq]
  constructor
  · intro h; have := congrArg List.length h; simpa using this
  · intro h; exact List.eq_nil_of_length_eq_zero (by simpa using h)
theorem isEmpty_toList {t : ByteArray} : t.toList.isEmpty = decide (t.size = 0) := by
  rw [Bool.eq_iff_iff, List.isEmpty_iff, toList_nil]; simp
theorem sing_of {k nn : Int} {t : ByteArray} {a : Option Addr} {c : Nat} {l : List Vl} {E : Int} (h : singV (Vl.mk k nn t a c l).er = E) :
    E = if (k = 1 ∧ t.toList = [] ∧ l.length = 0) ∨ (k = 2 ∧ nn = 0 ∧ l.length = 0) ∨ (k = 3 ∧ nn = 0 ∧ t.toList = []) then (if 1048576 < t.size ∨ 4096 < l.length then 4 else 0) else 8 := by
  rw [← h, singV, Vl.er_kind, Vl.er_num, Vl.er_text, Vl.er_len]
  simp only [toList_nil]
  rfl
set_option maxRecDepth 100000 in
set_option maxHeartbeats 1000000 in
theorem single_any (S : Nat → Prop) : ∀ (v : Vl) (w : World), Rd S w v →
    Calls Tryd.prog 56 #[v.val] w fun e w' => e = .returned (.int .i64 (singV v.er)) ∧ Below w.heap.size w w'
  | .mk k nn t a c l, w, h => by
    have ht := (rd_iff.1 h).2.2.1
    change t.size ≤ _ at ht
    have hB := boxed S w _ h
    have hL := hB.rd.vals.2.2.1
    have hBE := Lib.hid hB.below
    change l.length * 56 ≤ _ at hL
    clear hB
    change Calls _ _ #[.agg #[.int .i64 k, .int .i64 nn, .string t, .slice a l.length c]] _ _
    generalize hE : singV (Vl.mk k nn t a c l).er = E
    have HE := Lib.hid hE
    clear hE
    go_enter Tryd.func56, Tryd.ntmps56
    go_wp2
    all_goals
      go_ret
      refine ⟨?_, (Below.refl _ _).alloc (Nat.le_refl _) _⟩
      have hs := sing_of HE.out
      simp only [beq_iff_eq, beq_eq_false_iff_ne, ne_eq, Bool.not_eq_true', Bool.not_eq_false', List.isEmpty_iff, List.isEmpty_eq_false_iff] at *
      rw [hs]
      first
        | (rw [if_pos (by first | (left; exact ⟨by assumption, by assumption, by omega⟩) | (right; left; exact ⟨by assumption, by omega, by omega⟩) | (right; right; exact ⟨by assumption, by omega, by assumption⟩))]; first | (rw [if_pos (by omega)]; rfl) | (rw [if_neg (by omega)]; rfl))
        | (rw [if_neg (by rintro (⟨_, h2, h3⟩ | ⟨_, h2, h3⟩ | ⟨_, h2, h3⟩) <;> first | omega | contradiction)]; rfl)
end Go.Proofs.YtancjkaoocgeeaaDoor

namespace Go.Proofs.YtancjkaoocgeeaaDoor
open Go.RowKit
theorem own_valid {k nn : Int} {T : Prop} {n : Nat} (h1 : 1 ≤ k) (h3 : k ≤ 3) : ((k = 1 ∧ T ∧ n = 0) ∨ (k = 2 ∧ nn = 0 ∧ n = 0) ∨ (k = 3 ∧ nn = 0 ∧ T)) ↔ (nn ≠ 0 → k = 1) ∧ (¬ T → k = 2) ∧ (0 < n → k = 3) := by
  by_cases hT : T <;> by_cases hn : nn = 0 <;> by_cases h0 : 0 < n <;> simp [hT, hn, h0] <;> omega
/-- The fields below j are of their kinds. -/
def OwnR (k : Int) (b1 b2 b3 : Bool) (j : Nat) : Prop := (1 < j → b1 = true → k = 1) ∧ (2 < j → b2 = true → k = 2) ∧ (3 < j → b3 = true → k = 3)
set_option maxRecDepth 100000 in
set_option maxHeartbeats 1000000 in
theorem own_any (S : Nat → Prop) : ∀ (v : Vl) (w : World), Rd S w v →
    Calls Tryd.prog 42 #[v.val] w fun e w' => e = .returned (.int .i64 (singV v.er)) ∧ Below w.heap.size w w'
  | .mk k nn t a c l, w, h => by
    have ht := (rd_iff.1 h).2.2.1
    change t.size ≤ _ at ht
    have hB := boxed S w _ h
    have hL := hB.rd.vals.2.2.1
    have hBE := Lib.hid hB.below
    change l.length * 56 ≤ _ at hL
    clear hB
    change Calls _ _ #[.agg #[.int .i64 k, .int .i64 nn, .string t, .slice a l.length c]] _ _
    generalize hE : singV (Vl.mk k nn t a c l).er = E
    have HE := Lib.hid hE
    clear hE
    have hs := sing_of HE.out
    by_cases hk1 : k < 1
    · rw [if_neg (by omega)] at hs
      have HS := Lib.hid hs
      clear hs
      go_enter Tryd.func42, Tryd.ntmps42
      go_wp2
      go_ret
      exact ⟨by rw [HS.out]; rfl, ((Below.refl _ _).alloc (Nat.le_refl _) _).alloc (by simp) _⟩
    · by_cases hk3 : 3 < k
      · rw [if_neg (by omega)] at hs
        have HS := Lib.hid hs
        have dk1 : decide (k < 1) = false := by simp; omega
        clear hs
        go_enter Tryd.func42, Tryd.ntmps42
        go_wp2
        go_ret
        exact ⟨by rw [HS.out]; rfl, ((Below.refl _ _).alloc (Nat.le_refl _) _).alloc (by simp) _⟩
      · have hk1' : 1 ≤ k := by omega
        have hk3' : k ≤ 3 := by omega
        have dk1 : decide (k < 1) = false := by simp; omega
        have dk3 : decide (3 < k) = false := by simp; omega
        have HS := Lib.hid hs
        clear hs hk1 hk3
        go_enter Tryd.func42, Tryd.ntmps42
        go_wp2
        generalize hb1 : (nn != 0) = b1
        generalize hb2 : (!t.toList.isEmpty) = b2
        generalize hb3 : decide (0 < l.length) = b3
        have HB1 := Lib.hid hb1
        have HB2 := Lib.hid hb2
        have HB3 := Lib.hid hb3
        clear hb1 hb2 hb3
        have i0 : ∀ W, (Instr.index 76 (.agg #[.bool false, .bool b1, .bool b2, .bool b3]) (.int .i64 0)).run Tryd.prog W = .ok (.bool false) W := fun _ => by kernel_rfl
        have i1 : ∀ W, (Instr.index 76 (.agg #[.bool false, .bool b1, .bool b2, .bool b3]) (.int .i64 1)).run Tryd.prog W = .ok (.bool b1) W := fun _ => by kernel_rfl
        have i2 : ∀ W, (Instr.index 76 (.agg #[.bool false, .bool b1, .bool b2, .bool b3]) (.int .i64 2)).run Tryd.prog W = .ok (.bool b2) W := fun _ => by kernel_rfl
        have i3 : ∀ W, (Instr.index 76 (.agg #[.bool false, .bool b1, .bool b2, .bool b3]) (.int .i64 3)).run Tryd.prog W = .ok (.bool b3) W := fun _ => by kernel_rfl
        have hfin : Hid ((b1 = true → k = 1) → (b2 = true → k = 2) → (b3 = true → k = 3) → E = if 1048576 < t.size ∨ 4096 < l.length then 4 else 0) := fun h1 h2 h3 => by
          rw [HS.out, if_pos]
          rw [← HB1.out] at h1
          rw [← HB2.out] at h2
          rw [← HB3.out] at h3
          simp only [bne_iff_ne, Bool.not_eq_true', List.isEmpty_eq_false_iff, decide_eq_true_eq] at h1 h2 h3
          exact (own_valid hk1' hk3').2 ⟨h1, h2, h3⟩
        have hbad : Hid ((b1 = true ∧ k ≠ 1) ∨ (b2 = true ∧ k ≠ 2) ∨ (b3 = true ∧ k ≠ 3) → E = 8) := fun h => by
          rw [HS.out, if_neg]
          rw [← HB1.out, ← HB2.out, ← HB3.out] at h
          simp only [bne_iff_ne, Bool.not_eq_true', List.isEmpty_eq_false_iff, decide_eq_true_eq] at h
          intro hv
          obtain ⟨g1, g2, g3⟩ := (own_valid hk1' hk3').1 hv
          rcases h with ⟨a1, a2⟩ | ⟨a1, a2⟩ | ⟨a1, a2⟩
          · exact a2 (g1 a1)
          · exact a2 (g2 a1)
          · exact a2 (g3 a1)
        go_loopw [26] (fun i wr => ∃ (j : Nat), i = .int .i64 j ∧ j ≤ 4 ∧ OwnR k b1 b2 b3 j ∧ wr = (w.alloc (.cells #[.int .i64 k, .int .i64 nn, .string t, .slice a l.length c] 24)).alloc (.cells #[.bool false, .bool b1, .bool b2, .bool b3] 76)) (fun i _ => 4 - (intOf i).toNat)
        case atStart => exact ⟨0, rfl, by omega, ⟨fun h => by omega, fun h => by omega, fun h => by omega⟩, rfl⟩
        case round =>
          obtain ⟨j, rfl, hj, hx, rfl⟩ := hrel
          rcases (show j = 0 ∨ j = 1 ∨ j = 2 ∨ j = 3 ∨ j = 4 by omega) with rfl | rfl | rfl | rfl | rfl
          · have hn : OwnR k b1 b2 b3 1 := ⟨fun h => by omega, fun h => by omega, fun h => by omega⟩
            go_wp2
            go_roundw
            case rel => exact ⟨1, rfl, by omega, hn, trivial⟩
            case measure => simp [intOf]
          · cases b1 with
            | false =>
              have hn : OwnR k false b2 b3 2 := ⟨(fun _ h => by cases h), fun h => by omega, fun h => by omega⟩
              go_wp2
              go_roundw
              case rel => exact ⟨2, rfl, by omega, hn, trivial⟩
              case measure => simp [intOf]
            | true =>
              by_cases e : k = 1
              · have hn : OwnR k true b2 b3 2 := ⟨fun _ _ => e, fun h => by omega, fun h => by omega⟩
                have dn : ((1 : Int) != k) = false := by simp [e]
                clear e
                go_wp2
                go_roundw
                case rel => exact ⟨2, rfl, by omega, hn, trivial⟩
                case measure => simp [intOf]
              · have dn : ((1 : Int) != k) = true := by simp; omega
                have HX : Hid (E = 8) := hbad.out (.inl ⟨rfl, e⟩)
                clear e
                go_wp2
                go_ret
                exact ⟨by rw [HX.out]; rfl, ((Below.refl _ _).alloc (Nat.le_refl _) _).alloc (by simp) _⟩
          · have h1 := hx.1 (by omega)
            have H1 := Lib.hid h1
            clear h1
            cases b2 with
            | false =>
              have hn : OwnR k b1 false b3 3 := ⟨fun _ => H1.out, (fun _ h => by cases h), fun h => by omega⟩
              go_wp2
              go_roundw
              case rel => exact ⟨3, rfl, by omega, hn, trivial⟩
              case measure => simp [intOf]
            | true =>
              by_cases e : k = 2
              · have hn : OwnR k b1 true b3 3 := ⟨fun _ => H1.out, fun _ _ => e, fun h => by omega⟩
                have dn : ((2 : Int) != k) = false := by simp [e]
                clear e
                go_wp2
                go_roundw
                case rel => exact ⟨3, rfl, by omega, hn, trivial⟩
                case measure => simp [intOf]
              · have dn : ((2 : Int) != k) = true := by simp; omega
                have HX : Hid (E = 8) := hbad.out (.inr (.inl ⟨rfl, e⟩))
                clear e
                go_wp2
                go_ret
                exact ⟨by rw [HX.out]; rfl, ((Below.refl _ _).alloc (Nat.le_refl _) _).alloc (by simp) _⟩
          · have h1 := hx.1 (by omega)
            have h2 := hx.2.1 (by omega)
            have H1 := Lib.hid h1
            have H2 := Lib.hid h2
            clear h1 h2
            cases b3 with
            | false =>
              have hn : OwnR k b1 b2 false 4 := ⟨fun _ => H1.out, fun _ => H2.out, (fun _ h => by cases h)⟩
              go_wp2
              go_roundw
              case rel => exact ⟨4, rfl, by omega, hn, trivial⟩
              case measure => simp [intOf]
            | true =>
              by_cases e : k = 3
              · have hn : OwnR k b1 b2 true 4 := ⟨fun _ => H1.out, fun _ => H2.out, fun _ _ => e⟩
                have dn : ((3 : Int) != k) = false := by simp [e]
                clear e
                go_wp2
                go_roundw
                case rel => exact ⟨4, rfl, by omega, hn, trivial⟩
                case measure => simp [intOf]
              · have dn : ((3 : Int) != k) = true := by simp; omega
                have HX : Hid (E = 8) := hbad.out (.inr (.inr ⟨rfl, e⟩))
                clear e
                go_wp2
                go_ret
                exact ⟨by rw [HX.out]; rfl, ((Below.refl _ _).alloc (Nat.le_refl _) _).alloc (by simp) _⟩
          · have HX : Hid (E = if 1048576 < t.size ∨ 4096 < l.length then 4 else 0) := hfin.out (hx.1 (by omega)) (hx.2.1 (by omega)) (hx.2.2 (by omega))
            go_wp2
            all_goals
              go_ret
              exact ⟨by rw [HX.out]; first | (rw [if_pos (by omega)]; rfl) | (rw [if_neg (by omega)]; rfl), ((Below.refl _ _).alloc (Nat.le_refl _) _).alloc (by simp) _⟩
end Go.Proofs.YtancjkaoocgeeaaDoor
