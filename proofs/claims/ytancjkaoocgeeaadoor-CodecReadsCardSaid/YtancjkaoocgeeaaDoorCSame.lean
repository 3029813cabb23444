/- Same: of the program, and of the reference. -/
import Derived.Test.YtancjkaoocgeeaaDoorCRefA
namespace Go.Proofs.YtancjkaoocgeeaaDoor
open Go.RowKit

mutual
/-- Whether two values are equal. -/
def sameV : V → V → Bool | .mk k n t l, .mk k' n' t' l' => decide (k = k') && (decide (n = n') && (decide (t = t') && sameL l l'))
def sameL : List V → List V → Bool | [], [] => true | u :: r, u' :: r' => sameV u u' && sameL r r' | [], _ :: _ => false | _ :: _, [] => false
end
theorem sameV_iff (a : V) : ∀ b, sameV a b = true ↔ a = b := by
  induction a using V.ind with
  | h a ih =>
    intro b
    obtain ⟨k, n, t, l⟩ := a
    obtain ⟨k', n', t', l'⟩ := b
    change ∀ u ∈ l, _ at ih
    have key : ∀ (l l' : List V), (∀ u ∈ l, ∀ b, sameV u b = true ↔ u = b) → (sameL l l' = true ↔ l = l') := by
      intro l
      induction l with
      | nil => intro l' _; cases l' <;> simp [sameL]
      | cons u r ihr =>
        intro l' h
        cases l' with
        | nil => simp [sameL]
        | cons u' r' =>
          rw [sameL, Bool.and_eq_true, h u (by simp), ihr r' (fun y hy => h y (by simp [hy]))]
          simp
    rw [sameV]
    simp only [Bool.and_eq_true, decide_eq_true_eq, key l l' ih, V.mk.injEq]
theorem sameL_take {l m : List Vl} {j : Nat} {u v : Vl} (hu : l[j]? = some u) (hv : m[j]? = some v) : sameL ((l.map Vl.er).drop j) ((m.map Vl.er).drop j) = (sameV u.er v.er && sameL ((l.map Vl.er).drop (j + 1)) ((m.map Vl.er).drop (j + 1))) := by
  have key : ∀ {l : List Vl} {u : Vl}, l[j]? = some u → (l.map Vl.er).drop j = u.er :: (l.map Vl.er).drop (j + 1) := fun {l u} hu => by
    obtain ⟨h1, e1⟩ := List.getElem?_eq_some_iff.1 hu
    have := List.drop_eq_getElem_cons (l := l.map Vl.er) (i := j) (by simpa using h1)
    rw [this]; simp [e1]
  rw [key hu, key hv, sameL]
theorem sameL_end {l m : List Vl} {j : Nat} (h1 : l.length ≤ j) (h2 : m.length ≤ j) : sameL ((l.map Vl.er).drop j) ((m.map Vl.er).drop j) = true := by
  rw [List.drop_of_length_le (by simpa using h1), List.drop_of_length_le (by simpa using h2)]; rfl
theorem sameL_len {l m : List V} (h : l.length ≠ m.length) : sameL l m = false := by
  cases hs : sameL l m with
  | false => rfl
  | true =>
    exfalso
    have key : ∀ (l m : List V), sameL l m = true → l.length = m.length := by
      intro l
      induction l with
      | nil => intro m h; cases m with | nil => rfl | cons _ _ => simp [sameL] at h
      | cons u r ih => intro m h; cases m with | nil => simp [sameL] at h | cons u' r' => rw [sameL, Bool.and_eq_true] at h; simp [ih r' h.2]
    exact h (key l m hs)
set_option maxRecDepth 100000 in
set_option maxHeartbeats 2000000 in
theorem equalFunc_of (S S' : Nat → Prop) (a b : Option Addr) (c d : Nat) (l m : List Vl) (w : World) (h : Vals S w a l.length c l) (h' : Vals S' w b m.length d m)
    (ih : ∀ u ∈ l, ∀ (v : Vl) (W : World), Rd S W u → Rd S' W v → Calls Tryd.prog 18 #[u.val, v.val] W fun e W' => e = .returned (.bool (sameV u.er v.er)) ∧ Below W.heap.size W W') :
    Calls Tryd.prog 45 #[.slice a l.length c, .slice b m.length d, .func (.func 18) #[] #[]] w fun e w' => e = .returned (.bool (sameL (l.map Vl.er) (m.map Vl.er))) ∧ Below w.heap.size w w' := by
  have IH := Lib.hid ih
  clear ih
  have hL := h.2.2.1
  have hL' := h'.2.2.1
  by_cases hlen : l.length = m.length
  · have hd : ((l.length : Int) != m.length) = false := by simp [hlen]
    have HLEN := Lib.hid hlen
    have hE0 : Hid (sameL (l.map Vl.er) (m.map Vl.er) = sameL ((l.map Vl.er).drop 0) ((m.map Vl.er).drop 0)) := rfl
    generalize hM : m.length = ML at *
    have HM := Lib.hid hM
    generalize hN : l.length = NL at *
    have HN := Lib.hid hN
    clear hM hN hlen
    generalize sameL (l.map Vl.er) (m.map Vl.er) = R at *
    go_enter Tryd.func45, Tryd.ntmps45
    go_wp2
    go_loopw [17] (fun i wr => ∃ (j : Nat), i = .int .i64 j ∧ j ≤ NL ∧ Hid (R = sameL ((l.map Vl.er).drop j) ((m.map Vl.er).drop j)) ∧ Below w.heap.size w wr) (fun i _ => NL - (intOf i).toNat)
    case atStart => exact ⟨0, rfl, Nat.zero_le _, hE0.out, Below.refl _ _⟩
    case round =>
      obtain ⟨j, rfl, hj, hx, hb⟩ := hrel
      by_cases hlj : j < NL
      · obtain ⟨u, bb, off, hu, hmem, rfl, -, hbl, ⟨c1, c2, c3, c4⟩, hru⟩ := (h.below hb).get hlj
        obtain ⟨v, bb', off', hv, -, rfl, -, hbl', ⟨d1, d2, d3, d4⟩, hrv⟩ := (h'.below hb).get (j := j) (by have := HLEN.out; omega)
        have hlj' : j < ML := by have := HLEN.out; omega
        have hst := sameL_take hu hv
        rw [← hx.out] at hst
        have hb1 : Below wr.heap.size wr (wr.alloc (.cells u.cells 24)) := (Below.refl _ _).alloc (Nat.le_refl _) _
        have hb2 : Below wr.heap.size wr ((wr.alloc (.cells u.cells 24)).alloc (.cells v.cells 24)) := hb1.alloc hb1.size _
        have F := IH.out u hmem v ((wr.alloc (.cells u.cells 24)).alloc (.cells v.cells 24)) (hru.below hb2) (hrv.below hb2)
        have e1 := cell_later hb1 d1
        have e2 := cell_later hb1 d2
        have e3 := cell_later hb1 d3
        have e4 := cell_later hb1 d4
        generalize hG : sameV u.er v.er = G at *
        clear hG
        have HST := Lib.hid hst
        obtain ⟨uk, un, ut, ua, uc, ul⟩ := u
        obtain ⟨vk, vn, vt, va, vc, vl⟩ := v
        dsimp only [Vl.val, Vl.cells, Vl.kind, Vl.num, Vl.text, Vl.sl, Vl.addr, Vl.items, Vl.cap] at c1 c2 c3 c4 d1 d2 d3 d4 e1 e2 e3 e4 F hb2
        have HF := Lib.hid F
        clear F hst hx hru hrv hu hv hmem hb1
        cases G with
        | true =>
          have HST2 : Hid (R = sameL ((l.map Vl.er).drop (j + 1)) ((m.map Vl.er).drop (j + 1))) := by show _ = _; rw [HST.out]; rfl
          clear HST
          go_wp2_with (go_at_call 18; refine HF.out.mono ?_; rintro e w' ⟨rfl, hb'⟩)
          go_roundw
          case rel => exact ⟨j + 1, by go_num, by omega, HST2.out, hb.trans ((hb2.trans (hb'.mono hb2.size)).mono hb.size)⟩
          case measure => simp [intOf]; omega
        | false =>
          have HST2 : Hid (R = false) := by show _ = _; rw [HST.out]; rfl
          clear HST
          go_wp2_with (go_at_call 18; refine HF.out.mono ?_; rintro e w' ⟨rfl, hb'⟩)
          go_ret
          exact ⟨by rw [HST2.out]; rfl, hb.trans ((hb2.trans (hb'.mono hb2.size)).mono hb.size)⟩
      · obtain rfl : j = NL := by omega
        have HST2 : Hid (R = true) := by show _ = _; rw [hx.out]; exact sameL_end (by rw [HN.out]; exact Nat.le_refl _) (by rw [HM.out, HLEN.out]; exact Nat.le_refl _)
        go_wp2
        go_ret
        exact ⟨by rw [HST2.out]; rfl, hb⟩
  · have hd : ((l.length : Int) != m.length) = true := by simp; omega
    have HX : Hid (sameL (l.map Vl.er) (m.map Vl.er) = false) := sameL_len (by simpa using hlen)
    go_enter Tryd.func45, Tryd.ntmps45
    go_wp2
    go_ret
    exact ⟨by rw [HX.out]; rfl, Below.refl _ _⟩
end Go.Proofs.YtancjkaoocgeeaaDoor

namespace Go.Proofs.YtancjkaoocgeeaaDoor
open Go.RowKit
set_option maxRecDepth 100000 in
set_option maxHeartbeats 2000000 in
theorem same_any (S S' : Nat → Prop) (a : Vl) : ∀ (b : Vl) (w : World), Rd S w a → Rd S' w b →
    Calls Tryd.prog 18 #[a.val, b.val] w fun e w' => e = .returned (.bool (sameV a.er b.er)) ∧ Below w.heap.size w w' := by
  induction a using Vl.ind with
  | h a ih =>
    intro b w ha hb
    obtain ⟨k, nn, t, a, c, l⟩ := a
    obtain ⟨k', nn', t', a', c', l'⟩ := b
    change ∀ u ∈ l, _ at ih
    have hb1 : Below w.heap.size w (w.alloc (.cells #[.int .i64 k, .int .i64 nn, .string t, .slice a l.length c] 24)) := (Below.refl _ _).alloc (Nat.le_refl _) _
    have hb2 : Below w.heap.size w ((w.alloc (.cells #[.int .i64 k, .int .i64 nn, .string t, .slice a l.length c] 24)).alloc (.cells #[.int .i64 k', .int .i64 nn', .string t', .slice a' l'.length c'] 24)) := hb1.alloc hb1.size _
    have F := equalFunc_of S S' a a' c c' l l' _ ((ha.below hb2).vals) ((hb.below hb2).vals) ih
    have hE : Hid (sameV (Vl.mk k nn t a c l).er (Vl.mk k' nn' t' a' c' l').er = (decide (k = k') && (decide (nn = nn') && (decide (t = t') && sameL (l.map Vl.er) (l'.map Vl.er))))) := by
      show _ = _; rw [Vl.er, Vl.er, sameV, Vl.erL_map, Vl.erL_map]
    change Calls _ _ #[.agg #[.int .i64 k, .int .i64 nn, .string t, .slice a l.length c], .agg #[.int .i64 k', .int .i64 nn', .string t', .slice a' l'.length c']] _ _
    generalize sameV (Vl.mk k nn t a c l).er (Vl.mk k' nn' t' a' c' l').er = R at *
    generalize sameL (l.map Vl.er) (l'.map Vl.er) = Q at *
    have HF := Lib.hid F
    clear F ih ha hb hb1
    by_cases h1 : k = k'
    · subst h1
      have d1 : ((k : Int) == k) = true := by simp
      by_cases h2 : nn = nn'
      · subst h2
        have d2 : ((nn : Int) == nn) = true := by simp
        by_cases h3 : t = t'
        · subst h3
          have HX : Hid (R = Q) := by show _ = _; rw [hE.out]; simp
          clear hE
          go_enter Tryd.func18, Tryd.ntmps18
          go_wp2_with (go_at_call 45; refine HF.out.mono ?_; rintro e W2 ⟨rfl, hb3⟩)
          go_ret
          exact ⟨by rw [HX.out]; rfl, hb2.trans (hb3.mono hb2.size)⟩
        · have HX : Hid (R = false) := by show _ = _; rw [hE.out]; simp [h3]
          clear hE HF
          have d3 : (t.toList == t'.toList) = false := by
            rw [beq_eq_false_iff_ne, ByteArray.toList_eq, ByteArray.toList_eq]
            intro h; apply h3; cases t; cases t'; simp at h; rw [ByteArray.mk.injEq]; exact h
          go_enter Tryd.func18, Tryd.ntmps18
          go_wp2
          go_ret
          exact ⟨by rw [HX.out]; rfl, hb2⟩
      · have HX : Hid (R = false) := by show _ = _; rw [hE.out]; simp [h2]
        have d2 : ((nn : Int) == nn') = false := by simp [h2]
        clear hE HF
        go_enter Tryd.func18, Tryd.ntmps18
        go_wp2
        go_ret
        exact ⟨by rw [HX.out]; rfl, hb2⟩
    · have HX : Hid (R = false) := by show _ = _; rw [hE.out]; simp [h1]
      have d1 : ((k : Int) == k') = false := by simp [h1]
      clear hE HF
      go_enter Tryd.func18, Tryd.ntmps18
      go_wp2
      go_ret
      exact ⟨by rw [HX.out]; rfl, hb2⟩
end Go.Proofs.YtancjkaoocgeeaaDoor
