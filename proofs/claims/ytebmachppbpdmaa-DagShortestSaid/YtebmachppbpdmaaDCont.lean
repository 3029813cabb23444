/- The function literals of DagShortest, and slices.ContainsFunc over paths with these. (Printed by gen_cont.py) -/
import Derived.Test.YtebmachppbpdmaaDPaths
import Derived.Test.YtebmachppbpdmaaDCmp
import Derived.Test.YtebmachppbpdmaaDCost
import Derived.Test.YtebmachppbpdmaaEqA
namespace Go.Proofs.Ytebmachppbpdmaa
open Go.RowKit

/-- The first literal: whether the path is this one. -/
theorem lit_eq (bp : Nat) (a ap : Option Addr) (n c np cp : Nat) (q p : List Int) (w : World) (hq : Ints w a n c q) (hp : Ints w ap np cp p) (hc : w.cell? ⟨bp, 0, none⟩ = some (.slice ap np cp)) :
    Calls Try.prog 32 #[.slice a n c, .pointer (some ⟨bp, 0, none⟩)] w fun e w' => e = .returned (.bool (decide (p = q))) ∧ Drew w w' := by
  have F := Lib.hid (equal_any ap a np cp n c p q w hp hq)
  go_enter Try.func32, Try.ntmps32
  go_wp2_with (go_at_call 23; refine F.out.mono ?_; rintro e w' ⟨rfl, hd⟩)
  go_ret
  first | exact ⟨rfl, hd⟩ | (subst hd; exact ⟨rfl, Drew.refl _⟩)

/-- The second one: whether this path is better. -/
def betterB (ll : List Lk) (c : Int) (p q : List Int) : Bool := decide (costP ll q < c) || (decide (costP ll q = c) && decide (cmpL q p < 0))
set_option maxHeartbeats 1000000 in
theorem lit_better (k bl bc bp : Nat) (a al ap : Option Addr) (n c m cap np cp : Nat) (ll : List Lk) (C : Int) (q p : List Int) (w : World) (h : Links w al m cap ll) (hq : Ints w a n c q) (hp : Ints w ap np cp p) (hv : Valid k ll) (hn : n ≤ 1000) (hin : ∀ x ∈ q, 0 ≤ x ∧ x < ll.length)
    (hcl : w.cell? ⟨bl, 0, none⟩ = some (.slice al m cap)) (hcc : w.cell? ⟨bc, 0, none⟩ = some (.int .i64 C)) (hcp : w.cell? ⟨bp, 0, none⟩ = some (.slice ap np cp)) :
    Calls Try.prog 34 #[.slice a n c, .pointer (some ⟨bl, 0, none⟩), .pointer (some ⟨bc, 0, none⟩), .pointer (some ⟨bp, 0, none⟩)] w fun e w' => e = .returned (.bool (betterB ll C p q)) ∧ Drew w w' := by
  have F := Lib.hid (cost_any k al a m cap n c ll q w h hq hv hn hin)
  have G : Hid (∀ w', Drew w w' → Calls Try.prog 35 #[.slice a n c, .slice ap np cp] w' fun e w'' => e = .returned (.int .i64 (cmpL q p)) ∧ w'' = w') := fun w' hd => compare_any a ap n c np cp q p w' (hq.drews hd) (hp.drews hd)
  have E : Hid (betterB ll C p q = (decide (costP ll q < C) || (decide (costP ll q = C) && decide (cmpL q p < 0)))) := rfl
  generalize betterB ll C p q = R at *
  clear hin
  generalize costP ll q = D at *
  generalize cmpL q p = K at *
  rcases Int.lt_trichotomy D C with e | e | e
  · have ER : Hid (R = true) := by show _ = _; rw [E.out]; simp [e]
    clear E
    go_enter Try.func34, Try.ntmps34
    go_wp2_with (go_at_call 33; refine F.out.mono ?_; rintro e w1 ⟨rfl, hd⟩; have c1 := cell_later (hd.below _) hcc; have c2 := cell_later (hd.below _) hcp)
    go_ret
    exact ⟨by rw [ER.out]; rfl, hd⟩
  · subst e
    have d0 : ((D : Int) == D) = true := by simp
    by_cases hK : K < 0
    · have ER : Hid (R = true) := by show _ = _; rw [E.out]; simp [hK]
      clear E
      go_enter Try.func34, Try.ntmps34
      go_wp2_with (first | (go_at_call 33; refine F.out.mono ?_; rintro e w1 ⟨rfl, hd⟩; have c1 := cell_later (hd.below _) hcc; have c2 := cell_later (hd.below _) hcp) | (go_at_call 35; refine (G.out _ hd).mono ?_; rintro e w2 ⟨rfl, rfl⟩))
      go_ret
      exact ⟨by rw [ER.out]; rfl, hd⟩
    · have ER : Hid (R = false) := by show _ = _; rw [E.out]; simp; omega
      have dK : decide (K < 0) = false := by simp; omega
      clear E
      go_enter Try.func34, Try.ntmps34
      go_wp2_with (first | (go_at_call 33; refine F.out.mono ?_; rintro e w1 ⟨rfl, hd⟩; have c1 := cell_later (hd.below _) hcc; have c2 := cell_later (hd.below _) hcp) | (go_at_call 35; refine (G.out _ hd).mono ?_; rintro e w2 ⟨rfl, rfl⟩))
      go_ret
      exact ⟨by rw [ER.out]; rfl, hd⟩
  · have ER : Hid (R = false) := by show _ = _; rw [E.out]; simp; omega
    have d0 : ((D : Int) == C) = false := by simp; omega
    have dK : decide (D < C) = false := by simp; omega
    clear E
    go_enter Try.func34, Try.ntmps34
    go_wp2_with (go_at_call 33; refine F.out.mono ?_; rintro e w1 ⟨rfl, hd⟩; have c1 := cell_later (hd.below _) hcc; have c2 := cell_later (hd.below _) hcp)
    go_ret
    exact ⟨by rw [ER.out]; rfl, hd⟩


set_option maxHeartbeats 400000 in
theorem index_eq (bp : Nat) (pred : List Int → Bool) (a : Option Addr) (n cap : Nat) (ll : List (List Int)) (w : World) (h : Intss w a n cap ll)
    (hp : ∀ w' a' n' c' q, Drew w w' → q ∈ ll → Ints w' a' n' c' q → Calls Try.prog 32 #[.slice a' n' c', .pointer (some ⟨bp, 0, none⟩)] w' fun e w'' => e = .returned (.bool (pred q)) ∧ Drew w' w'') :
    Calls Try.prog 51 #[.slice a n cap, .func (.func 32) #[] #[.pointer (some ⟨bp, 0, none⟩)]] w fun e w' => (∃ r : Int, e = .returned (.int .i64 r) ∧ ((ll.any pred = false ∧ r = -1) ∨ (ll.any pred = true ∧ 0 ≤ r))) ∧ Drew w w' := by
  have H := Lib.hid h.len
  have HP := Lib.hid hp
  have hb := h.bound
  clear hp
  go_enter Try.func51, Try.ntmps51
  go_wp2
  go_loopw [8] (fun k wr => ∃ j : Nat, j ≤ n ∧ k = .int .i64 j ∧ Hid ((ll.take j).any pred = false) ∧ Drew w wr) (fun k _ => n - (intOf k).toNat)
  case atStart => exact ⟨0, Nat.zero_le _, rfl, by show _ = _; simp, Drew.refl _⟩
  case round =>
    obtain ⟨j, hj, rfl, hs, hq⟩ := hrel
    by_cases hlt : j < n
    · obtain ⟨b, off, rfl, -, hcc⟩ := (h.drews hq).at_ (by omega)
      obtain ⟨sa, ns, cs, c1, i1⟩ := hcc.out j hlt
      have hjl : j < ll.length := by rw [← H.out]; exact hlt
      rw [List.getElem?_eq_getElem hjl] at i1
      have i1 : Ints wr sa ns cs ll[j] := i1
      have F := HP.out wr sa ns cs _ hq (List.getElem_mem hjl) i1
      have T : Hid ((ll.take (j + 1)).any pred = pred ll[j]) := by
        show _ = _
        rw [List.take_succ_eq_append_getElem hjl, List.any_append, hs.out]; simp
      have T2 : Hid (pred ll[j] = true → ll.any pred = true) := fun e => List.any_eq_true.2 ⟨_, List.getElem_mem hjl, e⟩
      generalize pred ll[j] = P at *
      have HF := Lib.hid F
      clear F
      generalize ll[j] = qq at *
      cases P with
      | true =>
        have T3 : Hid (ll.any pred = true) := T2.out rfl
        clear T2
        go_wp2_with (go_at_call 32; refine HF.out.mono ?_; rintro e w' ⟨rfl, hd⟩)
        go_ret
        exact ⟨⟨j, rfl, .inr ⟨T3.out, by omega⟩⟩, hq.trans hd⟩
      | false =>
        clear T2
        go_wp2_with (go_at_call 32; refine HF.out.mono ?_; rintro e w' ⟨rfl, hd⟩)
        go_roundw
        case rel => exact ⟨j + 1, by omega, by go_num, T.out, hq.trans hd⟩
        case measure => simp [intOf]; omega
    · obtain rfl : j = n := by omega
      have T : Hid (ll.any pred = false) := by
        have := hs.out
        rw [List.take_of_length_le (by rw [← H.out]; exact Nat.le_refl _)] at this
        exact this
      go_wp2
      go_ret
      exact ⟨⟨-1, rfl, .inl ⟨T.out, rfl⟩⟩, hq⟩
theorem contains_eq (bp : Nat) (pred : List Int → Bool) (a : Option Addr) (n cap : Nat) (ll : List (List Int)) (w : World) (h : Intss w a n cap ll)
    (hp : ∀ w' a' n' c' q, Drew w w' → q ∈ ll → Ints w' a' n' c' q → Calls Try.prog 32 #[.slice a' n' c', .pointer (some ⟨bp, 0, none⟩)] w' fun e w'' => e = .returned (.bool (pred q)) ∧ Drew w' w'') :
    Calls Try.prog 31 #[.slice a n cap, .func (.func 32) #[] #[.pointer (some ⟨bp, 0, none⟩)]] w fun e w' => e = .returned (.bool (ll.any pred)) ∧ Drew w w' := by
  have F := Lib.hid (index_eq bp pred a n cap ll w h hp)
  generalize ll.any pred = B at *
  clear hp
  go_enter Try.func31, Try.ntmps31
  go_wp2_with fail
  refine F.out.mono ?_
  rintro e w' ⟨⟨r, rfl, hr⟩, hd⟩
  rcases hr with ⟨rfl, rfl⟩ | ⟨rfl, hr⟩
  · go_wp2
    go_ret
    exact ⟨rfl, hd⟩
  · have d0 : decide (0 ≤ r) = true := decide_eq_true hr
    go_wp2
    go_ret
    exact ⟨rfl, hd⟩

set_option maxHeartbeats 400000 in
theorem index_better (bl bc bp : Nat) (pred : List Int → Bool) (a : Option Addr) (n cap : Nat) (ll : List (List Int)) (w : World) (h : Intss w a n cap ll)
    (hp : ∀ w' a' n' c' q, Drew w w' → q ∈ ll → Ints w' a' n' c' q → Calls Try.prog 34 #[.slice a' n' c', .pointer (some ⟨bl, 0, none⟩), .pointer (some ⟨bc, 0, none⟩), .pointer (some ⟨bp, 0, none⟩)] w' fun e w'' => e = .returned (.bool (pred q)) ∧ Drew w' w'') :
    Calls Try.prog 51 #[.slice a n cap, .func (.func 34) #[] #[.pointer (some ⟨bl, 0, none⟩), .pointer (some ⟨bc, 0, none⟩), .pointer (some ⟨bp, 0, none⟩)]] w fun e w' => (∃ r : Int, e = .returned (.int .i64 r) ∧ ((ll.any pred = false ∧ r = -1) ∨ (ll.any pred = true ∧ 0 ≤ r))) ∧ Drew w w' := by
  have H := Lib.hid h.len
  have HP := Lib.hid hp
  have hb := h.bound
  clear hp
  go_enter Try.func51, Try.ntmps51
  go_wp2
  go_loopw [8] (fun k wr => ∃ j : Nat, j ≤ n ∧ k = .int .i64 j ∧ Hid ((ll.take j).any pred = false) ∧ Drew w wr) (fun k _ => n - (intOf k).toNat)
  case atStart => exact ⟨0, Nat.zero_le _, rfl, by show _ = _; simp, Drew.refl _⟩
  case round =>
    obtain ⟨j, hj, rfl, hs, hq⟩ := hrel
    by_cases hlt : j < n
    · obtain ⟨b, off, rfl, -, hcc⟩ := (h.drews hq).at_ (by omega)
      obtain ⟨sa, ns, cs, c1, i1⟩ := hcc.out j hlt
      have hjl : j < ll.length := by rw [← H.out]; exact hlt
      rw [List.getElem?_eq_getElem hjl] at i1
      have i1 : Ints wr sa ns cs ll[j] := i1
      have F := HP.out wr sa ns cs _ hq (List.getElem_mem hjl) i1
      have T : Hid ((ll.take (j + 1)).any pred = pred ll[j]) := by
        show _ = _
        rw [List.take_succ_eq_append_getElem hjl, List.any_append, hs.out]; simp
      have T2 : Hid (pred ll[j] = true → ll.any pred = true) := fun e => List.any_eq_true.2 ⟨_, List.getElem_mem hjl, e⟩
      generalize pred ll[j] = P at *
      have HF := Lib.hid F
      clear F
      generalize ll[j] = qq at *
      cases P with
      | true =>
        have T3 : Hid (ll.any pred = true) := T2.out rfl
        clear T2
        go_wp2_with (go_at_call 34; refine HF.out.mono ?_; rintro e w' ⟨rfl, hd⟩)
        go_ret
        exact ⟨⟨j, rfl, .inr ⟨T3.out, by omega⟩⟩, hq.trans hd⟩
      | false =>
        clear T2
        go_wp2_with (go_at_call 34; refine HF.out.mono ?_; rintro e w' ⟨rfl, hd⟩)
        go_roundw
        case rel => exact ⟨j + 1, by omega, by go_num, T.out, hq.trans hd⟩
        case measure => simp [intOf]; omega
    · obtain rfl : j = n := by omega
      have T : Hid (ll.any pred = false) := by
        have := hs.out
        rw [List.take_of_length_le (by rw [← H.out]; exact Nat.le_refl _)] at this
        exact this
      go_wp2
      go_ret
      exact ⟨⟨-1, rfl, .inl ⟨T.out, rfl⟩⟩, hq⟩
theorem contains_better (bl bc bp : Nat) (pred : List Int → Bool) (a : Option Addr) (n cap : Nat) (ll : List (List Int)) (w : World) (h : Intss w a n cap ll)
    (hp : ∀ w' a' n' c' q, Drew w w' → q ∈ ll → Ints w' a' n' c' q → Calls Try.prog 34 #[.slice a' n' c', .pointer (some ⟨bl, 0, none⟩), .pointer (some ⟨bc, 0, none⟩), .pointer (some ⟨bp, 0, none⟩)] w' fun e w'' => e = .returned (.bool (pred q)) ∧ Drew w' w'') :
    Calls Try.prog 31 #[.slice a n cap, .func (.func 34) #[] #[.pointer (some ⟨bl, 0, none⟩), .pointer (some ⟨bc, 0, none⟩), .pointer (some ⟨bp, 0, none⟩)]] w fun e w' => e = .returned (.bool (ll.any pred)) ∧ Drew w w' := by
  have F := Lib.hid (index_better bl bc bp pred a n cap ll w h hp)
  generalize ll.any pred = B at *
  clear hp
  go_enter Try.func31, Try.ntmps31
  go_wp2_with fail
  refine F.out.mono ?_
  rintro e w' ⟨⟨r, rfl, hr⟩, hd⟩
  rcases hr with ⟨rfl, rfl⟩ | ⟨rfl, hr⟩
  · go_wp2
    go_ret
    exact ⟨rfl, hd⟩
  · have d0 : decide (0 ≤ r) = true := decide_eq_true hr
    go_wp2
    go_ret
    exact ⟨rfl, hd⟩
end Go.Proofs.Ytebmachppbpdmaa
