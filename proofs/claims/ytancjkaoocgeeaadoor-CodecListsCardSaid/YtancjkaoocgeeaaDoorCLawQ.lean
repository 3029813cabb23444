/- Plain: how long encodings are; lists. No program. -/
import Derived.Test.YtancjkaoocgeeaaDoorCLawP
import Derived.Test.YtancjkaoocgeeaaDoorCGreat
import Derived.Test.YtancjkaoocgeeaaDoorCFine
namespace Go.Proofs.YtancjkaoocgeeaaDoor

def cstep (n : Nat) (s : Int) (u : V) : Int := if s ≤ 60 then s + cntV 60 n u else s
theorem cntV_succ (n : Nat) (v : V) : cntV 60 (n + 1) v = v.items.foldl (cstep n) 1 := rfl
theorem cfold_le {n : Nat} (hp : ∀ u, 1 ≤ cntV 60 n u) : ∀ (l : List V) (s : Int), s ≤ l.foldl (cstep n) s
  | [], s => Int.le_refl _
  | u :: l, s => by
    rw [List.foldl_cons]
    have h1 := cfold_le hp l (cstep n s u)
    have h2 := hp u
    have : s ≤ cstep n s u := by unfold cstep; split <;> omega
    omega
theorem cntV_pos : ∀ (n : Nat) (v : V), 1 ≤ cntV 60 n v
  | 0, v => by rw [cntV]; omega
  | n + 1, v => by rw [cntV_succ]; exact cfold_le (cntV_pos n) _ _
theorem enc_len : ∀ (n : Nat) (v : V), longV n v = false → cntV 60 n v ≤ 60 → allV v = 0 → NumOk v → ((encV v).length : Int) ≤ 64 * cntV 60 n v
  | 0, v, _, h, _, _ => by rw [cntV] at h; omega
  | n + 1, v, hl, hc, ha, hn => by
    obtain ⟨hs, hi⟩ := allV_items ha
    have hok := singV_ok hs
    rw [longV, Bool.or_eq_false_iff, decide_eq_false_iff_not] at hl
    obtain ⟨ht, hl⟩ := hl
    have h1 := cntV_pos (n + 1) v
    by_cases hk : v.kind = 1 ∨ v.kind = 2
    · rw [encV_leaf hk]
      have hnum := hn.num
      have : (leafV v).length ≤ 64 := by
        unfold leafV
        split
        · have := Lib.itoa_length_le v.num hnum.1 hnum.2
          simp; omega
        · have := Lib.itoa_length_le v.text.size (by omega) (by omega)
          have ht' : v.text.data.toList.length = v.text.size := by simp
          simp at ht' ⊢; omega
      omega
    · rw [encV_list hk]
      rw [cntV_succ] at hc ⊢
      have key : ∀ (l : List V) (s : Int), (∀ u ∈ l, u ∈ v.items) → 1 ≤ s → l.foldl (cstep n) s ≤ 60 → ((encL l).length : Int) ≤ 64 * (l.foldl (cstep n) s - s) := by
        intro l
        induction l with
        | nil => intro s _ _ _; rw [encL]; simp
        | cons u l ih =>
          intro s hm h0 hf
          rw [List.foldl_cons] at hf ⊢
          have h2 := cfold_le (cntV_pos n) l (cstep n s u)
          have hp := cntV_pos n u
          have hse : cstep n s u = s + cntV 60 n u := by
            unfold cstep at h2 hf ⊢
            split
            · rfl
            · rename_i hx
              rw [if_neg hx] at h2 hf
              omega
          rw [hse] at h2 hf ⊢
          have hu := hm u (by simp)
          have e1 := enc_len n u (by
            cases hb : longV n u with
            | false => rfl
            | true => rw [List.any_eq_false] at hl; exact absurd hb (by simpa using hl u hu)) (by omega) (hi u hu) (hn.items u hu)
          have e2 := ih (s + cntV 60 n u) (fun x hx => hm x (by simp [hx])) (by omega) hf
          rw [encL, List.length_append]
          omega
      have := key v.items 1 (fun u hu => hu) (by omega) hc
      rw [List.length_cons, List.length_append, List.length_singleton]
      omega
theorem great_parts {v : V} (hg : greatV v = false) (hi : v.items.length ≤ 4096) : cntV 60 70 v ≤ 60 ∧ longV 70 v = false := by
  rw [greatV, if_pos (.inl hi), Bool.or_eq_false_iff, decide_eq_false_iff_not] at hg
  exact ⟨by omega, hg.2⟩
theorem fine_spec {v : V} (h : badV v = false) (hn : NumOk v) : chkV v = 0 ∧ (encV v).length ≤ 3840 := by
  rw [badV, Bool.or_eq_false_iff, decide_eq_false_iff_not] at h
  have hc : chkV v = 0 := by simpa using h.2
  have ha := chkV_all hc
  obtain ⟨h1, h2⟩ := great_parts h.1 (singV_ok (allV_items ha).1).2.2.1
  have := enc_len 70 v h2 h1 ha hn
  exact ⟨hc, by omega⟩
theorem encB_fine {v : V} (hc : chkV v = 0) (hl : (encV v).length ≤ 1048576) : encB v = encV v ∧ encE v = 0 := by
  rw [encB, encE, if_pos ⟨hc, hl⟩, if_neg (by simpa using hc), if_neg (by omega)]
  exact ⟨rfl, rfl⟩
def dstep (n : Nat) (s : Option Nat) (u : V) : Option Nat := s.bind fun size => (cntD n u).bind fun k => some (size + k)
theorem cntD_succ (n : Nat) (v : V) : cntD (n + 1) v = if v.kind = 3 then v.items.foldl (dstep n) (some 1) else some 1 := rfl
theorem dstep_none (n : Nat) : ∀ l : List V, l.foldl (dstep n) none = none
  | [] => rfl
  | _ :: l => dstep_none n l
theorem cntD_mono : ∀ (n : Nat) (v : V) (k : Nat), cntD n v = some k → cntD (n + 1) v = some k
  | 0, _, _, h => by cases h
  | n + 1, v, k, h => by
    rw [cntD_succ] at h ⊢
    split
    · rename_i hk
      rw [if_pos hk] at h
      have key : ∀ (l : List V) (s : Nat), l.foldl (dstep n) (some s) = some k → l.foldl (dstep (n + 1)) (some s) = some k := by
        intro l
        induction l with
        | nil => intro s h; exact h
        | cons u l ih =>
          intro s h
          rw [List.foldl_cons] at h ⊢
          cases hu : cntD n u with
          | none =>
            have : dstep n (some s) u = none := by unfold dstep; rw [hu]; rfl
            rw [this, dstep_none] at h; cases h
          | some c =>
            have e1 : dstep n (some s) u = some (s + c) := by unfold dstep; rw [hu]; rfl
            have e2 : dstep (n + 1) (some s) u = some (s + c) := by unfold dstep; rw [cntD_mono n u c hu]; rfl
            rw [e1] at h
            rw [e2]
            exact ih _ h
      exact key _ _ h
    · rename_i hk
      rw [if_neg hk] at h; exact h
theorem sizV_of {v : V} {k : Nat} (hc : chkV v = 0) (hk : cntD 64 v = some k) : sizV v = k := by
  obtain ⟨y, hy, e⟩ := chkV_meas hc
  rw [e]
  rw [measR_eq, hk] at hy
  simp only at hy
  split at hy
  · cases hy; rfl
  · cases hy
/-- A list of values. -/
abbrev lstV (l : List V) : V := .mk 3 0 ⟨#[]⟩ l
theorem lists_sum {l : List V} (hf : ∀ u ∈ l, chkV u = 0) : ∀ (s k : Nat), l.foldl (dstep 63) (some s) = some k → (k : Int) = s + (l.map sizV).sum := by
  induction l with
  | nil => intro s k h; cases h; simp
  | cons u l ih =>
    intro s k h
    rw [List.foldl_cons] at h
    cases hu : cntD 63 u with
    | none =>
      have : dstep 63 (some s) u = none := by unfold dstep; rw [hu]; rfl
      rw [this, dstep_none] at h; cases h
    | some c =>
      have e1 : dstep 63 (some s) u = some (s + c) := by unfold dstep; rw [hu]; rfl
      rw [e1] at h
      have h1 := ih (fun x hx => hf x (by simp [hx])) _ _ h
      have h2 := sizV_of (hf u (by simp)) (cntD_mono 63 u c hu)
      rw [List.map_cons, List.sum_cons, h2, h1]
      omega
theorem encL_flat : ∀ l : List V, encL l = l.flatMap encV
  | [] => rfl
  | v :: r => by rw [encL, encL_flat r]; rfl
theorem lists_law {l : List V} (h6 : l.length ≤ 6) (hf : ∀ u ∈ l, badV u = false) (hn : ∀ u ∈ l, NumOk u) :
    (encE (lstV l) = 4 ∧ encB (lstV l) = [] ∧ sizV (lstV l) = 0 ∧ chkV (lstV l) = 4) ∨
    (encE (lstV l) = 0 ∧ encB (lstV l) = 108 :: (l.flatMap encB ++ [101]) ∧ sizV (lstV l) = 1 + (l.map sizV).sum ∧ chkV (lstV l) = 0) := by
  have hs : singV (lstV l) = 0 := by
    unfold singV
    rw [if_pos (.inr (.inr ⟨rfl, rfl, rfl⟩)), if_neg (by simp [V.text, V.items, ByteArray.size]; omega)]
  have ha : allV (lstV l) = 0 := by
    rw [allV_eq, if_neg (by simpa using hs)]
    show firstE (l.map allV) = 0
    clear h6 hs
    induction l with
    | nil => rfl
    | cons u l ih =>
      rw [List.map_cons, firstE, chkV_all (fine_spec (hf u (by simp)) (hn u (by simp))).1, if_neg (by simp)]
      exact ih (fun x hx => hf x (by simp [hx])) (fun x hx => hn x (by simp [hx]))
  by_cases hm : measR 64 65536 (lstV l) = none
  · left
    have hc : chkV (lstV l) = 4 := by rw [chkV, if_pos hm]
    exact ⟨by rw [encE, if_pos (by rw [hc]; decide), hc], by rw [encB, if_neg (by rw [hc]; intro e; exact absurd e.1 (by decide))], by rw [sizV, if_neg (by rw [hc]; decide)], hc⟩
  · right
    have hc : chkV (lstV l) = 0 := by rw [chkV, if_neg hm, ha]
    have hl : (encL l).length ≤ 3840 * l.length := by
      clear hm hc ha hs h6
      induction l with
      | nil => rw [encL]; simp
      | cons u l ih =>
        have h1 := (fine_spec (hf u (by simp)) (hn u (by simp))).2
        have h2 := ih (fun x hx => hf x (by simp [hx])) (fun x hx => hn x (by simp [hx]))
        rw [encL, List.length_append, List.length_cons]; omega
    have he : encV (lstV l) = 108 :: (encL l ++ [101]) := encV_list (by simp [V.kind])
    obtain ⟨e1, e2⟩ := encB_fine hc (by rw [he, List.length_cons, List.length_append, List.length_singleton]; omega)
    have e3 : l.flatMap encB = encL l := by
      rw [encL_flat]
      clear hm hc ha hs h6 hl he e1 e2
      induction l with
      | nil => rfl
      | cons u l ih =>
        have h1 := fine_spec (hf u (by simp)) (hn u (by simp))
        rw [List.flatMap_cons, List.flatMap_cons, ih (fun x hx => hf x (by simp [hx])) (fun x hx => hn x (by simp [hx])), (encB_fine h1.1 (by omega)).1]
    refine ⟨e2, by rw [e1, he, e3], ?_, hc⟩
    cases hk : cntD 64 (lstV l) with
    | none => rw [measR_eq, hk] at hm; exact absurd rfl hm
    | some k =>
      rw [sizV_of hc hk]
      rw [cntD_succ, if_pos (show (lstV l).kind = 3 from rfl)] at hk
      have := lists_sum (fun u hu => (fine_spec (hf u hu) (hn u hu)).1) 1 k hk
      simpa using this
end Go.Proofs.YtancjkaoocgeeaaDoor
