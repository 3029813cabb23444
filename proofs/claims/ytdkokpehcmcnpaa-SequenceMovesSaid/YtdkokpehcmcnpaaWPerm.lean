/- sequence.Permutation and its reference. -/
import Derived.Test.YtdkokpehcmcnpaaPure1
namespace Go.Proofs.Ytdkokpehcmcnpaa
open Go.RowKit

theorem Try.infoBool : (Try.prog.info? 4).map (fun i => (i.zero, i.size, i.bytes)) = some (some (.bool false), 1, 1) := by kernel_rfl

/-- Each number from 0 on stands once among the elements before index k. -/
def PermTo (l : List Int) (k : Nat) : Prop := ∀ j, j < k → 0 ≤ l[j]?.getD 0 ∧ l[j]?.getD 0 < l.length ∧ ∀ i, i < j → l[i]?.getD 0 ≠ l[j]?.getD 0
instance (l : List Int) (k : Nat) : Decidable (PermTo l k) := by unfold PermTo; exact inferInstance
def permB (l : List Int) : Bool := decide (PermTo l l.length)
theorem PermTo.step {l : List Int} {k : Nat} (h : PermTo l k) (h0 : 0 ≤ l[k]?.getD 0) (h1 : l[k]?.getD 0 < l.length) (h2 : ∀ i, i < k → l[i]?.getD 0 ≠ l[k]?.getD 0) : PermTo l (k + 1) := by
  intro j hj
  by_cases e : j = k
  · subst e; exact ⟨h0, h1, h2⟩
  · exact h j (by omega)
theorem PermTo.mono {l : List Int} {k m : Nat} (h : PermTo l m) (hk : k ≤ m) : PermTo l k := fun j hj => h j (by omega)

/-- The table of what has been seen. -/
def Seen (l : List Int) (k : Nat) (bs : List Bool) : Prop := bs.length = l.length ∧ ∀ v : Nat, v < l.length → (bs[v]?.getD false = true ↔ ∃ i, i < k ∧ l[i]?.getD 0 = (v : Int))
theorem seen_start (l : List Int) : Seen l 0 (List.replicate l.length false) := ⟨by simp, fun v hv => by simp [hv]⟩
theorem Seen.step {l : List Int} {k v : Nat} {bs : List Bool} (h : Seen l k bs) (hv : l[k]?.getD 0 = (v : Int)) (hl : v < l.length) : Seen l (k + 1) (bs.set v true) := by
  refine ⟨by simp [h.1], fun u hu => ?_⟩
  by_cases e : u = v
  · subst e
    rw [List.getElem?_set_self (by rw [h.1]; exact hl)]
    exact ⟨fun _ => ⟨k, by omega, hv⟩, fun _ => rfl⟩
  · rw [List.getElem?_set_ne (fun x => e x.symm), h.2 u hu]
    constructor
    · rintro ⟨i, hi, hx⟩; exact ⟨i, by omega, hx⟩
    · rintro ⟨i, hi, hx⟩
      refine ⟨i, ?_, hx⟩
      by_cases e' : i = k
      · subst e'; rw [hv] at hx; exact absurd (Int.ofNat_inj.1 hx).symm e
      · omega

/-- A slice of bools of the call's own. -/
def OwnB (w : World) (g n : Nat) (bs : List Bool) : Prop := w.ownsRow g 4 1 (.slice (some ⟨g, 0, none⟩) n n) n (bs.map Value.bool)
namespace OwnB
variable {w : World} {g n : Nat} {bs : List Bool}
theorem made (h : w.ownsRow g 4 1 (.slice (some ⟨g, 0, none⟩) n n) n (madeCells (Value.bool false).cells (n * 1)).toList) : OwnB w g n (List.replicate n false) := by
  unfold OwnB
  rw [List.map_replicate]
  have e : (madeCells (Value.bool false).cells (n * 1)).toList = List.replicate n (Value.bool false) := by
    rw [Nat.mul_one]; exact toList_madeCells_one _ _
  rw [← e]; exact h
theorem cell (h : OwnB w g n bs) : ∀ j, j < n → w.cell? ⟨g, j, none⟩ = some (.bool (bs[j]?.getD false)) := by
  intro j hj
  have hlen : bs.length = n := by have := h.1; simpa using this
  have := h.cellAt j (by omega)
  rw [this]
  simp [hlen, hj]
theorem free (h : OwnB w g n bs) (j : Nat) : w.frozen? ⟨g, j, none⟩ = false := h.frozenAt j
theorem stored (h : OwnB w g n bs) (j : Nat) (b : Bool) : OwnB (w.setCell ⟨g, j, none⟩ (.bool b)) g n (bs.set j b) := by
  unfold OwnB; rw [List.map_set]; exact (World.ownsRow.stored h j _).1
theorem drewN (h : OwnB w g n bs) (q : Nat) : OwnB (w.drewN q) g n bs := h
end OwnB

set_option maxHeartbeats 1000000 in
theorem permutation_any (a : Option Addr) (n cap : Nat) (l : List Int) (w : World) (h : Ints w a n cap l) :
    Calls Try.prog 25 #[.slice a n cap] w fun e w' => e = .returned (.bool (permB l)) ∧ Below w.heap.size w w' := by
  have HN := Lib.hid h.len
  have h8 := h.bound
  obtain ⟨i0, hi, hz0, hz1, hz2⟩ := info_parts Try.infoBool
  go_enter Try.func25, Try.ntmps25
  go_wp2_with (at_make; refine wpList_make_full _ rfl _ _ 67 rfl w.heap.size 4 i0 (.bool false) 1 Try.underlying67 hi hz0 hz1 .i64 .i64 n n n rfl rfl rfl rfl (by rw [hz2]; omega) (by unfold maxLen; omega) (Nat.le_refl _) ?_; intro w1 hrow hg)
  have hb : Below w.heap.size w w1 := (Below.refl _ w).grown hg (Nat.le_refl _) (by simp)
  have ho : OwnB w1 w.heap.size n (List.replicate n false) := OwnB.made hrow
  clear hrow hg
  go_loopw [11] (fun i wr => ∃ (k : Nat) (bs : List Bool), k ≤ n ∧ i = .int .i64 (k : Int) ∧ OwnB wr w.heap.size n bs ∧ Hid (Seen l k bs) ∧ Hid (PermTo l k) ∧ Below w.heap.size w wr) (fun i _ => n - (intOf i).toNat)
  case atStart => exact ⟨0, _, Nat.zero_le _, rfl, ho, by rw [HN.out]; exact seen_start l, fun j hj => by omega, hb⟩
  case round =>
    obtain ⟨k, bs, hk, rfl, ho, hs, hp, hb⟩ := hrel
    by_cases hlt : k < n
    · obtain ⟨b, off, rfl, -, hcl⟩ := (h.below hb).at_ (by omega)
      have c1 := hcl.out k hlt
      have HC := Lib.hid ho.cell
      have hfz := ho.free
      have HF := Lib.hid hfz
      clear hfz
      by_cases hx : 0 ≤ l[k]?.getD 0 ∧ l[k]?.getD 0 < n
      · obtain ⟨v, hv⟩ := Int.eq_ofNat_of_zero_le hx.1
        have hvn : v < n := by omega
        rw [hv] at c1
        have c2 := HC.out v hvn
        have c3 := HF.out v
        have HV := Lib.hid hv
        clear hv hx
        have hv0 : ¬ ((v : Int) < 0) := by omega
        have hv1 : ¬ ((n : Int) ≤ (v : Int)) := by omega
        cases hbv : bs[v]?.getD false with
        | true =>
          rw [hbv] at c2
          have hno : permB l = false := by
            refine decide_eq_false fun hall => ?_
            obtain ⟨i, hi, he⟩ := (hs.out.2 v (by rw [← HN.out]; exact hvn)).1 hbv
            exact (hall k (by rw [← HN.out]; exact hlt)).2.2 i hi (by rw [he, HV.out])
          have HNO := Lib.hid hno
          clear hno hbv
          go_wp2
          go_ret
          exact ⟨by rw [HNO.out]; rfl, hb⟩
        | false =>
          rw [hbv] at c2
          have hp' : Hid (PermTo l (k + 1)) := hp.out.step (by rw [HV.out]; omega) (by rw [HV.out, ← HN.out]; omega) (fun i hi he => by
            have := (hs.out.2 v (by rw [← HN.out]; exact hvn)).2 ⟨i, hi, by rw [he, HV.out]⟩
            rw [hbv] at this; cases this)
          clear hbv
          go_wp2
          go_roundw
          case rel => exact ⟨k + 1, bs.set v true, by omega, by go_num, ho.stored v true, hs.out.step HV.out (by rw [← HN.out]; exact hvn), hp', hb.setCell (Nat.le_refl _) _⟩
          case measure => simp [intOf]; omega
      · have hno : permB l = false := by
          refine decide_eq_false fun hall => hx ?_
          have := hall k (by rw [← HN.out]; exact hlt)
          rw [← HN.out] at this
          exact ⟨this.1, this.2.1⟩
        have HNO := Lib.hid hno
        clear hno
        by_cases hx0 : l[k]?.getD 0 < 0
        · clear hx
          go_wp2
          go_ret
          exact ⟨by rw [HNO.out]; rfl, hb⟩
        · have hx1 : (n : Int) ≤ l[k]?.getD 0 := by omega
          have hx2 : decide (l[k]?.getD 0 < 0) = false := by simpa using hx0
          clear hx
          go_wp2
          go_ret
          exact ⟨by rw [HNO.out]; rfl, hb⟩
    · obtain rfl : k = n := by omega
      have hyes : Hid (permB l = true) := decide_eq_true (by rw [← HN.out]; exact hp.out)
      go_wp2
      go_ret
      exact ⟨by rw [hyes.out]; rfl, hb⟩

set_option maxHeartbeats 1000000 in
theorem ref_permutation_any (a : Option Addr) (n cap : Nat) (l : List Int) (w : World) (h : Ints w a n cap l) :
    Calls Try.prog 26 #[.slice a n cap] w fun e w' => e = .returned (.bool (permB l)) ∧ Below w.heap.size w w' := by
  have HN := Lib.hid h.len
  have h8 := h.bound
  obtain ⟨i0, hi, hz0, hz1, hz2⟩ := info_parts Try.infoBool
  go_enter Try.func26, Try.ntmps26
  go_wp2_with (at_make; refine wpList_make_full _ rfl _ _ 67 rfl w.heap.size 4 i0 (.bool false) 1 Try.underlying67 hi hz0 hz1 .i64 .i64 n n n rfl rfl rfl rfl (by rw [hz2]; omega) (by unfold maxLen; omega) (Nat.le_refl _) ?_; intro w1 hrow hg)
  have hb : Below w.heap.size w w1 := (Below.refl _ w).grown hg (Nat.le_refl _) (by simp)
  have ho : OwnB w1 w.heap.size n (List.replicate n false) := OwnB.made hrow
  clear hrow hg
  go_loopw [4] (fun i wr => ∃ (k : Nat) (bs : List Bool), k ≤ n ∧ i = .int .i64 (k : Int) ∧ OwnB wr w.heap.size n bs ∧ Hid (Seen l k bs) ∧ Hid (PermTo l k) ∧ Below w.heap.size w wr) (fun i _ => n - (intOf i).toNat)
  case atStart => exact ⟨0, _, Nat.zero_le _, rfl, ho, by rw [HN.out]; exact seen_start l, fun j hj => by omega, hb⟩
  case round =>
    obtain ⟨k, bs, hk, rfl, ho, hs, hp, hb⟩ := hrel
    by_cases hlt : k < n
    · obtain ⟨b, off, rfl, -, hcl⟩ := (h.below hb).at_ (by omega)
      have c1 := hcl.out k hlt
      have HC := Lib.hid ho.cell
      have hfz := ho.free
      have HF := Lib.hid hfz
      clear hfz
      by_cases hx : 0 ≤ l[k]?.getD 0 ∧ l[k]?.getD 0 < n
      · obtain ⟨v, hv⟩ := Int.eq_ofNat_of_zero_le hx.1
        have hvn : v < n := by omega
        rw [hv] at c1
        have c2 := HC.out v hvn
        have c3 := HF.out v
        have HV := Lib.hid hv
        clear hv hx
        have hv0 : ¬ ((v : Int) < 0) := by omega
        have hv1 : ¬ ((n : Int) ≤ (v : Int)) := by omega
        cases hbv : bs[v]?.getD false with
        | true =>
          rw [hbv] at c2
          have hno : permB l = false := by
            refine decide_eq_false fun hall => ?_
            obtain ⟨i, hi, he⟩ := (hs.out.2 v (by rw [← HN.out]; exact hvn)).1 hbv
            exact (hall k (by rw [← HN.out]; exact hlt)).2.2 i hi (by rw [he, HV.out])
          have HNO := Lib.hid hno
          clear hno hbv
          go_wp2
          go_ret
          exact ⟨by rw [HNO.out]; rfl, hb⟩
        | false =>
          rw [hbv] at c2
          have hp' : Hid (PermTo l (k + 1)) := hp.out.step (by rw [HV.out]; omega) (by rw [HV.out, ← HN.out]; omega) (fun i hi he => by
            have := (hs.out.2 v (by rw [← HN.out]; exact hvn)).2 ⟨i, hi, by rw [he, HV.out]⟩
            rw [hbv] at this; cases this)
          clear hbv
          go_wp2
          go_roundw
          case rel => exact ⟨k + 1, bs.set v true, by omega, by go_num, ho.stored v true, hs.out.step HV.out (by rw [← HN.out]; exact hvn), hp', hb.setCell (Nat.le_refl _) _⟩
          case measure => simp [intOf]; omega
      · have hno : permB l = false := by
          refine decide_eq_false fun hall => hx ?_
          have := hall k (by rw [← HN.out]; exact hlt)
          rw [← HN.out] at this
          exact ⟨this.1, this.2.1⟩
        have HNO := Lib.hid hno
        clear hno
        by_cases hx0 : l[k]?.getD 0 < 0
        · clear hx
          go_wp2
          go_ret
          exact ⟨by rw [HNO.out]; rfl, hb⟩
        · have hx1 : (n : Int) ≤ l[k]?.getD 0 := by omega
          have hx2 : decide (l[k]?.getD 0 < 0) = false := by simpa using hx0
          clear hx
          go_wp2
          go_ret
          exact ⟨by rw [HNO.out]; rfl, hb⟩
    · obtain rfl : k = n := by omega
      have hyes : Hid (permB l = true) := decide_eq_true (by rw [← HN.out]; exact hp.out)
      go_wp2
      go_ret
      exact ⟨by rw [hyes.out]; rfl, hb⟩
end Go.Proofs.Ytdkokpehcmcnpaa
