/- A region that draws its order, inside a fence: its first operations only read, the others follow them in one forced order. -/
import Derived.Test.YtileoimcnhcfcaaDoorHead
import Derived.Sort.QuietTacIn
set_option linter.unusedVariables false
set_option linter.unusedSimpArgs false
namespace Go.Proofs.YtileoimcnhcfcaaDoor
open Go

section
variable {F : Fence} {nF : Nat} {P : Program} {ops : Array Oper} {md : Region.Mode} {C : World → Prop}
def headRunIn (F : Fence) (nF : Nat) (P : Program) (md : Region.Mode) (ops : Array Oper) (C : World → Prop) (n : Nat) (L : Array Bool → Act → Prop) : Nat → Array Bool → Act → Prop
  | 0, done, a => L done a
  | f + 1, done, a => Region.ready md ops done ≠ [] ∧ ∀ i, i ∈ Region.ready md ops done → i < n ∧ qOpIn F nF P ops C i (headRunIn F nF P md ops C n L f (done.setIfInBounds i true)) a
theorem headRunIn_sound (hro : F.round = none) {n g : Nat} {L : Array Bool → Act → Prop} {Q : Exit → Act → World → Prop} (hL : ∀ done a w, C w → L done a → wpAnyIn F nF P md ops Q g done a w) :
    ∀ f done a w, C w → headRunIn F nF P md ops C n L f done a → wpAnyIn F nF P md ops Q (f + g) done a w := by
  intro f
  induction f with
  | zero => intro done a w hw h; rw [Nat.zero_add]; exact hL _ _ _ hw h
  | succ f ih =>
    intro done a w hw h
    rw [show f + 1 + g = (f + g) + 1 by omega]
    exact ⟨fun h0 => absurd h0 h.1, fun i hi => wpOpIn_of_qOpIn hro hw (fun a' w' hw' h' => ih _ a' w' hw' h') (h.2 i hi).2⟩
theorem headRunIn_first {n i : Nat} {oi : Oper} {v : Value} {L : Array Bool → Act → Prop} (hi : ops[i]? = some oi) (hsel : Region.noSelect ops = true)
    (hs : Region.sinkB md ops n = true) (hc : Region.chainB md ops n = true) (hn : n < ops.size) (hin : i < n) (hL : ∀ done a, L done a → ∀ j ∈ Region.ready md ops done, n ≤ j) :
    ∀ f done a, HeadInv md ops n done →
      (∀ j oj, ops[j]? = some oj → j ≠ i → done.getD j true = false → (∀ e ∈ oj.after, Region.binds md e = true → e.on ≠ i) → oi.apart ops oj = true) →
      i ∈ Region.ready md ops done → YieldsQuiet F nF P ops C oi v a →
      headRunIn F nF P md ops C n L f (done.setIfInBounds i true) (a.put oi.dst v) → headRunIn F nF P md ops C n L (f + 1) done a := by
  have head : ∀ {done : Array Bool}, HeadInv md ops n done → i ∈ Region.ready md ops done → ∀ j ∈ Region.ready md ops done, j < n := by
    intro done inv hr j hj
    rcases Nat.lt_or_ge j n with h | h
    · exact h
    · exact absurd hj (tail_waits hs hc hn inv _ i rfl hin (mem_ready.1 hr).1 j h)
  intro f
  induction f with
  | zero =>
    intro done a inv _ hr hy H
    refine ⟨List.ne_nil_of_mem hr, fun j hj => ⟨head inv hr j hj, ?_⟩⟩
    by_cases e : j = i
    · subst e; exact hy.qOpIn hi H
    · have h1 := hL _ _ H j (ready_mono hj e)
      have h2 := head inv hr j hj
      omega
  | succ f ih =>
    intro done a inv hfree hr hy H
    refine ⟨List.ne_nil_of_mem hr, fun j hj => ⟨head inv hr j hj, ?_⟩⟩
    by_cases e : j = i
    · subst e; exact hy.qOpIn hi H
    obtain ⟨hjun, oj, hoj, hall⟩ := mem_ready.1 hj
    have hno : ∀ e ∈ oj.after, Region.binds md e = true → e.on ≠ i := fun e he hb heq => by
      have h1 := hall e he hb
      rw [heq, getD_both (mem_ready.1 hr).1] at h1
      cases h1
    have h2 := qOpIn_put hoj (hfree j oj hoj e hjun hno) (fun cs b => Region.noSelect_spec hsel i oi cs b hi) (fun cs b => Region.noSelect_spec hsel j oj cs b hoj) hy (H.2 j (ready_mono hj e)).2
    refine qOpIn_mono (fun a' h3 => ih (done.setIfInBounds j true) a' (inv.set hj (head inv hr j hj)) (fun k ok hk hki hun hk' => hfree k ok hk hki ?_ hk') (ready_mono hr (Ne.symm e)) h3.1 ?_) h2
    · by_cases hjk : j = k
      · subst hjk; exact hjun
      · rwa [getD_set_ne true hjk] at hun
    · rw [Array.setIfInBounds_comm _ _ e]
      exact h3.2
theorem headRunIn_text {n g : Nat} {R : Act → Prop} (hsel : Region.noSelect ops = true) (hs : Region.sinkB md ops n = true) (hc : Region.chainB md ops n = true) (hn : n < ops.size) :
    ∀ (l : List Oper) (k : Nat) (done : Array Bool) (a : Act), (∀ j, j < l.length → l[j]? = ops[k + j]?) → k + l.length = n → HeadInv md ops n done →
    Region.lexHead md ops g l.length k done = true → wpQuietIn F nF P ops C R l a →
    headRunIn F nF P md ops C n (fun done' a' => Region.seqB md ops g n done' = true ∧ R a') l.length done a := by
  intro l
  induction l with
  | nil =>
    intro k done a _ hk _ hB h
    obtain rfl : k = n := by simpa using hk
    exact ⟨hB, h⟩
  | cons o l ih =>
    intro k done a hl hk inv hB h
    have h0 : ops[k]? = some o := by simpa using (hl 0 (by simp)).symm
    simp only [List.length_cons, Region.lexHead, Bool.and_eq_true, List.contains_iff_mem] at hB
    simp only [List.length_cons] at hk
    obtain ⟨⟨hr, hf⟩, hB'⟩ := hB
    obtain ⟨v, hy, hK⟩ := yieldsQuiet_of_qOpIn (K := wpQuietIn F nF P ops C R l) h0 (by unfold qOpIn; simp only [h0]; exact h)
    exact headRunIn_first h0 hsel hs hc hn (by omega) (fun _ _ hL => seqB_ready hL.1) l.length done a inv (Region.free_spec h0 hf) hr hy
      (ih (k + 1) _ _ (fun j hj => by have := hl (j + 1) (by simp; omega); simpa [Nat.add_assoc, Nat.add_comm 1 j] using this) (by omega) (inv.set hr (by omega)) hB' hK)
theorem wpAnyIn_of_seq {Q' : Exit → Act → World → Prop} : ∀ (l : List Oper) (k : Nat) (listed : Array Bool) (a : Act) (w : World), (∀ j, l[j]? = ops[k + j]?) →
    Region.seqB md ops l.length k listed = true → wpListIn F nF P ops Q' l a w → wpAnyIn F nF P md ops Q' l.length listed a w
  | [], _, _, _, _, _, hB, h => ⟨by simpa [Region.seqB] using hB, h⟩
  | o :: l, k, listed, a, w, hl, hB, h => by
    have h0 : ops[k]? = some o := by simpa using (hl 0).symm
    simp only [List.length_cons, Region.seqB, Bool.and_eq_true, decide_eq_true_eq] at hB
    refine ⟨fun h1 => (by rw [hB.1] at h1; cases h1), fun i hi => ?_⟩
    rw [hB.1] at hi
    have hik : i = k := by simpa using hi
    subst hik
    have hw : wpOpIn F nF P ops Q' i (wpListIn F nF P ops Q' l) a w := by unfold wpOpIn; simp only [h0]; exact h
    exact wpOpIn_mono (fun a' w' h' => wpAnyIn_of_seq l (i + 1) _ a' w' (fun j => by have := hl (j + 1); simpa [Nat.add_assoc, Nat.add_comm 1 j] using this) hB.2 h') hw
theorem wpIn_region_headQ {id : Nat} {Q : Exit → Act → World → Prop} {a : Act} {w : World} {l : List Oper} (n : Nat) (hro : F.round = none) (hm : P.follows .mixedOrders = true) (hB : Region.lexTailB .any l.toArray n = true)
    (h : wpQuietIn F nF P l.toArray (fun w' => ∃ n, w' = w.drewN n) (fun a' => ∀ w', (∃ n, w' = w.drewN n) → wpListIn F nF P l.toArray Q (l.drop n) a' w') (l.take n) a) : (Code.region id l.toArray true).wpIn F nF P Q a w := by
  simp only [Region.lexTailB, Bool.and_eq_true, decide_eq_true_eq, List.size_toArray] at hB
  obtain ⟨⟨⟨⟨hsel, hn⟩, hs⟩, hc⟩, hlex⟩ := hB
  have htl : (l.take n).length = n := by simp; omega
  have inv0 : HeadInv .any l.toArray n (Array.replicate l.length false) :=
    ⟨by simp, fun j oj _ hl => (by rw [getD_replicate_false] at hl; cases hl), fun t _ ht => getD_in (by simpa using ht) (getD_replicate_false _ _)⟩
  have H := headRunIn_text (F := F) (nF := nF) (P := P) (C := fun w' => ∃ n, w' = w.drewN n) (R := fun a' => ∀ w', (∃ n, w' = w.drewN n) → wpListIn F nF P l.toArray Q (l.drop n) a' w') (g := l.length - n) hsel hs hc (by simpa using hn) (l.take n) 0 _ a
    (fun j hj => by have hj' : j < n := by omega
                    simp [hj']) (by omega) inv0 (by rw [htl]; exact hlex) h
  refine wpIn_region_any hm ?_
  have K := headRunIn_sound hro (Q := Q) (g := l.length - n) (fun done a' w' hw' hL => by
    have := wpAnyIn_of_seq (F := F) (nF := nF) (P := P) (md := .any) (Q' := Q) (l.drop n) n done a' w' (fun j => by simp [List.getElem?_drop]) (by simpa using hL.1) (hL.2 w' hw')
    simpa using this) _ _ _ _ (⟨1, rfl⟩ : ∃ n, w.drew = w.drewN n) H
  rw [htl, show n + (l.length - n) = l.length by omega] at K
  simpa using K
end
end Go.Proofs.YtileoimcnhcfcaaDoor
