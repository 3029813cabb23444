/- A region that draws its order: its first n operations only read (their callees may draw), the others follow them in one forced order. One walk in the order of the text serves every order. -/
import Derived.StillTail
import Derived.StillTailTactics
import Derived.Deep.QuietTactic
import Derived.BigQuiet
import Derived.OrdersIn
import Derived.OrdersHeld
import Derived.OwnWalkIn
import Derived.RangeFuncCalls
set_option linter.unusedVariables false
set_option linter.unusedSimpArgs false
namespace Go.Proofs.YtaelfjlmkgimhaaGreatDoor
open Go

section
variable {P : Program} {ops : Array Oper} {md : Region.Mode} {C : World → Prop}

/-- f operations of the head are still to come, in whatever order; then L. -/
def headRun (P : Program) (md : Region.Mode) (ops : Array Oper) (C : World → Prop) (n : Nat) (L : Array Bool → Act → Prop) : Nat → Array Bool → Act → Prop
  | 0, done, a => L done a
  | f + 1, done, a => Region.ready md ops done ≠ [] ∧ ∀ i, i ∈ Region.ready md ops done → i < n ∧ qOp P ops C i (headRun P md ops C n L f (done.setIfInBounds i true)) a

theorem headRun_sound {n g : Nat} {L : Array Bool → Act → Prop} {Q : Exit → Act → World → Prop} (hL : ∀ done a w, C w → L done a → wpAny P md ops Q g done a w) :
    ∀ f done a w, C w → headRun P md ops C n L f done a → wpAny P md ops Q (f + g) done a w := by
  intro f
  induction f with
  | zero => intro done a w hw h; rw [Nat.zero_add]; exact hL _ _ _ hw h
  | succ f ih =>
    intro done a w hw h
    rw [show f + 1 + g = (f + g) + 1 by omega]
    exact ⟨fun h0 => absurd h0 h.1, fun i hi => wpOp_of_qOp hw (fun a' w' hw' h' => ih _ a' w' hw' h') (h.2 i hi).2⟩

/-- The operation that stands first in the text may be taken first. -/
theorem headRun_first {n i : Nat} {oi : Oper} {v : Value} {L : Array Bool → Act → Prop} (hi : ops[i]? = some oi) (hsel : Region.noSelect ops = true)
    (hs : Region.sinkB md ops n = true) (hc : Region.chainB md ops n = true) (hn : n < ops.size) (hin : i < n) (hL : ∀ done a, L done a → ∀ j ∈ Region.ready md ops done, n ≤ j) :
    ∀ f done a, HeadInv md ops n done →
      (∀ j oj, ops[j]? = some oj → j ≠ i → done.getD j true = false → (∀ e ∈ oj.after, Region.binds md e = true → e.on ≠ i) → oi.apart ops oj = true) →
      i ∈ Region.ready md ops done → YieldsIn P ops C oi v a →
      headRun P md ops C n L f (done.setIfInBounds i true) (a.put oi.dst v) → headRun P md ops C n L (f + 1) done a := by
  have head : ∀ {done : Array Bool}, HeadInv md ops n done → i ∈ Region.ready md ops done → ∀ j ∈ Region.ready md ops done, j < n := by
    intro done inv hr j hj
    rcases Nat.lt_or_ge j n with h | h
    · exact h
    · exact absurd hj (tail_waits hs hc hn inv _ i rfl hin (mem_ready.1 hr).1 j h)
  intro f
  induction f with
  | zero =>
    intro done a inv _ hr hy H
    refine ⟨List.ne_nil_of_mem hr, fun j hj => ⟨head inv hr j hj, ?_⟩⟩
    by_cases e : j = i
    · subst e; exact hy.qOp hi H
    · have h1 := hL _ _ H j (ready_mono hj e)
      have h2 := head inv hr j hj
      omega
  | succ f ih =>
    intro done a inv hfree hr hy H
    refine ⟨List.ne_nil_of_mem hr, fun j hj => ⟨head inv hr j hj, ?_⟩⟩
    by_cases e : j = i
    · subst e; exact hy.qOp hi H
    obtain ⟨hjun, oj, hoj, hall⟩ := mem_ready.1 hj
    have hno : ∀ e ∈ oj.after, Region.binds md e = true → e.on ≠ i := fun e he hb heq => by
      have h1 := hall e he hb
      rw [heq, getD_both (mem_ready.1 hr).1] at h1
      cases h1
    have h2 := qOp_put hoj (hfree j oj hoj e hjun hno) (fun cs b => Region.noSelect_spec hsel i oi cs b hi) (fun cs b => Region.noSelect_spec hsel j oj cs b hoj) hy (H.2 j (ready_mono hj e)).2
    refine qOp_mono (fun a' h3 => ih (done.setIfInBounds j true) a' (inv.set hj (head inv hr j hj)) (fun k ok hk hki hun hk' => hfree k ok hk hki ?_ hk') (ready_mono hr (Ne.symm e)) h3.1 ?_) h2
    · by_cases hjk : j = k
      · subst hjk; exact hjun
      · rwa [getD_set_ne true hjk] at hun
    · rw [Array.setIfInBounds_comm _ _ e]
      exact h3.2

theorem headRun_text {n g : Nat} {R : Act → Prop} (hsel : Region.noSelect ops = true) (hs : Region.sinkB md ops n = true) (hc : Region.chainB md ops n = true) (hn : n < ops.size) :
    ∀ (l : List Oper) (k : Nat) (done : Array Bool) (a : Act), (∀ j, j < l.length → l[j]? = ops[k + j]?) → k + l.length = n → HeadInv md ops n done →
    Region.lexHead md ops g l.length k done = true → wpQuiet P ops C R l a →
    headRun P md ops C n (fun done' a' => Region.seqB md ops g n done' = true ∧ R a') l.length done a := by
  intro l
  induction l with
  | nil =>
    intro k done a _ hk _ hB h
    obtain rfl : k = n := by simpa using hk
    exact ⟨hB, h⟩
  | cons o l ih =>
    intro k done a hl hk inv hB h
    have h0 : ops[k]? = some o := by simpa using (hl 0 (by simp)).symm
    simp only [List.length_cons, Region.lexHead, Bool.and_eq_true, List.contains_iff_mem] at hB
    simp only [List.length_cons] at hk
    obtain ⟨⟨hr, hf⟩, hB'⟩ := hB
    obtain ⟨v, hy, hK⟩ := yieldsIn_of_qOp (K := wpQuiet P ops C R l) h0 (by unfold qOp; simp only [h0]; exact h)
    exact headRun_first h0 hsel hs hc hn (by omega) (fun _ _ hL => seqB_ready hL.1) l.length done a inv (Region.free_spec h0 hf) hr hy
      (ih (k + 1) _ _ (fun j hj => by have := hl (j + 1) (by simp; omega); simpa [Nat.add_assoc, Nat.add_comm 1 j] using this) (by omega) (inv.set hr (by omega)) hB' hK)

/-- One walk in the order of the text serves every order. -/
theorem wp_region_head {id : Nat} {Q : Exit → Act → World → Prop} {a : Act} {w : World} {l : List Oper} (n : Nat) (hm : P.follows .mixedOrders = true) (hB : Region.lexTailB .any l.toArray n = true)
    (hC : C { w with drawn := w.drawn + 1 })
    (h : wpQuiet P l.toArray C (fun a' => ∀ w', C w' → wpList P l.toArray Q (l.drop n) a' w') (l.take n) a) : (Code.region id l.toArray true).wp P Q a w := by
  simp only [Region.lexTailB, Bool.and_eq_true, decide_eq_true_eq, List.size_toArray] at hB
  obtain ⟨⟨⟨⟨hsel, hn⟩, hs⟩, hc⟩, hlex⟩ := hB
  have htl : (l.take n).length = n := by simp; omega
  have inv0 : HeadInv .any l.toArray n (Array.replicate l.length false) :=
    ⟨by simp, fun j oj _ hl => (by rw [getD_replicate_false] at hl; cases hl), fun t _ ht => getD_in (by simpa using ht) (getD_replicate_false _ _)⟩
  have H := headRun_text (P := P) (C := C) (R := fun a' => ∀ w', C w' → wpList P l.toArray Q (l.drop n) a' w') (g := l.length - n) hsel hs hc (by simpa using hn) (l.take n) 0 _ a
    (fun j hj => by have hj' : j < n := by omega
                    simp [hj']) (by omega) inv0 (by rw [htl]; exact hlex) h
  refine wp_region_any hm ?_
  have K := headRun_sound (Q := Q) (g := l.length - n) (fun done a' w' hw' hL => by
    have := wpAny_of_seq (P := P) (md := .any) (Q' := Q) (l.drop n) n done a' w' (fun j => by simp [List.getElem?_drop]) (by simpa using hL.1) (hL.2 w' hw')
    simpa using this) _ _ _ _ hC H
  rw [htl, show n + (l.length - n) = l.length by omega] at K
  simpa using K

/-- The same at the class 'w after some draws'. -/
theorem wp_region_head_drew {id : Nat} {Q : Exit → Act → World → Prop} {a : Act} {w : World} {l : List Oper} (n : Nat) (hm : P.follows .mixedOrders = true) (hB : Region.lexTailB .any l.toArray n = true)
    (h : wpQuiet P l.toArray (fun w' => ∃ n, w' = w.drewN n) (fun a' => ∀ w', (∃ n, w' = w.drewN n) → wpList P l.toArray Q (l.drop n) a' w') (l.take n) a) : (Code.region id l.toArray true).wp P Q a w :=
  wp_region_head (C := fun w' => ∃ n, w' = w.drewN n) n hm hB ⟨1, rfl⟩ h
end
end Go.Proofs.YtaelfjlmkgimhaaGreatDoor

/- A region that draws its order: what only reads is taken first, whatever the others write that it does not read; the last operations follow in one forced order. And: a region within a round of a loop over an iterator, walked as anywhere. -/
namespace Go.Proofs.YtaelfjlmkgimhaaGreatDoor
open Go

section
variable {P : Program} {ops : Array Oper} {md : Region.Mode} {X : Type} {Wf : X → World} {Q : Exit → Act → World → Prop}

/-- One operation that only reads, in every world of the family. -/
def rOp (P : Program) (ops : Array Oper) (Wf : X → World) (o : Oper) (a : Act) (next : Act → Prop) : Prop :=
  if Region.wanted o (yielded ops a.tmps) then ∃ v, (∀ x, (execOp a.eval o).run P (Wf x) = .ok (.value v) (Wf x)) ∧ next (a.put o.dst v) else next (a.put o.dst undef)
def wpReads (P : Program) (ops : Array Oper) (Wf : X → World) (R : Act → Prop) : List Oper → Act → Prop
  | [], a => R a
  | o :: rest, a => rOp P ops Wf o a (wpReads P ops Wf R rest)
theorem wpReads_nil {R : Act → Prop} {a : Act} (h : R a) : wpReads P ops Wf R [] a := h
theorem wpReads_step {R : Act → Prop} {o : Oper} {rest : List Oper} {a : Act} (h : ∀ K : Act → Prop, (∀ a, wpReads P ops Wf R rest a → K a) → rOp P ops Wf o a K) : wpReads P ops Wf R (o :: rest) a := h _ (fun _ h => h)

/-- f operations of the head are still to come, in whatever order, each leaving a world of the family; then L. -/
def headH (P : Program) (md : Region.Mode) (ops : Array Oper) (Q : Exit → Act → World → Prop) (Wf : X → World) (n : Nat) (L : Array Bool → Act → World → Prop) : Nat → Array Bool → Act → World → Prop
  | 0, done, a, w => L done a w
  | f + 1, done, a, w => Region.ready md ops done ≠ [] ∧ ∀ i, i ∈ Region.ready md ops done → i < n ∧ wpOp P ops Q i (fun a' w' => (∃ x, w' = Wf x) ∧ headH P md ops Q Wf n L f (done.setIfInBounds i true) a' w') a w

theorem headH_sound {n g : Nat} {L : Array Bool → Act → World → Prop} (hL : ∀ done a w, L done a w → wpAny P md ops Q g done a w) :
    ∀ f done a w, headH P md ops Q Wf n L f done a w → wpAny P md ops Q (f + g) done a w := by
  intro f
  induction f with
  | zero => intro done a w h; rw [Nat.zero_add]; exact hL _ _ _ h
  | succ f ih =>
    intro done a w h
    rw [show f + 1 + g = (f + g) + 1 by omega]
    exact ⟨fun h0 => absurd h0 h.1, fun i hi => wpOp_mono (fun a' w' h' => ih _ a' w' h'.2) (h.2 i hi).2⟩

theorem headH_first {n i : Nat} {oi : Oper} {v : Value} {L : Array Bool → Act → World → Prop} (hi : ops[i]? = some oi) (hsel : Region.noSelect ops = true)
    (hs : Region.sinkB md ops n = true) (hc : Region.chainB md ops n = true) (hn : n < ops.size) (hin : i < n) (hL : ∀ done a w, L done a w → ∀ j ∈ Region.ready md ops done, n ≤ j)
    (hQ : ∀ c a d v w, Q (.panic c) (Act.put a d v) w → Q (.panic c) a w) :
    ∀ f done a w, HeadInv md ops n done →
      (∀ j oj, ops[j]? = some oj → j ≠ i → done.getD j true = false → (∀ e ∈ oj.after, Region.binds md e = true → e.on ≠ i) → oi.apart ops oj = true) →
      i ∈ Region.ready md ops done → YieldsIf P ops (fun w => ∃ x, w = Wf x) oi v a → (∃ x, w = Wf x) →
      headH P md ops Q Wf n L f (done.setIfInBounds i true) (a.put oi.dst v) w → headH P md ops Q Wf n L (f + 1) done a w := by
  have head : ∀ {done : Array Bool}, HeadInv md ops n done → i ∈ Region.ready md ops done → ∀ j ∈ Region.ready md ops done, j < n := by
    intro done inv hr j hj
    rcases Nat.lt_or_ge j n with h | h
    · exact h
    · exact absurd hj (tail_waits hs hc hn inv _ i rfl hin (mem_ready.1 hr).1 j h)
  intro f
  induction f with
  | zero =>
    intro done a w inv _ hr hy hS H
    refine ⟨List.ne_nil_of_mem hr, fun j hj => ⟨head inv hr j hj, ?_⟩⟩
    by_cases e : j = i
    · subst e; exact hy.wpOp hi hS ⟨hS, H⟩
    · have h1 := hL _ _ _ H j (ready_mono hj e)
      have h2 := head inv hr j hj
      omega
  | succ f ih =>
    intro done a w inv hfree hr hy hS H
    refine ⟨List.ne_nil_of_mem hr, fun j hj => ⟨head inv hr j hj, ?_⟩⟩
    by_cases e : j = i
    · subst e; exact hy.wpOp hi hS ⟨hS, H⟩
    obtain ⟨hjun, oj, hoj, hall⟩ := mem_ready.1 hj
    have hno : ∀ e ∈ oj.after, Region.binds md e = true → e.on ≠ i := fun e he hb heq => by
      have h1 := hall e he hb
      rw [heq, getD_both (mem_ready.1 hr).1] at h1
      cases h1
    have h2 := wpOp_putIf hoj (hfree j oj hoj e hjun hno) (fun cs b => Region.noSelect_spec hsel i oi cs b hi) (fun cs b => Region.noSelect_spec hsel j oj cs b hoj) (fun c a w => hQ c a _ _ w) hy (H.2 j (ready_mono hj e)).2
    refine wpOp_mono (fun a' w' h3 => ⟨h3.2.1, ih (done.setIfInBounds j true) a' w' (inv.set hj (head inv hr j hj)) (fun k ok hk hki hun hk' => hfree k ok hk hki ?_ hk') (ready_mono hr (Ne.symm e)) h3.1 h3.2.1 ?_⟩) h2
    · by_cases hjk : j = k
      · subst hjk; exact hjun
      · rwa [getD_set_ne true hjk] at hun
    · rw [Array.setIfInBounds_comm _ _ e]
      exact h3.2.2

/-- The reads, in this order, may all be taken first. -/
def readsB (md : Region.Mode) (ops : Array Oper) (n : Nat) : List Nat → Array Bool → Bool
  | [], _ => true
  | k :: ks, done => decide (k < n) && (Region.ready md ops done).contains k && Region.free md ops done k && readsB md ops n ks (done.setIfInBounds k true)
/-- The others of the head follow one by one, in this order; then the tail. -/
def actsB (md : Region.Mode) (ops : Array Oper) (n g : Nat) : List Nat → Array Bool → Bool
  | [], done => Region.seqB md ops g n done
  | k :: ks, done => decide (k < n) && decide (Region.ready md ops done = [k]) && actsB md ops n g ks (done.setIfInBounds k true)
def setAll : List Nat → Array Bool → Array Bool
  | [], d => d
  | k :: ks, d => setAll ks (d.setIfInBounds k true)
def pickOps (ops : List Oper) (ks : List Nat) : List Oper := ks.filterMap fun k => ops[k]?
/-- The others of the head, walked one by one: behind each a world of the family. -/
def wpActs (P : Program) (ops : Array Oper) (Q : Exit → Act → World → Prop) (Wf : X → World) (T : Act → World → Prop) : List Oper → Act → World → Prop
  | [], a, w => T a w
  | o :: rest, a, w => wpList P ops (Exit.then (fun a' w' => (∃ x, w' = Wf x) ∧ wpActs P ops Q Wf T rest a' w') Q) [o] a w

theorem wpActs_cons {T : Act → World → Prop} {o : Oper} {rest : List Oper} {a : Act} {w : World} (h : wpList P ops (Exit.then (fun a' w' => (∃ x, w' = Wf x) ∧ wpActs P ops Q Wf T rest a' w') Q) [o] a w) : wpActs P ops Q Wf T (o :: rest) a w := h
theorem wpActs_nil {T : Act → World → Prop} {a : Act} {w : World} (h : T a w) : wpActs P ops Q Wf T [] a w := h
theorem letsOut_then {K : Act → World → Prop} (h : LetsOut (Exit.then K Q)) : LetsOut Q := h
theorem wpOp_of_list {i : Nat} {o : Oper} {K : Act → World → Prop} {a : Act} {w : World} (hi : ops[i]? = some o) (h : wpList P ops (Exit.then K Q) [o] a w) : wpOp P ops Q i K a w := by
  unfold wpList at h
  unfold wpOp
  simp only [hi]
  split
  · rename_i hw
    rw [if_pos hw] at h
    rcases h with h | h
    · exact .inl h
    · exact .inr h
  · rename_i hw
    rw [if_neg hw] at h
    exact h

theorem headH_acts {n g : Nat} {T : Act → World → Prop} {l : List Oper} (hl : ops = l.toArray) : ∀ (ks : List Nat) (done : Array Bool) (a : Act) (w : World), actsB md ops n g ks done = true →
    (∀ k ∈ ks, k < l.length) → wpActs P ops Q Wf T (pickOps l ks) a w →
    headH P md ops Q Wf n (fun done' a' w' => Region.seqB md ops g n done' = true ∧ T a' w') ks.length done a w
  | [], done, a, w, hB, _, h => ⟨hB, h⟩
  | k :: ks, done, a, w, hB, hk, h => by
    simp only [actsB, Bool.and_eq_true, decide_eq_true_eq] at hB
    obtain ⟨⟨h1, h2⟩, h3⟩ := hB
    have hkl := hk k (by simp)
    obtain ⟨o, ho⟩ : ∃ o, l[k]? = some o := ⟨_, List.getElem?_eq_getElem hkl⟩
    have ho' : ops[k]? = some o := by rw [hl]; simpa using ho
    have hp : pickOps l (k :: ks) = o :: pickOps l ks := by simp [pickOps, ho]
    rw [hp] at h
    refine ⟨by rw [h2]; simp, fun i hi => ?_⟩
    rw [h2] at hi
    have e : i = k := by simpa using hi
    subst e
    refine ⟨h1, wpOp_mono (fun a' w' h' => ⟨h'.1, headH_acts hl ks _ a' w' h3 (fun j hj => hk j (by simp [hj])) h'.2⟩) (wpOp_of_list ho' h)⟩

theorem headH_reads {n f : Nat} {L : Array Bool → Act → World → Prop} {l : List Oper} (hl : ops = l.toArray) (hsel : Region.noSelect ops = true)
    (hs : Region.sinkB md ops n = true) (hc : Region.chainB md ops n = true) (hn : n < ops.size) (hL : ∀ done a w, L done a w → ∀ j ∈ Region.ready md ops done, n ≤ j)
    (hQ : ∀ c a d v w, Q (.panic c) (Act.put a d v) w → Q (.panic c) a w) : ∀ (ks : List Nat) (done : Array Bool) (a : Act) (w : World), HeadInv md ops n done → readsB md ops n ks done = true →
    (∀ k ∈ ks, k < l.length) → (∃ x, w = Wf x) → wpReads P ops Wf (fun a' => headH P md ops Q Wf n L f (setAll ks done) a' w) (pickOps l ks) a →
    headH P md ops Q Wf n L (ks.length + f) done a w
  | [], done, a, w, _, _, _, _, h => by rw [List.length_nil, Nat.zero_add]; exact h
  | k :: ks, done, a, w, inv, hB, hk, hS, h => by
    simp only [readsB, Bool.and_eq_true, decide_eq_true_eq, List.contains_iff_mem] at hB
    obtain ⟨⟨⟨h1, h2⟩, h3⟩, h4⟩ := hB
    have hkl := hk k (by simp)
    obtain ⟨o, ho⟩ : ∃ o, l[k]? = some o := ⟨_, List.getElem?_eq_getElem hkl⟩
    have ho' : ops[k]? = some o := by rw [hl]; simpa using ho
    have hp : pickOps l (k :: ks) = o :: pickOps l ks := by simp [pickOps, ho]
    rw [hp] at h
    rw [List.length_cons, show ks.length + 1 + f = (ks.length + f) + 1 by omega]
    unfold wpReads rOp at h
    by_cases hw : Region.wanted o (yielded ops a.tmps) = true
    · rw [if_pos hw] at h
      obtain ⟨v, hv, hK⟩ := h
      refine headH_first (v := v) ho' hsel hs hc hn h1 hL hQ (ks.length + f) done a w inv (Region.free_spec ho' h3) h2 (.inl ⟨hw, ?_⟩) hS ?_
      · rintro w' ⟨x, rfl⟩; exact hv x
      · exact headH_reads hl hsel hs hc hn hL hQ ks _ _ w (inv.set h2 h1) h4 (fun j hj => hk j (by simp [hj])) hS hK
    · rw [if_neg hw] at h
      refine headH_first (v := undef) ho' hsel hs hc hn h1 hL hQ (ks.length + f) done a w inv (Region.free_spec ho' h3) h2 (.inr ⟨by simpa using hw, rfl⟩) hS ?_
      exact headH_reads hl hsel hs hc hn hL hQ ks _ _ w (inv.set h2 h1) h4 (fun j hj => hk j (by simp [hj])) hS h

/-- All that is asked of the region's form. -/
def headFormB (l : List Oper) (n : Nat) (ks acts : List Nat) : Bool :=
  Region.noSelect l.toArray && decide (n < l.length) && Region.sinkB .any l.toArray n && Region.chainB .any l.toArray n && decide (ks.length + acts.length = n) &&
    ks.all (fun k => decide (k < l.length)) && acts.all (fun k => decide (k < l.length)) && readsB .any l.toArray n ks (Array.replicate l.length false) &&
    actsB .any l.toArray n (l.length - n) acts (setAll ks (Array.replicate l.length false))
theorem wpAny_reads {a : Act} {w : World} {l : List Oper} (n : Nat) (ks acts : List Nat) (hB : headFormB l n ks acts = true)
    (hQ : ∀ c a d v w, Q (.panic c) (Act.put a d v) w → Q (.panic c) a w) (hS : ∃ x, w = Wf x)
    (h : wpReads P l.toArray Wf (fun a' => wpActs P l.toArray Q Wf (wpList P l.toArray Q (l.drop n)) (pickOps l acts) a' w) (pickOps l ks) a) :
    wpAny P .any l.toArray Q l.toArray.size (Array.replicate l.toArray.size false) a w := by
  simp only [headFormB, Bool.and_eq_true, decide_eq_true_eq] at hB
  obtain ⟨⟨⟨⟨⟨⟨⟨⟨hsel, hn⟩, hs⟩, hc⟩, hlen⟩, hk1⟩, hk2⟩, hr⟩, ha⟩ := hB
  have hk1' : ∀ k ∈ ks, k < l.length := fun k hk => by simpa using List.all_eq_true.1 hk1 k hk
  have hk2' : ∀ k ∈ acts, k < l.length := fun k hk => by simpa using List.all_eq_true.1 hk2 k hk
  have inv0 : HeadInv .any l.toArray n (Array.replicate l.length false) :=
    ⟨by simp, fun j oj _ hl => (by rw [getD_replicate_false] at hl; cases hl), fun t _ ht => getD_in (by simpa using ht) (getD_replicate_false _ _)⟩
  have mono : ∀ (l' : List Oper) (R R' : Act → Prop) (a : Act), (∀ a, R a → R' a) → wpReads P l.toArray Wf R l' a → wpReads P l.toArray Wf R' l' a := by
    intro l'
    induction l' with
    | nil => intro R R' a hR h; exact hR _ h
    | cons o l' ih =>
      intro R R' a hR h
      unfold wpReads rOp at h ⊢
      split
      · rename_i hw
        rw [if_pos hw] at h
        obtain ⟨v, h1, h2⟩ := h
        exact ⟨v, h1, ih R R' _ hR h2⟩
      · rename_i hw
        rw [if_neg hw] at h
        exact ih R R' _ hR h
  have H := headH_reads (P := P) (Q := Q) (Wf := Wf) (f := acts.length) (L := fun done' a' w' => Region.seqB .any l.toArray (l.length - n) n done' = true ∧ wpList P l.toArray Q (l.drop n) a' w') rfl hsel hs hc (by simpa using hn)
    (fun done a w hL j hj => seqB_ready hL.1 j hj) hQ ks (Array.replicate l.length false) a w inv0 hr hk1' hS
    (mono _ _ _ a (fun a' h' => headH_acts rfl acts _ a' w ha hk2' h') h)
  have K := headH_sound (g := l.length - n) (fun done a' w' hL => by
    have := wpAny_of_seq (P := P) (md := .any) (Q' := Q) (l.drop n) n done a' w' (fun j => by simp [List.getElem?_drop]) (by simpa using hL.1) hL.2
    simpa using this) _ _ _ _ H
  rw [hlen, show n + (l.length - n) = l.length by omega] at K
  simpa using K
theorem wp_region_reads {id : Nat} {a : Act} {w : World} {l : List Oper} (n : Nat) (ks acts : List Nat) (hm : P.follows .mixedOrders = true) (hB : headFormB l n ks acts = true)
    (hQ : ∀ c a d v w, Q (.panic c) (Act.put a d v) w → Q (.panic c) a w) (hS : ∃ x, w.drew = Wf x)
    (h : wpReads P l.toArray Wf (fun a' => wpActs P l.toArray Q Wf (wpList P l.toArray Q (l.drop n)) (pickOps l acts) a' w.drew) (pickOps l ks) a) : (Code.region id l.toArray true).wp P Q a w :=
  wp_region_any hm (wpAny_reads n ks acts hB hQ hS h)

/-! A region within a round. -/
theorem rowsIn_wide {n : Nat} {row : String} {args : Array Value} {w : World} {R : Value → World → Prop} (h : Rows P row args w R) : RowsIn Fence.wide n P row args w R := fun c cs _ => by
  obtain ⟨v, w', hr, hs⟩ := h c cs
  exact ⟨v, w', hr, stepsIn_wide.2 hs⟩
def noDeferB (ops : List Oper) : Bool := ops.all fun o => match o.op with | .defer _ => false | _ => true
theorem noDeferB_spec {l : List Oper} (h : noDeferB l = true) {o : Oper} (ho : o ∈ l) : ∀ c, o.op ≠ .defer c := fun c hc => by
  have := List.all_eq_true.1 h o ho
  rw [hc] at this
  cases this
theorem wpOpIn_of {n l : Nat} {o : Oper} {K K' : Act → World → Prop} {a : Act} {w : World} (hQO : ∀ a w, ¬ Q .outgrown a w) (hnd : ∀ c, o.op ≠ .defer c) (hK : ∀ a w, K a w → K' a w)
    (h : o.wp P a w K Q) : o.wpIn (Fence.wide.inRound l) n P a w K' Q := by
  unfold Oper.wp at h
  unfold Oper.wpIn
  refine ⟨fun _ _ => trivial, ?_⟩
  rw [Fence.inRound_round, Oper.semAt_some _ _ _ hnd]
  have hno : ¬ LetsOut Q := fun ⟨a, w, hq⟩ => hQO a w hq
  generalize (execOp a.eval o).run P w = r at *
  cases r with
  | ok x w' =>
    cases x <;> simp only [Oper.upon] at h <;> simp only [Oper.uponIn]
    case value v => exact hK _ _ h
    case skip => exact hK _ _ h
    case defer d => exact hK _ _ h
    case enter f args =>
      refine ⟨(fun h => by cases h), CallsIn.inRound l (callsIn_wide.2 (h.mono fun e w'' he => ?_))⟩
      cases e with
      | returned v => exact hK _ _ he
      | panicked c => exact he
      | outgrown => exact he
    case row row args => exact ⟨(fun h => by cases h), (RowsIn.mono (rowsIn_wide h) fun v w'' he => hK _ _ he : RowsIn Fence.wide (n - 1) P row args w' _)⟩
  | halt x w' => cases x <;> simp only [Oper.upon] at h <;> simp only [Oper.uponIn] <;> exact h
theorem wpAnyIn_of {n l : Nat} (hQO : ∀ a w, ¬ Q .outgrown a w) (hnd : ∀ (i : Nat) (o : Oper), ops[i]? = some o → ∀ c, o.op ≠ .defer c) : ∀ (f : Nat) (done : Array Bool) (a : Act) (w : World),
    wpAny P md ops Q f done a w → wpAnyIn (Fence.wide.inRound l) n P md ops Q f done a w
  | 0, _, _, _, h => h
  | f + 1, done, a, w, h => by
    refine ⟨h.1, fun i hi => ?_⟩
    have h1 := h.2 i hi
    unfold wpOp at h1
    unfold wpOpIn
    cases ho : ops[i]? with
    | none => rw [ho] at h1; exact wpAnyIn_of hQO hnd f _ a w h1
    | some o =>
      rw [ho] at h1
      simp only at h1 ⊢
      split
      · rename_i hw
        rw [if_pos hw] at h1
        rcases h1 with h1 | ⟨_, h2⟩
        · exact wpOpIn_of hQO (hnd i o ho) (fun a w h => wpAnyIn_of hQO hnd f _ a w h) h1
        · exact absurd h2 (fun ⟨a, w, hq⟩ => hQO a w hq)
      · rename_i hw
        rw [if_neg hw] at h1
        exact ⟨fun _ _ => trivial, wpAnyIn_of hQO hnd f _ _ w h1⟩
/-- A region that draws, within a round, walked as anywhere. -/
theorem wpIn_region_round {n k id : Nat} {a : Act} {w : World} {l : List Oper} (hm : P.follows .mixedOrders = true) (hnd : noDeferB l = true) (hQO : ∀ a w, ¬ Q .outgrown a w)
    (h : wpAny P .any l.toArray Q l.toArray.size (Array.replicate l.toArray.size false) a w.drew) : (Code.region id l.toArray true).wpIn (Fence.wide.inRound k) n P Q a w :=
  wpIn_region_any hm (wpAnyIn_of hQO (fun i o hi => noDeferB_spec hnd (by simpa using Array.mem_of_getElem? hi)) _ _ _ _ h)
/-- The head of such a region only reads (and may draw); the rest is forced. -/
theorem wpAny_head {a : Act} {w : World} {C : World → Prop} {l : List Oper} (n : Nat) (hB : Region.lexTailB .any l.toArray n = true) (hC : C w)
    (h : wpQuiet P l.toArray C (fun a' => ∀ w', C w' → wpList P l.toArray Q (l.drop n) a' w') (l.take n) a) : wpAny P .any l.toArray Q l.toArray.size (Array.replicate l.toArray.size false) a w := by
  simp only [Region.lexTailB, Bool.and_eq_true, decide_eq_true_eq, List.size_toArray] at hB
  obtain ⟨⟨⟨⟨hsel, hn⟩, hs⟩, hc⟩, hlex⟩ := hB
  have htl : (l.take n).length = n := by simp; omega
  have inv0 : HeadInv .any l.toArray n (Array.replicate l.length false) :=
    ⟨by simp, fun j oj _ hl => (by rw [getD_replicate_false] at hl; cases hl), fun t _ ht => getD_in (by simpa using ht) (getD_replicate_false _ _)⟩
  have H := headRun_text (P := P) (C := C) (R := fun a' => ∀ w', C w' → wpList P l.toArray Q (l.drop n) a' w') (g := l.length - n) hsel hs hc (by simpa using hn) (l.take n) 0 _ a
    (fun j hj => by have hj' : j < n := by omega
                    simp [hj']) (by omega) inv0 (by rw [htl]; exact hlex) h
  have K := headRun_sound (Q := Q) (g := l.length - n) (fun done a' w' hw' hL => by
    have := wpAny_of_seq (P := P) (md := .any) (Q' := Q) (l.drop n) n done a' w' (fun j => by simp [List.getElem?_drop]) (by simpa using hL.1) (hL.2 w' hw')
    simpa using this) _ _ _ _ hC H
  rw [htl, show n + (l.length - n) = l.length by omega] at K
  simpa using K
theorem wpIn_region_head {n k id : Nat} {a : Act} {w : World} {l : List Oper} (m : Nat) (hm : P.follows .mixedOrders = true) (hB : Region.lexTailB .any l.toArray m = true) (hnd : noDeferB l = true) (hQO : ∀ a w, ¬ Q .outgrown a w)
    (h : wpQuiet P l.toArray (fun w' => ∃ n, w' = w.drewN n) (fun a' => ∀ w', (∃ n, w' = w.drewN n) → wpList P l.toArray Q (l.drop m) a' w') (l.take m) a) : (Code.region id l.toArray true).wpIn (Fence.wide.inRound k) n P Q a w :=
  wpIn_region_round hm hnd hQO (wpAny_head m hB ⟨1, rfl⟩ h)
theorem wpIn_region_readsR {n k id : Nat} {a : Act} {w : World} {l : List Oper} (m : Nat) (ks acts : List Nat) (hm : P.follows .mixedOrders = true) (hB : headFormB l m ks acts = true) (hnd : noDeferB l = true) (hQO : ∀ a w, ¬ Q .outgrown a w)
    (hQ : ∀ c a d v w, Q (.panic c) (Act.put a d v) w → Q (.panic c) a w) (hS : ∃ x, w.drew = Wf x)
    (h : wpReads P l.toArray Wf (fun a' => wpActs P l.toArray Q Wf (wpList P l.toArray Q (l.drop m)) (pickOps l acts) a' w.drew) (pickOps l ks) a) : (Code.region id l.toArray true).wpIn (Fence.wide.inRound k) n P Q a w :=
  wpIn_region_round hm hnd hQO (wpAny_reads m ks acts hB hQ hS h)
end
/-- Worlds that meet a condition, as a family. -/
theorem family (S : World → Prop) (w0 : World) (h0 : S w0) : ∃ (X : Type) (Wf : X → World), Nonempty X ∧ (∀ x, S (Wf x)) ∧ ∀ w, S w → ∃ x, w = Wf x :=
  ⟨{ w : World // S w }, Subtype.val, ⟨⟨w0, h0⟩⟩, fun x => x.2, fun w h => ⟨⟨w, h⟩, rfl⟩⟩
end Go.Proofs.YtaelfjlmkgimhaaGreatDoor

namespace Go.Proofs.YtaelfjlmkgimhaaGreatDoor
open Go

section
variable {P : Program} {ops : Array Oper} {md : Region.Mode} {X : Type} {Wf : X → World} {Q : Exit → Act → World → Prop}

def acts2B (md : Region.Mode) (ops : Array Oper) (n g : Nat) (i j : Nat) (rest : List Nat) (done : Array Bool) : Bool :=
  decide (i < n) && decide (j < n) && decide (Region.ready md ops done = [i, j]) && actsB md ops n g (j :: rest) (done.setIfInBounds i true) && actsB md ops n g (i :: rest) (done.setIfInBounds j true)
theorem headH_acts2 {n g : Nat} {T : Act → World → Prop} {l : List Oper} (hl : ops = l.toArray) (i j : Nat) (rest : List Nat) (done : Array Bool) (a : Act) (w : World) (hB : acts2B md ops n g i j rest done = true)
    (hk : ∀ k ∈ i :: j :: rest, k < l.length) (h1 : wpActs P ops Q Wf T (pickOps l (i :: j :: rest)) a w) (h2 : wpActs P ops Q Wf T (pickOps l (j :: i :: rest)) a w) :
    headH P md ops Q Wf n (fun done' a' w' => Region.seqB md ops g n done' = true ∧ T a' w') (i :: j :: rest).length done a w := by
  simp only [acts2B, Bool.and_eq_true, decide_eq_true_eq] at hB
  obtain ⟨⟨⟨⟨b1, b2⟩, b3⟩, b4⟩, b5⟩ := hB
  obtain ⟨oi, hoi⟩ : ∃ o, l[i]? = some o := ⟨_, List.getElem?_eq_getElem (hk i (by simp))⟩
  obtain ⟨oj, hoj⟩ : ∃ o, l[j]? = some o := ⟨_, List.getElem?_eq_getElem (hk j (by simp))⟩
  have p1 : pickOps l (i :: j :: rest) = oi :: pickOps l (j :: rest) := by simp [pickOps, hoi]
  have p2 : pickOps l (j :: i :: rest) = oj :: pickOps l (i :: rest) := by simp [pickOps, hoj]
  rw [p1] at h1
  rw [p2] at h2
  refine ⟨by rw [b3]; simp, fun k hkr => ?_⟩
  rw [b3] at hkr
  simp only [List.mem_cons, List.not_mem_nil, or_false] at hkr
  rcases hkr with rfl | rfl
  · exact ⟨b1, wpOp_mono (fun a' w' h' => ⟨h'.1, headH_acts hl (j :: rest) _ a' w' b4 (fun m hm => hk m (List.mem_cons_of_mem _ hm)) h'.2⟩) (wpOp_of_list (by rw [hl]; simpa using hoi) h1)⟩
  · exact ⟨b2, wpOp_mono (fun a' w' h' => ⟨h'.1, headH_acts hl (i :: rest) _ a' w' b5 (fun m hm => hk m (by rcases List.mem_cons.1 hm with e | e; exact e ▸ List.mem_cons_self; exact List.mem_cons_of_mem _ (List.mem_cons_of_mem _ e))) h'.2⟩) (wpOp_of_list (by rw [hl]; simpa using hoj) h2)⟩
def headForm2B (l : List Oper) (n : Nat) (ks : List Nat) (i j : Nat) (rest : List Nat) : Bool :=
  Region.noSelect l.toArray && decide (n < l.length) && Region.sinkB .any l.toArray n && Region.chainB .any l.toArray n && decide (ks.length + (rest.length + 2) = n) &&
    ks.all (fun k => decide (k < l.length)) && (i :: j :: rest).all (fun k => decide (k < l.length)) && readsB .any l.toArray n ks (Array.replicate l.length false) &&
    acts2B .any l.toArray n (l.length - n) i j rest (setAll ks (Array.replicate l.length false))
theorem wpReads_mono : ∀ (l' : List Oper) (R R' : Act → Prop) (a : Act), (∀ a, R a → R' a) → wpReads P ops Wf R l' a → wpReads P ops Wf R' l' a := by
  intro l'
  induction l' with
  | nil => intro R R' a hR h; exact hR _ h
  | cons o l' ih =>
    intro R R' a hR h
    unfold wpReads rOp at h ⊢
    split
    · rename_i hw
      rw [if_pos hw] at h
      obtain ⟨v, h1, h2⟩ := h
      exact ⟨v, h1, ih R R' _ hR h2⟩
    · rename_i hw
      rw [if_neg hw] at h
      exact ih R R' _ hR h
theorem wpAny_reads2 {a : Act} {w : World} {l : List Oper} (n : Nat) (ks : List Nat) (i j : Nat) (rest : List Nat) (hB : headForm2B l n ks i j rest = true)
    (hQ : ∀ c a d v w, Q (.panic c) (Act.put a d v) w → Q (.panic c) a w) (hS : ∃ x, w = Wf x)
    (h : wpReads P l.toArray Wf (fun a' => wpActs P l.toArray Q Wf (wpList P l.toArray Q (l.drop n)) (pickOps l (i :: j :: rest)) a' w ∧ wpActs P l.toArray Q Wf (wpList P l.toArray Q (l.drop n)) (pickOps l (j :: i :: rest)) a' w) (pickOps l ks) a) :
    wpAny P .any l.toArray Q l.toArray.size (Array.replicate l.toArray.size false) a w := by
  simp only [headForm2B, Bool.and_eq_true, decide_eq_true_eq] at hB
  obtain ⟨⟨⟨⟨⟨⟨⟨⟨hsel, hn⟩, hs⟩, hc⟩, hlen⟩, hk1⟩, hk2⟩, hr⟩, ha⟩ := hB
  have hk1' : ∀ k ∈ ks, k < l.length := fun k hk => by simpa using List.all_eq_true.1 hk1 k hk
  have hk2' : ∀ k ∈ i :: j :: rest, k < l.length := fun k hk => by simpa using List.all_eq_true.1 hk2 k hk
  have inv0 : HeadInv .any l.toArray n (Array.replicate l.length false) :=
    ⟨by simp, fun j oj _ hl => (by rw [getD_replicate_false] at hl; cases hl), fun t _ ht => getD_in (by simpa using ht) (getD_replicate_false _ _)⟩
  have H := headH_reads (P := P) (Q := Q) (Wf := Wf) (f := (i :: j :: rest).length) (L := fun done' a' w' => Region.seqB .any l.toArray (l.length - n) n done' = true ∧ wpList P l.toArray Q (l.drop n) a' w') rfl hsel hs hc (by simpa using hn)
    (fun done a w hL j hj => seqB_ready hL.1 j hj) hQ ks (Array.replicate l.length false) a w inv0 hr hk1' hS
    (wpReads_mono _ _ _ a (fun a' h' => headH_acts2 rfl i j rest _ a' w ha hk2' h'.1 h'.2) h)
  have K := headH_sound (g := l.length - n) (fun done a' w' hL => by
    have := wpAny_of_seq (P := P) (md := .any) (Q' := Q) (l.drop n) n done a' w' (fun j => by simp [List.getElem?_drop]) (by simpa using hL.1) hL.2
    simpa using this) _ _ _ _ H
  rw [List.length_cons, List.length_cons, show ks.length + (rest.length + 1 + 1) + (l.length - n) = l.length by omega] at K
  simpa using K
theorem wp_region_reads2 {id : Nat} {a : Act} {w : World} {l : List Oper} (n : Nat) (ks : List Nat) (i j : Nat) (rest : List Nat) (hm : P.follows .mixedOrders = true) (hB : headForm2B l n ks i j rest = true)
    (hQ : ∀ c a d v w, Q (.panic c) (Act.put a d v) w → Q (.panic c) a w) (hS : ∃ x, w.drew = Wf x)
    (h : wpReads P l.toArray Wf (fun a' => wpActs P l.toArray Q Wf (wpList P l.toArray Q (l.drop n)) (pickOps l (i :: j :: rest)) a' w.drew ∧ wpActs P l.toArray Q Wf (wpList P l.toArray Q (l.drop n)) (pickOps l (j :: i :: rest)) a' w.drew) (pickOps l ks) a) : (Code.region id l.toArray true).wp P Q a w :=
  wp_region_any hm (wpAny_reads2 n ks i j rest hB hQ hS h)
theorem wpIn_region_reads2R {n k id : Nat} {a : Act} {w : World} {l : List Oper} (m : Nat) (ks : List Nat) (i j : Nat) (rest : List Nat) (hm : P.follows .mixedOrders = true) (hB : headForm2B l m ks i j rest = true) (hnd : noDeferB l = true) (hQO : ∀ a w, ¬ Q .outgrown a w)
    (hQ : ∀ c a d v w, Q (.panic c) (Act.put a d v) w → Q (.panic c) a w) (hS : ∃ x, w.drew = Wf x)
    (h : wpReads P l.toArray Wf (fun a' => wpActs P l.toArray Q Wf (wpList P l.toArray Q (l.drop m)) (pickOps l (i :: j :: rest)) a' w.drew ∧ wpActs P l.toArray Q Wf (wpList P l.toArray Q (l.drop m)) (pickOps l (j :: i :: rest)) a' w.drew) (pickOps l ks) a) : (Code.region id l.toArray true).wpIn (Fence.wide.inRound k) n P Q a w :=
  wpIn_region_round hm hnd hQO (wpAny_reads2 m ks i j rest hB hQ hS h)
end
end Go.Proofs.YtaelfjlmkgimhaaGreatDoor
