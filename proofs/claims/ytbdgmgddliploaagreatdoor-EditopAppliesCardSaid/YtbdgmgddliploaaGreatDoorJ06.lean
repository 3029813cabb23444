/- Joined: Head. -/
import Derived.StillTail
import Derived.StillTailTactics
import Derived.Deep.QuietTactic
import Derived.BigQuiet
import Derived.OrdersIn
import Derived.OrdersHeld
import Derived.OwnWalkIn
import Derived.RangeFuncCalls
set_option linter.unusedVariables false
set_option linter.unusedSimpArgs false
set_option maxRecDepth 100000
set_option maxHeartbeats 16000000
namespace Go.Proofs.YtbdgmgddliploaaGreatDoor
open Go

section
variable {P : Program} {ops : Array Oper} {md : Region.Mode} {C : World -> Prop}

/-- f operations of the head are still to come, in whatever order; then L. -/
def headRun (P : Program) (md : Region.Mode) (ops : Array Oper) (C : World -> Prop) (n : Nat) (L : Array Bool -> Act -> Prop) : Nat -> Array Bool -> Act -> Prop
  | 0, done, a => L done a
  | f + 1, done, a => Region.ready md ops done ≠ [] /\ ∀ i, i ∈ Region.ready md ops done -> i < n /\ qOp P ops C i (headRun P md ops C n L f (done.setIfInBounds i true)) a

theorem headRun_sound {n g : Nat} {L : Array Bool -> Act -> Prop} {Q : Exit -> Act -> World -> Prop} (hL : ∀ done a w, C w -> L done a -> wpAny P md ops Q g done a w) :
    ∀ f done a w, C w -> headRun P md ops C n L f done a -> wpAny P md ops Q (f + g) done a w := by
  intro f
  induction f with
  | zero => intro done a w hw h; rw [Nat.zero_add]; exact hL _ _ _ hw h
  | succ f ih =>
    intro done a w hw h
    rw [show f + 1 + g = (f + g) + 1 by omega]
    exact ⟨fun h0 => absurd h0 h.1, fun i hi => wpOp_of_qOp hw (fun a' w' hw' h' => ih _ a' w' hw' h') (h.2 i hi).2⟩

/-- The operation that stands first in the text may be taken first. -/
theorem headRun_first {n i : Nat} {oi : Oper} {v : Value} {L : Array Bool -> Act -> Prop} (hi : ops[i]? = some oi) (hsel : Region.noSelect ops = true)
    (hs : Region.sinkB md ops n = true) (hc : Region.chainB md ops n = true) (hn : n < ops.size) (hin : i < n) (hL : ∀ done a, L done a -> ∀ j ∈ Region.ready md ops done, n <= j) :
    ∀ f done a, HeadInv md ops n done ->
      (∀ j oj, ops[j]? = some oj -> j ≠ i -> done.getD j true = false -> (∀ e ∈ oj.after, Region.binds md e = true -> e.on ≠ i) -> oi.apart ops oj = true) ->
      i ∈ Region.ready md ops done -> YieldsIn P ops C oi v a ->
      headRun P md ops C n L f (done.setIfInBounds i true) (a.put oi.dst v) -> headRun P md ops C n L (f + 1) done a := by
  have head : ∀ {done : Array Bool}, HeadInv md ops n done -> i ∈ Region.ready md ops done -> ∀ j ∈ Region.ready md ops done, j < n := by
    intro done inv hr j hj
    rcases Nat.lt_or_ge j n with h | h
    · exact h
    · exact absurd hj (tail_waits hs hc hn inv _ i rfl hin (mem_ready.1 hr).1 j h)
  intro f
  induction f with
  | zero =>
    intro done a inv _ hr hy H
    refine ⟨List.ne_nil_of_mem hr, fun j hj => ⟨head inv hr j hj, ?_⟩⟩
    by_cases e : j = i
    · subst e; exact hy.qOp hi H
    · have h1 := hL _ _ H j (ready_mono hj e)
      have h2 := head inv hr j hj
      omega
  | succ f ih =>
    intro done a inv hfree hr hy H
    refine ⟨List.ne_nil_of_mem hr, fun j hj => ⟨head inv hr j hj, ?_⟩⟩
    by_cases e : j = i
    · subst e; exact hy.qOp hi H
    obtain ⟨hjun, oj, hoj, hall⟩ := mem_ready.1 hj
    have hno : ∀ e ∈ oj.after, Region.binds md e = true -> e.on ≠ i := fun e he hb heq => by
      have h1 := hall e he hb
      rw [heq, getD_both (mem_ready.1 hr).1] at h1
      cases h1
    have h2 := qOp_put hoj (hfree j oj hoj e hjun hno) (fun cs b => Region.noSelect_spec hsel i oi cs b hi) (fun cs b => Region.noSelect_spec hsel j oj cs b hoj) hy (H.2 j (ready_mono hj e)).2
    refine qOp_mono (fun a' h3 => ih (done.setIfInBounds j true) a' (inv.set hj (head inv hr j hj)) (fun k ok hk hki hun hk' => hfree k ok hk hki ?_ hk') (ready_mono hr (Ne.symm e)) h3.1 ?_) h2
    · by_cases hjk : j = k
      · subst hjk; exact hjun
      · rwa [getD_set_ne true hjk] at hun
    · rw [Array.setIfInBounds_comm _ _ e]
      exact h3.2

theorem headRun_text {n g : Nat} {R : Act -> Prop} (hsel : Region.noSelect ops = true) (hs : Region.sinkB md ops n = true) (hc : Region.chainB md ops n = true) (hn : n < ops.size) :
    ∀ (l : List Oper) (k : Nat) (done : Array Bool) (a : Act), (∀ j, j < l.length -> l[j]? = ops[k + j]?) -> k + l.length = n -> HeadInv md ops n done ->
    Region.lexHead md ops g l.length k done = true -> wpQuiet P ops C R l a ->
    headRun P md ops C n (fun done' a' => Region.seqB md ops g n done' = true /\ R a') l.length done a := by
  intro l
  induction l with
  | nil =>
    intro k done a _ hk _ hB h
    obtain rfl : k = n := by simpa using hk
    exact ⟨hB, h⟩
  | cons o l ih =>
    intro k done a hl hk inv hB h
    have h0 : ops[k]? = some o := by simpa using (hl 0 (by simp)).symm
    simp only [List.length_cons, Region.lexHead, Bool.and_eq_true, List.contains_iff_mem] at hB
    simp only [List.length_cons] at hk
    obtain ⟨⟨hr, hf⟩, hB'⟩ := hB
    obtain ⟨v, hy, hK⟩ := yieldsIn_of_qOp (K := wpQuiet P ops C R l) h0 (by unfold qOp; simp only [h0]; exact h)
    exact headRun_first h0 hsel hs hc hn (by omega) (fun _ _ hL => seqB_ready hL.1) l.length done a inv (Region.free_spec h0 hf) hr hy
      (ih (k + 1) _ _ (fun j hj => by have := hl (j + 1) (by simp; omega); simpa [Nat.add_assoc, Nat.add_comm 1 j] using this) (by omega) (inv.set hr (by omega)) hB' hK)

/-- One walk in the order of the text serves every order. -/
theorem wp_region_head {id : Nat} {Q : Exit -> Act -> World -> Prop} {a : Act} {w : World} {l : List Oper} (n : Nat) (hm : P.follows .mixedOrders = true) (hB : Region.lexTailB .any l.toArray n = true)
    (hC : C { w with drawn := w.drawn + 1 })
    (h : wpQuiet P l.toArray C (fun a' => ∀ w', C w' -> wpList P l.toArray Q (l.drop n) a' w') (l.take n) a) : (Code.region id l.toArray true).wp P Q a w := by
  simp only [Region.lexTailB, Bool.and_eq_true, decide_eq_true_eq, List.size_toArray] at hB
  obtain ⟨⟨⟨⟨hsel, hn⟩, hs⟩, hc⟩, hlex⟩ := hB
  have htl : (l.take n).length = n := by simp; omega
  have inv0 : HeadInv .any l.toArray n (Array.replicate l.length false) :=
    ⟨by simp, fun j oj _ hl => (by rw [getD_replicate_false] at hl; cases hl), fun t _ ht => getD_in (by simpa using ht) (getD_replicate_false _ _)⟩
  have H := headRun_text (P := P) (C := C) (R := fun a' => ∀ w', C w' -> wpList P l.toArray Q (l.drop n) a' w') (g := l.length - n) hsel hs hc (by simpa using hn) (l.take n) 0 _ a
    (fun j hj => by have hj' : j < n := by omega
                    simp [hj']) (by omega) inv0 (by rw [htl]; exact hlex) h
  refine wp_region_any hm ?_
  have K := headRun_sound (Q := Q) (g := l.length - n) (fun done a' w' hw' hL => by
    have := wpAny_of_seq (P := P) (md := .any) (Q' := Q) (l.drop n) n done a' w' (fun j => by simp [List.getElem?_drop]) (by simpa using hL.1) (hL.2 w' hw')
    simpa using this) _ _ _ _ hC H
  rw [htl, show n + (l.length - n) = l.length by omega] at K
  simpa using K

/-- The same at the class 'w after some draws'. -/
theorem wp_region_head_drew {id : Nat} {Q : Exit -> Act -> World -> Prop} {a : Act} {w : World} {l : List Oper} (n : Nat) (hm : P.follows .mixedOrders = true) (hB : Region.lexTailB .any l.toArray n = true)
    (h : wpQuiet P l.toArray (fun w' => ∃ n, w' = w.drewN n) (fun a' => ∀ w', (∃ n, w' = w.drewN n) -> wpList P l.toArray Q (l.drop n) a' w') (l.take n) a) : (Code.region id l.toArray true).wp P Q a w :=
  wp_region_head (C := fun w' => ∃ n, w' = w.drewN n) n hm hB ⟨1, rfl⟩ h
end
end Go.Proofs.YtbdgmgddliploaaGreatDoor

/- A region that draws its order: what only reads is taken first, whatever the others write that it does not read; the last operations follow in one forced order. And: a region within a round of a loop over an iterator, walked as anywhere. -/
namespace Go.Proofs.YtbdgmgddliploaaGreatDoor
open Go

section
variable {P : Program} {ops : Array Oper} {md : Region.Mode} {X : Type} {Wf : X -> World} {Q : Exit -> Act -> World -> Prop}

/-- One operation that only reads, in every world of the family. -/
def rOp (P : Program) (ops : Array Oper) (Wf : X -> World) (o : Oper) (a : Act) (next : Act -> Prop) : Prop :=
  if Region.wanted o (yielded ops a.tmps) then ∃ v, (∀ x, (execOp a.eval o).run P (Wf x) = .ok (.value v) (Wf x)) /\ next (a.put o.dst v) else next (a.put o.dst undef)
def wpReads (P : Program) (ops : Array Oper) (Wf : X -> World) (R : Act -> Prop) : List Oper -> Act -> Prop
  | [], a => R a
  | o :: rest, a => rOp P ops Wf o a (wpReads P ops Wf R rest)
theorem wpReads_nil {R : Act -> Prop} {a : Act} (h : R a) : wpReads P ops Wf R [] a := h
theorem wpReads_step {R : Act -> Prop} {o : Oper} {rest : List Oper} {a : Act} (h : ∀ K : Act -> Prop, (∀ a, wpReads P ops Wf R rest a -> K a) -> rOp P ops Wf o a K) : wpReads P ops Wf R (o :: rest) a := h _ (fun _ h => h)

/-- f operations of the head are still to come, in whatever order, each leaving a world of the family; then L. -/
def headH (P : Program) (md : Region.Mode) (ops : Array Oper) (Q : Exit -> Act -> World -> Prop) (Wf : X -> World) (n : Nat) (L : Array Bool -> Act -> World -> Prop) : Nat -> Array Bool -> Act -> World -> Prop
  | 0, done, a, w => L done a w
  | f + 1, done, a, w => Region.ready md ops done ≠ [] /\ ∀ i, i ∈ Region.ready md ops done -> i < n /\ wpOp P ops Q i (fun a' w' => (∃ x, w' = Wf x) /\ headH P md ops Q Wf n L f (done.setIfInBounds i true) a' w') a w

theorem headH_sound {n g : Nat} {L : Array Bool -> Act -> World -> Prop} (hL : ∀ done a w, L done a w -> wpAny P md ops Q g done a w) :
    ∀ f done a w, headH P md ops Q Wf n L f done a w -> wpAny P md ops Q (f + g) done a w := by
  intro f
  induction f with
  | zero => intro done a w h; rw [Nat.zero_add]; exact hL _ _ _ h
  | succ f ih =>
    intro done a w h
    rw [show f + 1 + g = (f + g) + 1 by omega]
    exact ⟨fun h0 => absurd h0 h.1, fun i hi => wpOp_mono (fun a' w' h' => ih _ a' w' h'.2) (h.2 i hi).2⟩

theorem headH_first {n i : Nat} {oi : Oper} {v : Value} {L : Array Bool -> Act -> World -> Prop} (hi : ops[i]? = some oi) (hsel : Region.noSelect ops = true)
    (hs : Region.sinkB md ops n = true) (hc : Region.chainB md ops n = true) (hn : n < ops.size) (hin : i < n) (hL : ∀ done a w, L done a w -> ∀ j ∈ Region.ready md ops done, n <= j)
    (hQ : ∀ c a d v w, Q (.panic c) (Act.put a d v) w -> Q (.panic c) a w) :
    ∀ f done a w, HeadInv md ops n done ->
      (∀ j oj, ops[j]? = some oj -> j ≠ i -> done.getD j true = false -> (∀ e ∈ oj.after, Region.binds md e = true -> e.on ≠ i) -> oi.apart ops oj = true) ->
      i ∈ Region.ready md ops done -> YieldsIf P ops (fun w => ∃ x, w = Wf x) oi v a -> (∃ x, w = Wf x) ->
      headH P md ops Q Wf n L f (done.setIfInBounds i true) (a.put oi.dst v) w -> headH P md ops Q Wf n L (f + 1) done a w := by
  have head : ∀ {done : Array Bool}, HeadInv md ops n done -> i ∈ Region.ready md ops done -> ∀ j ∈ Region.ready md ops done, j < n := by
    intro done inv hr j hj
    rcases Nat.lt_or_ge j n with h | h
    · exact h
    · exact absurd hj (tail_waits hs hc hn inv _ i rfl hin (mem_ready.1 hr).1 j h)
  intro f
  induction f with
  | zero =>
    intro done a w inv _ hr hy hS H
    refine ⟨List.ne_nil_of_mem hr, fun j hj => ⟨head inv hr j hj, ?_⟩⟩
    by_cases e : j = i
    · subst e; exact hy.wpOp hi hS ⟨hS, H⟩
    · have h1 := hL _ _ _ H j (ready_mono hj e)
      have h2 := head inv hr j hj
      omega
  | succ f ih =>
    intro done a w inv hfree hr hy hS H
    refine ⟨List.ne_nil_of_mem hr, fun j hj => ⟨head inv hr j hj, ?_⟩⟩
    by_cases e : j = i
    · subst e; exact hy.wpOp hi hS ⟨hS, H⟩
    obtain ⟨hjun, oj, hoj, hall⟩ := mem_ready.1 hj
    have hno : ∀ e ∈ oj.after, Region.binds md e = true -> e.on ≠ i := fun e he hb heq => by
      have h1 := hall e he hb
      rw [heq, getD_both (mem_ready.1 hr).1] at h1
      cases h1
    have h2 := wpOp_putIf hoj (hfree j oj hoj e hjun hno) (fun cs b => Region.noSelect_spec hsel i oi cs b hi) (fun cs b => Region.noSelect_spec hsel j oj cs b hoj) (fun c a w => hQ c a _ _ w) hy (H.2 j (ready_mono hj e)).2
    refine wpOp_mono (fun a' w' h3 => ⟨h3.2.1, ih (done.setIfInBounds j true) a' w' (inv.set hj (head inv hr j hj)) (fun k ok hk hki hun hk' => hfree k ok hk hki ?_ hk') (ready_mono hr (Ne.symm e)) h3.1 h3.2.1 ?_⟩) h2
    · by_cases hjk : j = k
      · subst hjk; exact hjun
      · rwa [getD_set_ne true hjk] at hun
    · rw [Array.setIfInBounds_comm _ _ e]
      exact h3.2.2

/-- The reads, in this order, may all be taken first. -/
def readsB (md : Region.Mode) (ops : Array Oper) (n : Nat) : List Nat -> Array Bool -> Bool
  | [], _ => true
  | k :: ks, done => decide (k < n) && (Region.ready md ops done).contains k && Region.free md ops done k && readsB md ops n ks (done.setIfInBounds k true)
/-- The others of the head follow one by one, in this order; then the tail. -/
def actsB (md : Region.Mode) (ops : Array Oper) (n g : Nat) : List Nat -> Array Bool -> Bool
  | [], done => Region.seqB md ops g n done
  | k :: ks, done => decide (k < n) && decide (Region.ready md ops done = [k]) && actsB md ops n g ks (done.setIfInBounds k true)
def setAll : List Nat -> Array Bool -> Array Bool
  | [], d => d
  | k :: ks, d => setAll ks (d.setIfInBounds k true)
def pickOps (ops : List Oper) (ks : List Nat) : List Oper := ks.filterMap fun k => ops[k]?
/-- The others of the head, walked one by one: behind each a world of the family. -/
def wpActs (P : Program) (ops : Array Oper) (Q : Exit -> Act -> World -> Prop) (Wf : X -> World) (T : Act -> World -> Prop) : List Oper -> Act -> World -> Prop
  | [], a, w => T a w
  | o :: rest, a, w => wpList P ops (Exit.then (fun a' w' => (∃ x, w' = Wf x) /\ wpActs P ops Q Wf T rest a' w') Q) [o] a w

theorem wpActs_cons {T : Act -> World -> Prop} {o : Oper} {rest : List Oper} {a : Act} {w : World} (h : wpList P ops (Exit.then (fun a' w' => (∃ x, w' = Wf x) /\ wpActs P ops Q Wf T rest a' w') Q) [o] a w) : wpActs P ops Q Wf T (o :: rest) a w := h
theorem wpActs_nil {T : Act -> World -> Prop} {a : Act} {w : World} (h : T a w) : wpActs P ops Q Wf T [] a w := h
theorem wpOp_of_list {i : Nat} {o : Oper} {K : Act -> World -> Prop} {a : Act} {w : World} (hi : ops[i]? = some o) (h : wpList P ops (Exit.then K Q) [o] a w) : wpOp P ops Q i K a w := by
  unfold wpList at h
  unfold wpOp
  simp only [hi]
  split
  · rename_i hw
    rw [if_pos hw] at h
    rcases h with h | h
    · exact .inl h
    · exact .inr h
  · rename_i hw
    rw [if_neg hw] at h
    exact h

theorem headH_acts {n g : Nat} {T : Act -> World -> Prop} {l : List Oper} (hl : ops = l.toArray) : ∀ (ks : List Nat) (done : Array Bool) (a : Act) (w : World), actsB md ops n g ks done = true ->
    (∀ k ∈ ks, k < l.length) -> wpActs P ops Q Wf T (pickOps l ks) a w ->
    headH P md ops Q Wf n (fun done' a' w' => Region.seqB md ops g n done' = true /\ T a' w') ks.length done a w
  | [], done, a, w, hB, _, h => ⟨hB, h⟩
  | k :: ks, done, a, w, hB, hk, h => by
    simp only [actsB, Bool.and_eq_true, decide_eq_true_eq] at hB
    obtain ⟨⟨h1, h2⟩, h3⟩ := hB
    have hkl := hk k (by simp)
    obtain ⟨o, ho⟩ : ∃ o, l[k]? = some o := ⟨_, List.getElem?_eq_getElem hkl⟩
    have ho' : ops[k]? = some o := by rw [hl]; simpa using ho
    have hp : pickOps l (k :: ks) = o :: pickOps l ks := by simp [pickOps, ho]
    rw [hp] at h
    refine ⟨by rw [h2]; simp, fun i hi => ?_⟩
    rw [h2] at hi
    have e : i = k := by simpa using hi
    subst e
    refine ⟨h1, wpOp_mono (fun a' w' h' => ⟨h'.1, headH_acts hl ks _ a' w' h3 (fun j hj => hk j (by simp [hj])) h'.2⟩) (wpOp_of_list ho' h)⟩

theorem headH_reads {n f : Nat} {L : Array Bool -> Act -> World -> Prop} {l : List Oper} (hl : ops = l.toArray) (hsel : Region.noSelect ops = true)
    (hs : Region.sinkB md ops n = true) (hc : Region.chainB md ops n = true) (hn : n < ops.size) (hL : ∀ done a w, L done a w -> ∀ j ∈ Region.ready md ops done, n <= j)
    (hQ : ∀ c a d v w, Q (.panic c) (Act.put a d v) w -> Q (.panic c) a w) : ∀ (ks : List Nat) (done : Array Bool) (a : Act) (w : World), HeadInv md ops n done -> readsB md ops n ks done = true ->
    (∀ k ∈ ks, k < l.length) -> (∃ x, w = Wf x) -> wpReads P ops Wf (fun a' => headH P md ops Q Wf n L f (setAll ks done) a' w) (pickOps l ks) a ->
    headH P md ops Q Wf n L (ks.length + f) done a w
  | [], done, a, w, _, _, _, _, h => by rw [List.length_nil, Nat.zero_add]; exact h
  | k :: ks, done, a, w, inv, hB, hk, hS, h => by
    simp only [readsB, Bool.and_eq_true, decide_eq_true_eq, List.contains_iff_mem] at hB
    obtain ⟨⟨⟨h1, h2⟩, h3⟩, h4⟩ := hB
    have hkl := hk k (by simp)
    obtain ⟨o, ho⟩ : ∃ o, l[k]? = some o := ⟨_, List.getElem?_eq_getElem hkl⟩
    have ho' : ops[k]? = some o := by rw [hl]; simpa using ho
    have hp : pickOps l (k :: ks) = o :: pickOps l ks := by simp [pickOps, ho]
    rw [hp] at h
    rw [List.length_cons, show ks.length + 1 + f = (ks.length + f) + 1 by omega]
    unfold wpReads rOp at h
    by_cases hw : Region.wanted o (yielded ops a.tmps) = true
    · rw [if_pos hw] at h
      obtain ⟨v, hv, hK⟩ := h
      refine headH_first (v := v) ho' hsel hs hc hn h1 hL hQ (ks.length + f) done a w inv (Region.free_spec ho' h3) h2 (.inl ⟨hw, ?_⟩) hS ?_
      · rintro w' ⟨x, rfl⟩; exact hv x
      · exact headH_reads hl hsel hs hc hn hL hQ ks _ _ w (inv.set h2 h1) h4 (fun j hj => hk j (by simp [hj])) hS hK
    · rw [if_neg hw] at h
      refine headH_first (v := undef) ho' hsel hs hc hn h1 hL hQ (ks.length + f) done a w inv (Region.free_spec ho' h3) h2 (.inr ⟨by simpa using hw, rfl⟩) hS ?_
      exact headH_reads hl hsel hs hc hn hL hQ ks _ _ w (inv.set h2 h1) h4 (fun j hj => hk j (by simp [hj])) hS h

/-- All that is asked of the region's form. -/
def headFormB (l : List Oper) (n : Nat) (ks acts : List Nat) : Bool :=
  Region.noSelect l.toArray && decide (n < l.length) && Region.sinkB .any l.toArray n && Region.chainB .any l.toArray n && decide (ks.length + acts.length = n) &&
    ks.all (fun k => decide (k < l.length)) && acts.all (fun k => decide (k < l.length)) && readsB .any l.toArray n ks (Array.replicate l.length false) &&
    actsB .any l.toArray n (l.length - n) acts (setAll ks (Array.replicate l.length false))
theorem wpAny_reads {a : Act} {w : World} {l : List Oper} (n : Nat) (ks acts : List Nat) (hB : headFormB l n ks acts = true)
    (hQ : ∀ c a d v w, Q (.panic c) (Act.put a d v) w -> Q (.panic c) a w) (hS : ∃ x, w = Wf x)
    (h : wpReads P l.toArray Wf (fun a' => wpActs P l.toArray Q Wf (wpList P l.toArray Q (l.drop n)) (pickOps l acts) a' w) (pickOps l ks) a) :
    wpAny P .any l.toArray Q l.toArray.size (Array.replicate l.toArray.size false) a w := by
  simp only [headFormB, Bool.and_eq_true, decide_eq_true_eq] at hB
  obtain ⟨⟨⟨⟨⟨⟨⟨⟨hsel, hn⟩, hs⟩, hc⟩, hlen⟩, hk1⟩, hk2⟩, hr⟩, ha⟩ := hB
  have hk1' : ∀ k ∈ ks, k < l.length := fun k hk => by simpa using List.all_eq_true.1 hk1 k hk
  have hk2' : ∀ k ∈ acts, k < l.length := fun k hk => by simpa using List.all_eq_true.1 hk2 k hk
  have inv0 : HeadInv .any l.toArray n (Array.replicate l.length false) :=
    ⟨by simp, fun j oj _ hl => (by rw [getD_replicate_false] at hl; cases hl), fun t _ ht => getD_in (by simpa using ht) (getD_replicate_false _ _)⟩
  have mono : ∀ (l' : List Oper) (R R' : Act -> Prop) (a : Act), (∀ a, R a -> R' a) -> wpReads P l.toArray Wf R l' a -> wpReads P l.toArray Wf R' l' a := by
    intro l'
    induction l' with
    | nil => intro R R' a hR h; exact hR _ h
    | cons o l' ih =>
      intro R R' a hR h
      unfold wpReads rOp at h ⊢
      split
      · rename_i hw
        rw [if_pos hw] at h
        obtain ⟨v, h1, h2⟩ := h
        exact ⟨v, h1, ih R R' _ hR h2⟩
      · rename_i hw
        rw [if_neg hw] at h
        exact ih R R' _ hR h
  have H := headH_reads (P := P) (Q := Q) (Wf := Wf) (f := acts.length) (L := fun done' a' w' => Region.seqB .any l.toArray (l.length - n) n done' = true /\ wpList P l.toArray Q (l.drop n) a' w') rfl hsel hs hc (by simpa using hn)
    (fun done a w hL j hj => seqB_ready hL.1 j hj) hQ ks (Array.replicate l.length false) a w inv0 hr hk1' hS
    (mono _ _ _ a (fun a' h' => headH_acts rfl acts _ a' w ha hk2' h') h)
  have K := headH_sound (g := l.length - n) (fun done a' w' hL => by
    have := wpAny_of_seq (P := P) (md := .any) (Q' := Q) (l.drop n) n done a' w' (fun j => by simp [List.getElem?_drop]) (by simpa using hL.1) hL.2
    simpa using this) _ _ _ _ H
  rw [hlen, show n + (l.length - n) = l.length by omega] at K
  simpa using K
theorem wp_region_reads {id : Nat} {a : Act} {w : World} {l : List Oper} (n : Nat) (ks acts : List Nat) (hm : P.follows .mixedOrders = true) (hB : headFormB l n ks acts = true)
    (hQ : ∀ c a d v w, Q (.panic c) (Act.put a d v) w -> Q (.panic c) a w) (hS : ∃ x, w.drew = Wf x)
    (h : wpReads P l.toArray Wf (fun a' => wpActs P l.toArray Q Wf (wpList P l.toArray Q (l.drop n)) (pickOps l acts) a' w.drew) (pickOps l ks) a) : (Code.region id l.toArray true).wp P Q a w :=
  wp_region_any hm (wpAny_reads n ks acts hB hQ hS h)

/-! A region within a round. -/
end
/-- Worlds that meet a condition, as a family. -/
theorem family (S : World -> Prop) (w0 : World) (h0 : S w0) : ∃ (X : Type) (Wf : X -> World), Nonempty X /\ (∀ x, S (Wf x)) /\ ∀ w, S w -> ∃ x, w = Wf x :=
  ⟨{ w : World // S w }, Subtype.val, ⟨⟨w0, h0⟩⟩, fun x => x.2, fun w h => ⟨⟨w, h⟩, rfl⟩⟩
end Go.Proofs.YtbdgmgddliploaaGreatDoor

namespace Go.Proofs.YtbdgmgddliploaaGreatDoor
open Go

section
variable {P : Program} {ops : Array Oper} {md : Region.Mode} {X : Type} {Wf : X -> World} {Q : Exit -> Act -> World -> Prop}

end
end Go.Proofs.YtbdgmgddliploaaGreatDoor
