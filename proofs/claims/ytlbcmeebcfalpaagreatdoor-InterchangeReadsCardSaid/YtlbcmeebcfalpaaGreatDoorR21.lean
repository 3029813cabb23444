/- Joined: Bar. -/
import Derived.Test.YtlbcmeebcfalpaaGreatDoorR05
import Derived.RegionTactic
set_option linter.unusedVariables false
set_option linter.unusedSimpArgs false
set_option maxRecDepth 100000
set_option maxHeartbeats 16000000
namespace Go.Proofs.YtlbcmeebcfalpaaGreatDoor
open Go

section
variable {P : Program} {ops : Array Oper} {md : Region.Mode} {X : Type} {Wf : X -> World} {Q : Exit -> Act -> World -> Prop}

def barB (md : Region.Mode) (ops : Array Oper) (n : Nat) : Bool :=
  (List.range ops.size).all fun t => decide (t < n) || (List.range n).all fun i => Region.waitsFor md ops t i
theorem bar_head {n i j : Nat} {done : Array Bool} (hb : barB md ops n = true) (hi : i < n) (hun : done.getD i true = false) (hj : j ∈ Region.ready md ops done) : j < n := by
  rcases Nat.lt_or_ge j n with h | h
  · exact h
  · obtain ⟨_, oj, hoj, hall⟩ := mem_ready.1 hj
    have h1 := List.all_eq_true.1 hb j (List.mem_range.2 (Array.getElem?_eq_some_iff.1 hoj).1)
    simp only [Bool.or_eq_true, decide_eq_true_eq] at h1
    rcases h1 with h1 | h1
    · exact h1
    · obtain ⟨oj', hoj', e, he, hbd, heq⟩ := Region.waitsFor_spec (List.all_eq_true.1 h1 i (List.mem_range.2 hi))
      rw [hoj] at hoj'
      cases hoj'
      have := hall e he hbd
      rw [heq, getD_both hun] at this
      cases this
theorem headB_first {n i : Nat} {oi : Oper} {v : Value} {L : Array Bool -> Act -> World -> Prop} (hi : ops[i]? = some oi) (hsel : Region.noSelect ops = true)
    (hbar : barB md ops n = true) (hin : i < n) (hL : ∀ done a w, L done a w -> ∀ j ∈ Region.ready md ops done, n <= j)
    (hQ : ∀ c a d v w, Q (.panic c) (Act.put a d v) w -> Q (.panic c) a w) :
    ∀ f done a w,
      (∀ j oj, ops[j]? = some oj -> j ≠ i -> done.getD j true = false -> (∀ e ∈ oj.after, Region.binds md e = true -> e.on ≠ i) -> oi.apart ops oj = true) ->
      i ∈ Region.ready md ops done -> YieldsIf P ops (fun w => ∃ x, w = Wf x) oi v a -> (∃ x, w = Wf x) ->
      headH P md ops Q Wf n L f (done.setIfInBounds i true) (a.put oi.dst v) w -> headH P md ops Q Wf n L (f + 1) done a w := by
  have head : ∀ {done : Array Bool}, i ∈ Region.ready md ops done -> ∀ j ∈ Region.ready md ops done, j < n := by
    intro done hr j hj
    exact bar_head hbar hin (mem_ready.1 hr).1 hj
  intro f
  induction f with
  | zero =>
    intro done a w _ hr hy hS H
    refine ⟨List.ne_nil_of_mem hr, fun j hj => ⟨head hr j hj, ?_⟩⟩
    by_cases e : j = i
    · subst e; exact hy.wpOp hi hS ⟨hS, H⟩
    · have h1 := hL _ _ _ H j (ready_mono hj e)
      have h2 := head hr j hj
      omega
  | succ f ih =>
    intro done a w hfree hr hy hS H
    refine ⟨List.ne_nil_of_mem hr, fun j hj => ⟨head hr j hj, ?_⟩⟩
    by_cases e : j = i
    · subst e; exact hy.wpOp hi hS ⟨hS, H⟩
    obtain ⟨hjun, oj, hoj, hall⟩ := mem_ready.1 hj
    have hno : ∀ e ∈ oj.after, Region.binds md e = true -> e.on ≠ i := fun e he hb heq => by
      have h1 := hall e he hb
      rw [heq, getD_both (mem_ready.1 hr).1] at h1
      cases h1
    have h2 := wpOp_putIf hoj (hfree j oj hoj e hjun hno) (fun cs b => Region.noSelect_spec hsel i oi cs b hi) (fun cs b => Region.noSelect_spec hsel j oj cs b hoj) (fun c a w => hQ c a _ _ w) hy (H.2 j (ready_mono hj e)).2
    refine wpOp_mono (fun a' w' h3 => ⟨h3.2.1, ih (done.setIfInBounds j true) a' w' (fun k ok hk hki hun hk' => hfree k ok hk hki ?_ hk') (ready_mono hr (Ne.symm e)) h3.1 h3.2.1 ?_⟩) h2
    · by_cases hjk : j = k
      · subst hjk; exact hjun
      · rwa [getD_set_ne true hjk] at hun
    · rw [Array.setIfInBounds_comm _ _ e]
      exact h3.2.2
/-- The others of the head follow one by one, in this order; then only what stands behind the barrier is ready. -/
def actsBB (md : Region.Mode) (ops : Array Oper) (n : Nat) : List Nat -> Array Bool -> Bool
  | [], done => (Region.ready md ops done).all fun j => decide (n <= j)
  | k :: ks, done => decide (k < n) && decide (Region.ready md ops done = [k]) && actsBB md ops n ks (done.setIfInBounds k true)
theorem headB_acts {n : Nat} {T : Array Bool -> Act -> World -> Prop} {l : List Oper} (hl : ops = l.toArray) : ∀ (ks : List Nat) (done : Array Bool) (a : Act) (w : World), actsBB md ops n ks done = true ->
    (∀ k ∈ ks, k < l.length) -> wpActs P ops Q Wf (T (setAll ks done)) (pickOps l ks) a w ->
    headH P md ops Q Wf n (fun done' a' w' => (∀ j ∈ Region.ready md ops done', n <= j) /\ T done' a' w') ks.length done a w
  | [], done, a, w, hB, _, h => ⟨fun j hj => by simpa using List.all_eq_true.1 hB j hj, h⟩
  | k :: ks, done, a, w, hB, hk, h => by
    simp only [actsBB, Bool.and_eq_true, decide_eq_true_eq] at hB
    obtain ⟨⟨h1, h2⟩, h3⟩ := hB
    have hkl := hk k (by simp)
    obtain ⟨o, ho⟩ : ∃ o, l[k]? = some o := ⟨_, List.getElem?_eq_getElem hkl⟩
    have ho' : ops[k]? = some o := by rw [hl]; simpa using ho
    have hp : pickOps l (k :: ks) = o :: pickOps l ks := by simp [pickOps, ho]
    rw [hp] at h
    refine ⟨by rw [h2]; simp, fun i hi => ?_⟩
    rw [h2] at hi
    have e : i = k := by simpa using hi
    subst e
    refine ⟨h1, wpOp_mono (fun a' w' h' => ⟨h'.1, headB_acts hl ks _ a' w' h3 (fun j hj => hk j (by simp [hj])) h'.2⟩) (wpOp_of_list ho' h)⟩
theorem headB_reads {n f : Nat} {L : Array Bool -> Act -> World -> Prop} {l : List Oper} (hl : ops = l.toArray) (hsel : Region.noSelect ops = true)
    (hbar : barB md ops n = true) (hL : ∀ done a w, L done a w -> ∀ j ∈ Region.ready md ops done, n <= j)
    (hQ : ∀ c a d v w, Q (.panic c) (Act.put a d v) w -> Q (.panic c) a w) : ∀ (ks : List Nat) (done : Array Bool) (a : Act) (w : World), readsB md ops n ks done = true ->
    (∀ k ∈ ks, k < l.length) -> (∃ x, w = Wf x) -> wpReads P ops Wf (fun a' => headH P md ops Q Wf n L f (setAll ks done) a' w) (pickOps l ks) a ->
    headH P md ops Q Wf n L (ks.length + f) done a w
  | [], done, a, w, _, _, _, h => by rw [List.length_nil, Nat.zero_add]; exact h
  | k :: ks, done, a, w, hB, hk, hS, h => by
    simp only [readsB, Bool.and_eq_true, decide_eq_true_eq, List.contains_iff_mem] at hB
    obtain ⟨⟨⟨h1, h2⟩, h3⟩, h4⟩ := hB
    have hkl := hk k (by simp)
    obtain ⟨o, ho⟩ : ∃ o, l[k]? = some o := ⟨_, List.getElem?_eq_getElem hkl⟩
    have ho' : ops[k]? = some o := by rw [hl]; simpa using ho
    have hp : pickOps l (k :: ks) = o :: pickOps l ks := by simp [pickOps, ho]
    rw [hp] at h
    rw [List.length_cons, show ks.length + 1 + f = (ks.length + f) + 1 by omega]
    unfold wpReads rOp at h
    by_cases hw : Region.wanted o (yielded ops a.tmps) = true
    · rw [if_pos hw] at h
      obtain ⟨v, hv, hK⟩ := h
      refine headB_first (v := v) ho' hsel hbar h1 hL hQ (ks.length + f) done a w (Region.free_spec ho' h3) h2 (.inl ⟨hw, ?_⟩) hS ?_
      · rintro w' ⟨x, rfl⟩; exact hv x
      · exact headB_reads hl hsel hbar hL hQ ks _ _ w h4 (fun j hj => hk j (by simp [hj])) hS hK
    · rw [if_neg hw] at h
      refine headB_first (v := undef) ho' hsel hbar h1 hL hQ (ks.length + f) done a w (Region.free_spec ho' h3) h2 (.inr ⟨by simpa using hw, rfl⟩) hS ?_
      exact headB_reads hl hsel hbar hL hQ ks _ _ w h4 (fun j hj => hk j (by simp [hj])) hS h
def barFormB (l : List Oper) (n : Nat) (ks acts : List Nat) : Bool :=
  Region.noSelect l.toArray && decide (n <= l.length) && barB .any l.toArray n && decide (ks.length + acts.length = n) &&
    ks.all (fun k => decide (k < l.length)) && acts.all (fun k => decide (k < l.length)) && readsB .any l.toArray n ks (Array.replicate l.length false) &&
    actsBB .any l.toArray n acts (setAll ks (Array.replicate l.length false))
theorem wpReads_monoB : ∀ (l' : List Oper) (R R' : Act -> Prop) (a : Act), (∀ a, R a -> R' a) -> wpReads P ops Wf R l' a -> wpReads P ops Wf R' l' a := by
  intro l'
  induction l' with
  | nil => intro R R' a hR h; exact hR _ h
  | cons o l' ih =>
    intro R R' a hR h
    unfold wpReads rOp at h ⊢
    split
    · rename_i hw
      rw [if_pos hw] at h
      obtain ⟨v, h1, h2⟩ := h
      exact ⟨v, h1, ih R R' _ hR h2⟩
    · rename_i hw
      rw [if_neg hw] at h
      exact ih R R' _ hR h
theorem wp_region_bar {id : Nat} {a : Act} {w : World} {l : List Oper} (n : Nat) (ks acts : List Nat) (hm : P.follows .mixedOrders = true) (hB : barFormB l n ks acts = true)
    (hQ : ∀ c a d v w, Q (.panic c) (Act.put a d v) w -> Q (.panic c) a w) (hS : ∃ x, w.drew = Wf x)
    (h : wpReads P l.toArray Wf (fun a' => wpActs P l.toArray Q Wf (wpAny P .any l.toArray Q (l.length - n) (setAll acts (setAll ks (Array.replicate l.length false)))) (pickOps l acts) a' w.drew) (pickOps l ks) a) :
    (Code.region id l.toArray true).wp P Q a w := by
  refine wp_region_any hm ?_
  simp only [barFormB, Bool.and_eq_true, decide_eq_true_eq] at hB
  obtain ⟨⟨⟨⟨⟨⟨⟨hsel, hn⟩, hbar⟩, hlen⟩, hk1⟩, hk2⟩, hr⟩, ha⟩ := hB
  have hk1' : ∀ k ∈ ks, k < l.length := fun k hk => by simpa using List.all_eq_true.1 hk1 k hk
  have hk2' : ∀ k ∈ acts, k < l.length := fun k hk => by simpa using List.all_eq_true.1 hk2 k hk
  have H := headB_reads (P := P) (Q := Q) (Wf := Wf) (f := acts.length) (L := fun done' a' w' => (∀ j ∈ Region.ready .any l.toArray done', n <= j) /\ wpAny P .any l.toArray Q (l.length - n) done' a' w') rfl hsel hbar (fun done a w hL => hL.1) hQ ks (Array.replicate l.length false) a w.drew hr hk1' hS
    (wpReads_monoB _ _ _ a (fun a' h' => headB_acts rfl acts _ a' w.drew ha hk2' h') h)
  have K := headH_sound (g := l.length - n) (fun done a' w' hL => hL.2) _ _ _ _ H
  rw [hlen, show n + (l.length - n) = l.length by omega] at K
  simpa using K
end
end Go.Proofs.YtlbcmeebcfalpaaGreatDoor
