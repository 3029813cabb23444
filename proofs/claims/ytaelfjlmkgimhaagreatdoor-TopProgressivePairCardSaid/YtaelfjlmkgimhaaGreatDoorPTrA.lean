/- A region that draws its order, along a tree of orders, where any number of others are ready at once; its end is forced. -/
import Derived.Test.YtaelfjlmkgimhaaGreatDoorETree
set_option linter.unusedVariables false
set_option linter.unusedSimpArgs false
namespace Go.Proofs.YtaelfjlmkgimhaaGreatDoor
open Go

section
variable {P : Program} {ops : Array Oper} {md : Region.Mode} {X : Type} {Wf : X → World} {Q : Exit → Act → World → Prop}
/-- A tree of orders: what only reads; the one that is ready; one that is ready, and the others. -/
inductive TreA
  | fin : TreA
  | read : Nat → TreA → TreA
  | act : Nat → TreA → TreA
  | alt : Nat → TreA → TreA → TreA
def TreA.len : TreA → Nat
  | .fin => 0
  | .read _ t => t.len + 1
  | .act _ t => t.len + 1
  | .alt _ t _ => t.len + 1
def TreA.heads : TreA → List Nat
  | .act k _ => [k]
  | .alt k _ u => k :: u.heads
  | _ => []
def wpTreA (P : Program) (l : List Oper) (Q : Exit → Act → World → Prop) (Wf : X → World) (T : Act → World → Prop) : TreA → Act → World → Prop
  | .fin, a, w => T a w
  | .read k t, a, w => ∀ o, l[k]? = some o → rOp P l.toArray Wf o a (fun a' => wpTreA P l Q Wf T t a' w)
  | .act k t, a, w => ∀ o, l[k]? = some o → wpList P l.toArray (Exit.then (fun a' w' => (∃ x, w' = Wf x) ∧ wpTreA P l Q Wf T t a' w') Q) [o] a w
  | .alt k t u, a, w => (∀ o, l[k]? = some o → wpList P l.toArray (Exit.then (fun a' w' => (∃ x, w' = Wf x) ∧ wpTreA P l Q Wf T t a' w') Q) [o] a w) ∧ wpTreA P l Q Wf T u a w
theorem wpTreA_fin {l : List Oper} {T : Act → World → Prop} {a : Act} {w : World} (h : T a w) : wpTreA P l Q Wf T .fin a w := h
theorem wpTreA_read {l : List Oper} {T : Act → World → Prop} {k : Nat} {t : TreA} {a : Act} {w : World} (o : Oper) (ho : l[k]? = some o) (h : ∀ K : Act → Prop, (∀ a, wpTreA P l Q Wf T t a w → K a) → rOp P l.toArray Wf o a K) : wpTreA P l Q Wf T (.read k t) a w := by
  intro o' h'
  rw [ho] at h'; cases h'
  exact h _ (fun _ h => h)
theorem wpTreA_act {l : List Oper} {T : Act → World → Prop} {k : Nat} {t : TreA} {a : Act} {w : World} (o : Oper) (ho : l[k]? = some o) (h : wpList P l.toArray (Exit.then (fun a' w' => (∃ x, w' = Wf x) ∧ wpTreA P l Q Wf T t a' w') Q) [o] a w) : wpTreA P l Q Wf T (.act k t) a w := by
  intro o' h'
  rw [ho] at h'; cases h'
  exact h
theorem wpTreA_alt {l : List Oper} {T : Act → World → Prop} {k : Nat} {t u : TreA} {a : Act} {w : World} (h1 : wpTreA P l Q Wf T (.act k t) a w) (h2 : wpTreA P l Q Wf T u a w) : wpTreA P l Q Wf T (.alt k t u) a w := ⟨h1, h2⟩
def treAB (md : Region.Mode) (ops : Array Oper) (n g : Nat) : TreA → List Nat → Array Bool → Bool
  | .fin, pre, done => pre.isEmpty && Region.seqB md ops g n done
  | .read k t, pre, done => pre.isEmpty && decide (k < n) && decide (k < ops.size) && (Region.ready md ops done).contains k && Region.free md ops done k && treAB md ops n g t [] (done.setIfInBounds k true)
  | .act k t, pre, done => decide (k < n) && decide (k < ops.size) && decide (Region.ready md ops done = pre ++ [k]) && treAB md ops n g t [] (done.setIfInBounds k true)
  | .alt k t u, pre, done => decide (k < n) && decide (k < ops.size) && decide (u.len = t.len + 1) && treAB md ops n g t [] (done.setIfInBounds k true) && treAB md ops n g u (pre ++ [k]) done
theorem headH_treA {n g : Nat} {T : Act → World → Prop} {l : List Oper} (hl : ops = l.toArray) (hsel : Region.noSelect ops = true)
    (hs : Region.sinkB md ops n = true) (hc : Region.chainB md ops n = true) (hn : n < ops.size)
    (hQ : ∀ c a d v w, Q (.panic c) (Act.put a d v) w → Q (.panic c) a w) : ∀ (t : TreA) (pre : List Nat) (done : Array Bool) (a : Act) (w : World), HeadInv md ops n done → treAB md ops n g t pre done = true →
    (∃ x, w = Wf x) → wpTreA P l Q Wf T t a w →
    (pre = [] → headH P md ops Q Wf n (fun done' a' w' => Region.seqB md ops g n done' = true ∧ T a' w') t.len done a w) ∧
    (pre ≠ [] → Region.ready md ops done = pre ++ t.heads ∧ t.heads ≠ [] ∧ ∀ k ∈ t.heads, k < n ∧ wpOp P ops Q k (fun a' w' => (∃ x, w' = Wf x) ∧ headH P md ops Q Wf n (fun done' a' w' => Region.seqB md ops g n done' = true ∧ T a' w') (t.len - 1) (done.setIfInBounds k true) a' w') a w)
  | .fin, pre, done, a, w, _, hB, _, h => by
    simp only [treAB, Bool.and_eq_true, List.isEmpty_iff] at hB
    exact ⟨fun _ => ⟨hB.2, h⟩, fun hp => absurd hB.1 hp⟩
  | .read k t, pre, done, a, w, inv, hB, hS, h => by
    simp only [treAB, Bool.and_eq_true, decide_eq_true_eq, List.contains_iff_mem, List.isEmpty_iff] at hB
    obtain ⟨⟨⟨⟨⟨h0, h1⟩, hkl⟩, h2⟩, h3⟩, h4⟩ := hB
    refine ⟨fun _ => ?_, fun hp => absurd h0 hp⟩
    obtain ⟨o, ho'⟩ : ∃ o, ops[k]? = some o := ⟨_, Array.getElem?_eq_getElem hkl⟩
    have ho : l[k]? = some o := by rw [hl] at ho'; simpa using ho'
    replace h := h o ho
    rw [← hl] at h
    unfold rOp at h
    have hL : ∀ done a w, (fun (done' : Array Bool) a' w' => Region.seqB md ops g n done' = true ∧ T a' w') done a w → ∀ j ∈ Region.ready md ops done, n ≤ j := fun done a w hL j hj => seqB_ready hL.1 j hj
    by_cases hw : Region.wanted o (yielded ops a.tmps) = true
    · rw [if_pos hw] at h
      obtain ⟨v, hv, hK⟩ := h
      refine headH_first (v := v) ho' hsel hs hc hn h1 hL hQ t.len done a w inv (Region.free_spec ho' h3) h2 (.inl ⟨hw, ?_⟩) hS ?_
      · rintro w' ⟨x, rfl⟩; exact hv x
      · exact (headH_treA hl hsel hs hc hn hQ t [] _ _ w (inv.set h2 h1) h4 hS hK).1 rfl
    · rw [if_neg hw] at h
      refine headH_first (v := undef) ho' hsel hs hc hn h1 hL hQ t.len done a w inv (Region.free_spec ho' h3) h2 (.inr ⟨by simpa using hw, rfl⟩) hS ?_
      exact (headH_treA hl hsel hs hc hn hQ t [] _ _ w (inv.set h2 h1) h4 hS h).1 rfl
  | .act k t, pre, done, a, w, inv, hB, hS, h => by
    simp only [treAB, Bool.and_eq_true, decide_eq_true_eq] at hB
    obtain ⟨⟨⟨h1, hkl⟩, h2⟩, h3⟩ := hB
    obtain ⟨o, ho'⟩ : ∃ o, ops[k]? = some o := ⟨_, Array.getElem?_eq_getElem hkl⟩
    have ho : l[k]? = some o := by rw [hl] at ho'; simpa using ho'
    replace h := h o ho
    rw [← hl] at h
    have hk : k ∈ Region.ready md ops done := by rw [h2]; simp
    have C : k < n ∧ wpOp P ops Q k (fun a' w' => (∃ x, w' = Wf x) ∧ headH P md ops Q Wf n (fun done' a' w' => Region.seqB md ops g n done' = true ∧ T a' w') t.len (done.setIfInBounds k true) a' w') a w :=
      ⟨h1, wpOp_mono (fun a' w' h' => ⟨h'.1, (headH_treA hl hsel hs hc hn hQ t [] _ a' w' (inv.set hk h1) h3 h'.1 h'.2).1 rfl⟩) (wpOp_of_list ho' h)⟩
    refine ⟨fun hp => ?_, fun _ => ⟨h2, by simp [TreA.heads], fun j hj => ?_⟩⟩
    · subst hp
      refine ⟨by rw [h2]; simp, fun i hi => ?_⟩
      rw [h2] at hi
      have e : i = k := by simpa using hi
      subst e
      exact C
    · have e : j = k := by simpa [TreA.heads] using hj
      subst e
      exact C
  | .alt k t u, pre, done, a, w, inv, hB, hS, h => by
    simp only [treAB, Bool.and_eq_true, decide_eq_true_eq] at hB
    obtain ⟨⟨⟨⟨h1, hkl⟩, hlen⟩, h3⟩, h4⟩ := hB
    obtain ⟨o, ho'⟩ : ∃ o, ops[k]? = some o := ⟨_, Array.getElem?_eq_getElem hkl⟩
    have ho : l[k]? = some o := by rw [hl] at ho'; simpa using ho'
    have ha := h.1 o ho
    rw [← hl] at ha
    obtain ⟨r1, r2, r3⟩ := (headH_treA hl hsel hs hc hn hQ u (pre ++ [k]) done a w inv h4 hS h.2).2 (by simp)
    have hr : Region.ready md ops done = pre ++ (k :: u.heads) := by rw [r1]; simp
    have hk : k ∈ Region.ready md ops done := by rw [hr]; simp
    have C : ∀ j ∈ k :: u.heads, j < n ∧ wpOp P ops Q j (fun a' w' => (∃ x, w' = Wf x) ∧ headH P md ops Q Wf n (fun done' a' w' => Region.seqB md ops g n done' = true ∧ T a' w') t.len (done.setIfInBounds j true) a' w') a w := by
      intro j hj
      rcases List.mem_cons.1 hj with rfl | hj
      · exact ⟨h1, wpOp_mono (fun a' w' h' => ⟨h'.1, (headH_treA hl hsel hs hc hn hQ t [] _ a' w' (inv.set hk h1) h3 h'.1 h'.2).1 rfl⟩) (wpOp_of_list ho' ha)⟩
      · have := r3 j hj
        rw [hlen] at this
        exact this
    refine ⟨fun hp => ?_, fun _ => ⟨hr, by simp [TreA.heads], C⟩⟩
    subst hp
    refine ⟨by rw [hr]; simp, fun i hi => ?_⟩
    rw [hr] at hi
    exact C i (by simpa using hi)
def treAFormB (l : List Oper) (n : Nat) (t : TreA) : Bool :=
  Region.noSelect l.toArray && decide (n < l.length) && Region.sinkB .any l.toArray n && Region.chainB .any l.toArray n && decide (t.len = n) && treAB .any l.toArray n (l.length - n) t [] (Array.replicate l.length false)
theorem wpAny_treA {a : Act} {w : World} {l : List Oper} (n : Nat) (t : TreA) (hB : treAFormB l n t = true)
    (hQ : ∀ c a d v w, Q (.panic c) (Act.put a d v) w → Q (.panic c) a w) (hS : ∃ x, w = Wf x)
    (h : wpTreA P l Q Wf (wpList P l.toArray Q (l.drop n)) t a w) :
    wpAny P .any l.toArray Q l.toArray.size (Array.replicate l.toArray.size false) a w := by
  simp only [treAFormB, Bool.and_eq_true, decide_eq_true_eq] at hB
  obtain ⟨⟨⟨⟨⟨hsel, hn⟩, hs⟩, hc⟩, hlen⟩, hr⟩ := hB
  have inv0 : HeadInv .any l.toArray n (Array.replicate l.length false) :=
    ⟨by simp, fun j oj _ hl => (by rw [getD_replicate_false] at hl; cases hl), fun t _ ht => getD_in (by simpa using ht) (getD_replicate_false _ _)⟩
  have H := (headH_treA (P := P) (Q := Q) (Wf := Wf) (g := l.length - n) (T := wpList P l.toArray Q (l.drop n)) rfl hsel hs hc (by simpa using hn) hQ t [] (Array.replicate l.length false) a w inv0 hr hS h).1 rfl
  have K := headH_sound (g := l.length - n) (fun done a' w' hL => by
    have := wpAny_of_seq (P := P) (md := .any) (Q' := Q) (l.drop n) n done a' w' (fun j => by simp [List.getElem?_drop]) (by simpa using hL.1) hL.2
    simpa using this) _ _ _ _ H
  rw [hlen, show n + (l.length - n) = l.length by omega] at K
  simpa using K
theorem wp_region_treA {id : Nat} {a : Act} {w : World} {l : List Oper} (n : Nat) (t : TreA) (hm : P.follows .mixedOrders = true) (hB : treAFormB l n t = true)
    (hQ : ∀ c a d v w, Q (.panic c) (Act.put a d v) w → Q (.panic c) a w) (hS : ∃ x, w.drew = Wf x)
    (h : wpTreA P l Q Wf (wpList P l.toArray Q (l.drop n)) t a w.drew) : (Code.region id l.toArray true).wp P Q a w :=
  wp_region_any hm (wpAny_treA n t hB hQ hS h)
end
/-- No panic behind it. -/
def noPanic (Q : Exit → Act → World → Prop) : Exit → Act → World → Prop
  | .panic _, _, _ => False
  | e, a, w => Q e a w
@[go_sem] theorem noPanic_normal (Q : Exit → Act → World → Prop) (a : Act) (w : World) : noPanic Q .normal a w = Q .normal a w := rfl
theorem wp_region_treeN {P : Program} {X : Type} {Wf : X → World} {Q : Exit → Act → World → Prop} {id : Nat} {a : Act} {w : World} {l : List Oper} (n : Nat) (t : Tree) (hm : P.follows .mixedOrders = true) (hB : treeFormB l n t = true) (hS : ∃ x, w.drew = Wf x)
    (h : wpTree P l (noPanic Q) Wf (wpList P l.toArray (noPanic Q) (l.drop n)) t a w.drew) : (Code.region id l.toArray true).wp P Q a w :=
  Code.wp_mono (fun e a w h => by cases e <;> first | exact h | exact h.elim) (wp_region_tree n t hm hB (fun _ _ _ _ _ h => h.elim) hS h)
theorem wp_region_treAN {P : Program} {X : Type} {Wf : X → World} {Q : Exit → Act → World → Prop} {id : Nat} {a : Act} {w : World} {l : List Oper} (n : Nat) (t : TreA) (hm : P.follows .mixedOrders = true) (hB : treAFormB l n t = true) (hS : ∃ x, w.drew = Wf x)
    (h : wpTreA P l (noPanic Q) Wf (wpList P l.toArray (noPanic Q) (l.drop n)) t a w.drew) : (Code.region id l.toArray true).wp P Q a w :=
  Code.wp_mono (fun e a w h => by cases e <;> first | exact h | exact h.elim) (wp_region_treA n t hm hB (fun _ _ _ _ _ h => h.elim) hS h)
end Go.Proofs.YtaelfjlmkgimhaaGreatDoor
