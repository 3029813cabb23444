/- A region that draws its order: reads and others by turns, each taken as soon as it is ready. -/
import Derived.Test.YtaelfjlmkgimhaaGreatDoorHead
set_option linter.unusedVariables false
set_option linter.unusedSimpArgs false
namespace Go.Proofs.YtaelfjlmkgimhaaGreatDoor
open Go

section
variable {P : Program} {ops : Array Oper} {md : Region.Mode} {X : Type} {Wf : X → World} {Q : Exit → Act → World → Prop}

/-- 'true': what only reads; 'false': what must come next. -/
def planB (md : Region.Mode) (ops : Array Oper) (n g : Nat) : List (Bool × Nat) → Array Bool → Bool
  | [], done => Region.seqB md ops g n done
  | (true, k) :: ks, done => decide (k < n) && (Region.ready md ops done).contains k && Region.free md ops done k && planB md ops n g ks (done.setIfInBounds k true)
  | (false, k) :: ks, done => decide (k < n) && decide (Region.ready md ops done = [k]) && planB md ops n g ks (done.setIfInBounds k true)
def pickPlan (l : List Oper) (ks : List (Bool × Nat)) : List (Bool × Oper) := ks.filterMap fun k => (l[k.2]?).map fun o => (k.1, o)
def wpPlan (P : Program) (ops : Array Oper) (Q : Exit → Act → World → Prop) (Wf : X → World) (T : Act → World → Prop) : List (Bool × Oper) → Act → World → Prop
  | [], a, w => T a w
  | (true, o) :: rest, a, w => rOp P ops Wf o a (fun a' => wpPlan P ops Q Wf T rest a' w)
  | (false, o) :: rest, a, w => wpList P ops (Exit.then (fun a' w' => (∃ x, w' = Wf x) ∧ wpPlan P ops Q Wf T rest a' w') Q) [o] a w
theorem wpPlan_nil {T : Act → World → Prop} {a : Act} {w : World} (h : T a w) : wpPlan P ops Q Wf T [] a w := h
theorem wpPlan_act {T : Act → World → Prop} {o : Oper} {rest : List (Bool × Oper)} {a : Act} {w : World} (h : wpList P ops (Exit.then (fun a' w' => (∃ x, w' = Wf x) ∧ wpPlan P ops Q Wf T rest a' w') Q) [o] a w) : wpPlan P ops Q Wf T ((false, o) :: rest) a w := h
theorem wpPlan_read {T : Act → World → Prop} {o : Oper} {rest : List (Bool × Oper)} {a : Act} {w : World} (h : ∀ K : Act → Prop, (∀ a, wpPlan P ops Q Wf T rest a w → K a) → rOp P ops Wf o a K) : wpPlan P ops Q Wf T ((true, o) :: rest) a w := h _ (fun _ h => h)

theorem headH_plan {n g : Nat} {T : Act → World → Prop} {l : List Oper} (hl : ops = l.toArray) (hsel : Region.noSelect ops = true)
    (hs : Region.sinkB md ops n = true) (hc : Region.chainB md ops n = true) (hn : n < ops.size)
    (hQ : ∀ c a d v w, Q (.panic c) (Act.put a d v) w → Q (.panic c) a w) : ∀ (ks : List (Bool × Nat)) (done : Array Bool) (a : Act) (w : World), HeadInv md ops n done → planB md ops n g ks done = true →
    (∀ k ∈ ks, k.2 < l.length) → (∃ x, w = Wf x) → wpPlan P ops Q Wf T (pickPlan l ks) a w →
    headH P md ops Q Wf n (fun done' a' w' => Region.seqB md ops g n done' = true ∧ T a' w') ks.length done a w
  | [], done, a, w, _, hB, _, _, h => ⟨hB, h⟩
  | (true, k) :: ks, done, a, w, inv, hB, hk, hS, h => by
    simp only [planB, Bool.and_eq_true, decide_eq_true_eq, List.contains_iff_mem] at hB
    obtain ⟨⟨⟨h1, h2⟩, h3⟩, h4⟩ := hB
    have hkl := hk (true, k) (by simp)
    obtain ⟨o, ho⟩ : ∃ o, l[k]? = some o := ⟨_, List.getElem?_eq_getElem hkl⟩
    have ho' : ops[k]? = some o := by rw [hl]; simpa using ho
    have hp : pickPlan l ((true, k) :: ks) = (true, o) :: pickPlan l ks := by simp [pickPlan, ho]
    rw [hp] at h
    unfold wpPlan rOp at h
    have hL : ∀ done a w, (fun (done' : Array Bool) a' w' => Region.seqB md ops g n done' = true ∧ T a' w') done a w → ∀ j ∈ Region.ready md ops done, n ≤ j := fun done a w hL j hj => seqB_ready hL.1 j hj
    by_cases hw : Region.wanted o (yielded ops a.tmps) = true
    · rw [if_pos hw] at h
      obtain ⟨v, hv, hK⟩ := h
      refine headH_first (v := v) ho' hsel hs hc hn h1 hL hQ ks.length done a w inv (Region.free_spec ho' h3) h2 (.inl ⟨hw, ?_⟩) hS ?_
      · rintro w' ⟨x, rfl⟩; exact hv x
      · exact headH_plan hl hsel hs hc hn hQ ks _ _ w (inv.set h2 h1) h4 (fun j hj => hk j (by simp [hj])) hS hK
    · rw [if_neg hw] at h
      refine headH_first (v := undef) ho' hsel hs hc hn h1 hL hQ ks.length done a w inv (Region.free_spec ho' h3) h2 (.inr ⟨by simpa using hw, rfl⟩) hS ?_
      exact headH_plan hl hsel hs hc hn hQ ks _ _ w (inv.set h2 h1) h4 (fun j hj => hk j (by simp [hj])) hS h
  | (false, k) :: ks, done, a, w, inv, hB, hk, hS, h => by
    simp only [planB, Bool.and_eq_true, decide_eq_true_eq] at hB
    obtain ⟨⟨h1, h2⟩, h3⟩ := hB
    have hkl := hk (false, k) (by simp)
    obtain ⟨o, ho⟩ : ∃ o, l[k]? = some o := ⟨_, List.getElem?_eq_getElem hkl⟩
    have ho' : ops[k]? = some o := by rw [hl]; simpa using ho
    have hp : pickPlan l ((false, k) :: ks) = (false, o) :: pickPlan l ks := by simp [pickPlan, ho]
    rw [hp] at h
    refine ⟨by rw [h2]; simp, fun i hi => ?_⟩
    have hi0 := hi
    rw [h2] at hi
    have e : i = k := by simpa using hi
    subst e
    refine ⟨h1, wpOp_mono (fun a' w' h' => ⟨h'.1, headH_plan hl hsel hs hc hn hQ ks _ a' w' (inv.set hi0 h1) h3 (fun j hj => hk j (by simp [hj])) h'.1 h'.2⟩) (wpOp_of_list ho' h)⟩

def planFormB (l : List Oper) (n : Nat) (ks : List (Bool × Nat)) : Bool :=
  Region.noSelect l.toArray && decide (n < l.length) && Region.sinkB .any l.toArray n && Region.chainB .any l.toArray n && decide (ks.length = n) &&
    ks.all (fun k => decide (k.2 < l.length)) && planB .any l.toArray n (l.length - n) ks (Array.replicate l.length false)
theorem wpAny_plan {a : Act} {w : World} {l : List Oper} (n : Nat) (ks : List (Bool × Nat)) (hB : planFormB l n ks = true)
    (hQ : ∀ c a d v w, Q (.panic c) (Act.put a d v) w → Q (.panic c) a w) (hS : ∃ x, w = Wf x)
    (h : wpPlan P l.toArray Q Wf (wpList P l.toArray Q (l.drop n)) (pickPlan l ks) a w) :
    wpAny P .any l.toArray Q l.toArray.size (Array.replicate l.toArray.size false) a w := by
  simp only [planFormB, Bool.and_eq_true, decide_eq_true_eq] at hB
  obtain ⟨⟨⟨⟨⟨⟨hsel, hn⟩, hs⟩, hc⟩, hlen⟩, hk1⟩, hr⟩ := hB
  have hk1' : ∀ k ∈ ks, k.2 < l.length := fun k hk => by simpa using List.all_eq_true.1 hk1 k hk
  have inv0 : HeadInv .any l.toArray n (Array.replicate l.length false) :=
    ⟨by simp, fun j oj _ hl => (by rw [getD_replicate_false] at hl; cases hl), fun t _ ht => getD_in (by simpa using ht) (getD_replicate_false _ _)⟩
  have H := headH_plan (P := P) (Q := Q) (Wf := Wf) (g := l.length - n) (T := wpList P l.toArray Q (l.drop n)) rfl hsel hs hc (by simpa using hn) hQ ks (Array.replicate l.length false) a w inv0 hr hk1' hS h
  have K := headH_sound (g := l.length - n) (fun done a' w' hL => by
    have := wpAny_of_seq (P := P) (md := .any) (Q' := Q) (l.drop n) n done a' w' (fun j => by simp [List.getElem?_drop]) (by simpa using hL.1) hL.2
    simpa using this) _ _ _ _ H
  rw [hlen, show n + (l.length - n) = l.length by omega] at K
  simpa using K
theorem wp_region_plan {id : Nat} {a : Act} {w : World} {l : List Oper} (n : Nat) (ks : List (Bool × Nat)) (hm : P.follows .mixedOrders = true) (hB : planFormB l n ks = true)
    (hQ : ∀ c a d v w, Q (.panic c) (Act.put a d v) w → Q (.panic c) a w) (hS : ∃ x, w.drew = Wf x)
    (h : wpPlan P l.toArray Q Wf (wpList P l.toArray Q (l.drop n)) (pickPlan l ks) a w.drew) : (Code.region id l.toArray true).wp P Q a w :=
  wp_region_any hm (wpAny_plan n ks hB hQ hS h)
end
end Go.Proofs.YtaelfjlmkgimhaaGreatDoor

/- A region that draws its order: reads and others by turns; where several others are ready, one way for each. -/
namespace Go.Proofs.YtaelfjlmkgimhaaGreatDoor
open Go

section
variable {P : Program} {ops : Array Oper} {md : Region.Mode} {X : Type} {Wf : X → World} {Q : Exit → Act → World → Prop}

/-- A tree of orders: what only reads; or one of two that are ready; or the one that is. -/
inductive Tree
  | fin : Tree
  | read : Nat → Tree → Tree
  | act : Nat → Tree → Tree
  | two : Nat → Tree → Nat → Tree → Tree
def Tree.len : Tree → Nat
  | .fin => 0
  | .read _ t => t.len + 1
  | .act _ t => t.len + 1
  | .two _ t _ _ => t.len + 1
def treeB (md : Region.Mode) (ops : Array Oper) (n g : Nat) : Tree → Array Bool → Bool
  | .fin, done => Region.seqB md ops g n done
  | .read k t, done => decide (k < n) && decide (k < ops.size) && (Region.ready md ops done).contains k && Region.free md ops done k && treeB md ops n g t (done.setIfInBounds k true)
  | .act k t, done => decide (k < n) && decide (k < ops.size) && decide (Region.ready md ops done = [k]) && treeB md ops n g t (done.setIfInBounds k true)
  | .two i t j u, done => decide (i < n) && decide (j < n) && decide (i < ops.size) && decide (j < ops.size) && decide (t.len = u.len) && decide (Region.ready md ops done = [i, j]) && treeB md ops n g t (done.setIfInBounds i true) && treeB md ops n g u (done.setIfInBounds j true)
def wpTree (P : Program) (l : List Oper) (Q : Exit → Act → World → Prop) (Wf : X → World) (T : Act → World → Prop) : Tree → Act → World → Prop
  | .fin, a, w => T a w
  | .read k t, a, w => ∀ o, l[k]? = some o → rOp P l.toArray Wf o a (fun a' => wpTree P l Q Wf T t a' w)
  | .act k t, a, w => ∀ o, l[k]? = some o → wpList P l.toArray (Exit.then (fun a' w' => (∃ x, w' = Wf x) ∧ wpTree P l Q Wf T t a' w') Q) [o] a w
  | .two i t j u, a, w => (∀ o, l[i]? = some o → wpList P l.toArray (Exit.then (fun a' w' => (∃ x, w' = Wf x) ∧ wpTree P l Q Wf T t a' w') Q) [o] a w) ∧
      ∀ o, l[j]? = some o → wpList P l.toArray (Exit.then (fun a' w' => (∃ x, w' = Wf x) ∧ wpTree P l Q Wf T u a' w') Q) [o] a w
theorem wpTree_fin {l : List Oper} {T : Act → World → Prop} {a : Act} {w : World} (h : T a w) : wpTree P l Q Wf T .fin a w := h
theorem wpTree_read {l : List Oper} {T : Act → World → Prop} {k : Nat} {t : Tree} {a : Act} {w : World} (o : Oper) (ho : l[k]? = some o) (h : ∀ K : Act → Prop, (∀ a, wpTree P l Q Wf T t a w → K a) → rOp P l.toArray Wf o a K) : wpTree P l Q Wf T (.read k t) a w := by
  intro o' h'
  rw [ho] at h'; cases h'
  exact h _ (fun _ h => h)
theorem wpTree_act {l : List Oper} {T : Act → World → Prop} {k : Nat} {t : Tree} {a : Act} {w : World} (o : Oper) (ho : l[k]? = some o) (h : wpList P l.toArray (Exit.then (fun a' w' => (∃ x, w' = Wf x) ∧ wpTree P l Q Wf T t a' w') Q) [o] a w) : wpTree P l Q Wf T (.act k t) a w := by
  intro o' h'
  rw [ho] at h'; cases h'
  exact h
theorem wpTree_two {l : List Oper} {T : Act → World → Prop} {i j : Nat} {t u : Tree} {a : Act} {w : World} (h1 : wpTree P l Q Wf T (.act i t) a w) (h2 : wpTree P l Q Wf T (.act j u) a w) : wpTree P l Q Wf T (.two i t j u) a w := ⟨h1, h2⟩

theorem headH_tree {n g : Nat} {T : Act → World → Prop} {l : List Oper} (hl : ops = l.toArray) (hsel : Region.noSelect ops = true)
    (hs : Region.sinkB md ops n = true) (hc : Region.chainB md ops n = true) (hn : n < ops.size)
    (hQ : ∀ c a d v w, Q (.panic c) (Act.put a d v) w → Q (.panic c) a w) : ∀ (t : Tree) (done : Array Bool) (a : Act) (w : World), HeadInv md ops n done → treeB md ops n g t done = true →
    (∃ x, w = Wf x) → wpTree P l Q Wf T t a w → headH P md ops Q Wf n (fun done' a' w' => Region.seqB md ops g n done' = true ∧ T a' w') t.len done a w
  | .fin, done, a, w, _, hB, _, h => ⟨hB, h⟩
  | .read k t, done, a, w, inv, hB, hS, h => by
    simp only [treeB, Bool.and_eq_true, decide_eq_true_eq, List.contains_iff_mem] at hB
    obtain ⟨⟨⟨⟨h1, hkl⟩, h2⟩, h3⟩, h4⟩ := hB
    obtain ⟨o, ho'⟩ : ∃ o, ops[k]? = some o := ⟨_, Array.getElem?_eq_getElem hkl⟩
    have ho : l[k]? = some o := by rw [hl] at ho'; simpa using ho'
    replace h := h o ho
    rw [← hl] at h
    unfold rOp at h
    have hL : ∀ done a w, (fun (done' : Array Bool) a' w' => Region.seqB md ops g n done' = true ∧ T a' w') done a w → ∀ j ∈ Region.ready md ops done, n ≤ j := fun done a w hL j hj => seqB_ready hL.1 j hj
    by_cases hw : Region.wanted o (yielded ops a.tmps) = true
    · rw [if_pos hw] at h
      obtain ⟨v, hv, hK⟩ := h
      refine headH_first (v := v) ho' hsel hs hc hn h1 hL hQ t.len done a w inv (Region.free_spec ho' h3) h2 (.inl ⟨hw, ?_⟩) hS ?_
      · rintro w' ⟨x, rfl⟩; exact hv x
      · exact headH_tree hl hsel hs hc hn hQ t _ _ w (inv.set h2 h1) h4 hS hK
    · rw [if_neg hw] at h
      refine headH_first (v := undef) ho' hsel hs hc hn h1 hL hQ t.len done a w inv (Region.free_spec ho' h3) h2 (.inr ⟨by simpa using hw, rfl⟩) hS ?_
      exact headH_tree hl hsel hs hc hn hQ t _ _ w (inv.set h2 h1) h4 hS h
  | .act k t, done, a, w, inv, hB, hS, h => by
    simp only [treeB, Bool.and_eq_true, decide_eq_true_eq] at hB
    obtain ⟨⟨⟨h1, hkl⟩, h2⟩, h3⟩ := hB
    obtain ⟨o, ho'⟩ : ∃ o, ops[k]? = some o := ⟨_, Array.getElem?_eq_getElem hkl⟩
    have ho : l[k]? = some o := by rw [hl] at ho'; simpa using ho'
    replace h := h o ho
    rw [← hl] at h
    refine ⟨by rw [h2]; simp, fun i hi => ?_⟩
    have hi0 := hi
    rw [h2] at hi
    have e : i = k := by simpa using hi
    subst e
    exact ⟨h1, wpOp_mono (fun a' w' h' => ⟨h'.1, headH_tree hl hsel hs hc hn hQ t _ a' w' (inv.set hi0 h1) h3 h'.1 h'.2⟩) (wpOp_of_list ho' h)⟩
  | .two i t j u, done, a, w, inv, hB, hS, h => by
    simp only [treeB, Bool.and_eq_true, decide_eq_true_eq] at hB
    obtain ⟨⟨⟨⟨⟨⟨⟨h1, h1'⟩, hil⟩, hjl⟩, hlen⟩, h2⟩, h3⟩, h4⟩ := hB
    obtain ⟨oi, hoi'⟩ : ∃ o, ops[i]? = some o := ⟨_, Array.getElem?_eq_getElem hil⟩
    obtain ⟨oj, hoj'⟩ : ∃ o, ops[j]? = some o := ⟨_, Array.getElem?_eq_getElem hjl⟩
    have hoi : l[i]? = some oi := by rw [hl] at hoi'; simpa using hoi'
    have hoj : l[j]? = some oj := by rw [hl] at hoj'; simpa using hoj'
    have ha := h.1 oi hoi
    have hb := h.2 oj hoj
    rw [← hl] at ha hb
    refine ⟨by rw [h2]; simp, fun k hk => ?_⟩
    have hk0 := hk
    rw [h2] at hk
    simp only [List.mem_cons, List.not_mem_nil, or_false] at hk
    rcases hk with rfl | rfl
    · exact ⟨h1, wpOp_mono (fun a' w' h' => ⟨h'.1, headH_tree hl hsel hs hc hn hQ t _ a' w' (inv.set hk0 h1) h3 h'.1 h'.2⟩) (wpOp_of_list hoi' ha)⟩
    · refine ⟨h1', wpOp_mono (fun a' w' h' => ⟨h'.1, ?_⟩) (wpOp_of_list hoj' hb)⟩
      show headH _ _ _ _ _ _ _ t.len _ _ _
      rw [hlen]
      exact headH_tree hl hsel hs hc hn hQ u _ a' w' (inv.set hk0 h1') h4 h'.1 h'.2

def treeFormB (l : List Oper) (n : Nat) (t : Tree) : Bool :=
  Region.noSelect l.toArray && decide (n < l.length) && Region.sinkB .any l.toArray n && Region.chainB .any l.toArray n && decide (t.len = n) && treeB .any l.toArray n (l.length - n) t (Array.replicate l.length false)
theorem wpAny_tree {a : Act} {w : World} {l : List Oper} (n : Nat) (t : Tree) (hB : treeFormB l n t = true)
    (hQ : ∀ c a d v w, Q (.panic c) (Act.put a d v) w → Q (.panic c) a w) (hS : ∃ x, w = Wf x)
    (h : wpTree P l Q Wf (wpList P l.toArray Q (l.drop n)) t a w) :
    wpAny P .any l.toArray Q l.toArray.size (Array.replicate l.toArray.size false) a w := by
  simp only [treeFormB, Bool.and_eq_true, decide_eq_true_eq] at hB
  obtain ⟨⟨⟨⟨⟨hsel, hn⟩, hs⟩, hc⟩, hlen⟩, hr⟩ := hB
  have inv0 : HeadInv .any l.toArray n (Array.replicate l.length false) :=
    ⟨by simp, fun j oj _ hl => (by rw [getD_replicate_false] at hl; cases hl), fun t _ ht => getD_in (by simpa using ht) (getD_replicate_false _ _)⟩
  have H := headH_tree (P := P) (Q := Q) (Wf := Wf) (g := l.length - n) (T := wpList P l.toArray Q (l.drop n)) rfl hsel hs hc (by simpa using hn) hQ t (Array.replicate l.length false) a w inv0 hr hS h
  have K := headH_sound (g := l.length - n) (fun done a' w' hL => by
    have := wpAny_of_seq (P := P) (md := .any) (Q' := Q) (l.drop n) n done a' w' (fun j => by simp [List.getElem?_drop]) (by simpa using hL.1) hL.2
    simpa using this) _ _ _ _ H
  rw [hlen, show n + (l.length - n) = l.length by omega] at K
  simpa using K
theorem wp_region_tree {id : Nat} {a : Act} {w : World} {l : List Oper} (n : Nat) (t : Tree) (hm : P.follows .mixedOrders = true) (hB : treeFormB l n t = true)
    (hQ : ∀ c a d v w, Q (.panic c) (Act.put a d v) w → Q (.panic c) a w) (hS : ∃ x, w.drew = Wf x)
    (h : wpTree P l Q Wf (wpList P l.toArray Q (l.drop n)) t a w.drew) : (Code.region id l.toArray true).wp P Q a w :=
  wp_region_any hm (wpAny_tree n t hB hQ hS h)
end
end Go.Proofs.YtaelfjlmkgimhaaGreatDoor
