/- A region that draws its order, along a tree of orders, where up to three others are ready at once; its end is forced. -/
import Derived.Test.YtbjanlmnmeegnaaDoorETree
set_option linter.unusedVariables false
set_option linter.unusedSimpArgs false
namespace Go.Proofs.YtbjanlmnmeegnaaDoor
open Go

section
variable {P : Program} {ops : Array Oper} {md : Region.Mode} {X : Type} {Wf : X → World} {Q : Exit → Act → World → Prop}
/-- A tree of orders: what only reads; the one, or one of two, or of three, that are ready. -/
inductive Tre3
  | fin : Tre3
  | read : Nat → Tre3 → Tre3
  | act : Nat → Tre3 → Tre3
  | two : Nat → Tre3 → Nat → Tre3 → Tre3
  | three : Nat → Tre3 → Nat → Tre3 → Nat → Tre3 → Tre3
def Tre3.len : Tre3 → Nat
  | .fin => 0
  | .read _ t => t.len + 1
  | .act _ t => t.len + 1
  | .two _ t _ _ => t.len + 1
  | .three _ t _ _ _ _ => t.len + 1
def wpTre3 (P : Program) (l : List Oper) (Q : Exit → Act → World → Prop) (Wf : X → World) (T : Act → World → Prop) : Tre3 → Act → World → Prop
  | .fin, a, w => T a w
  | .read k t, a, w => ∀ o, l[k]? = some o → rOp P l.toArray Wf o a (fun a' => wpTre3 P l Q Wf T t a' w)
  | .act k t, a, w => ∀ o, l[k]? = some o → wpList P l.toArray (Exit.then (fun a' w' => (∃ x, w' = Wf x) ∧ wpTre3 P l Q Wf T t a' w') Q) [o] a w
  | .two i t j u, a, w => (∀ o, l[i]? = some o → wpList P l.toArray (Exit.then (fun a' w' => (∃ x, w' = Wf x) ∧ wpTre3 P l Q Wf T t a' w') Q) [o] a w) ∧
      ∀ o, l[j]? = some o → wpList P l.toArray (Exit.then (fun a' w' => (∃ x, w' = Wf x) ∧ wpTre3 P l Q Wf T u a' w') Q) [o] a w
  | .three i t j u k v, a, w => (∀ o, l[i]? = some o → wpList P l.toArray (Exit.then (fun a' w' => (∃ x, w' = Wf x) ∧ wpTre3 P l Q Wf T t a' w') Q) [o] a w) ∧
      (∀ o, l[j]? = some o → wpList P l.toArray (Exit.then (fun a' w' => (∃ x, w' = Wf x) ∧ wpTre3 P l Q Wf T u a' w') Q) [o] a w) ∧
      ∀ o, l[k]? = some o → wpList P l.toArray (Exit.then (fun a' w' => (∃ x, w' = Wf x) ∧ wpTre3 P l Q Wf T v a' w') Q) [o] a w
theorem wpTre3_fin {l : List Oper} {T : Act → World → Prop} {a : Act} {w : World} (h : T a w) : wpTre3 P l Q Wf T .fin a w := h
theorem wpTre3_read {l : List Oper} {T : Act → World → Prop} {k : Nat} {t : Tre3} {a : Act} {w : World} (o : Oper) (ho : l[k]? = some o) (h : ∀ K : Act → Prop, (∀ a, wpTre3 P l Q Wf T t a w → K a) → rOp P l.toArray Wf o a K) : wpTre3 P l Q Wf T (.read k t) a w := by
  intro o' h'
  rw [ho] at h'; cases h'
  exact h _ (fun _ h => h)
theorem wpTre3_act {l : List Oper} {T : Act → World → Prop} {k : Nat} {t : Tre3} {a : Act} {w : World} (o : Oper) (ho : l[k]? = some o) (h : wpList P l.toArray (Exit.then (fun a' w' => (∃ x, w' = Wf x) ∧ wpTre3 P l Q Wf T t a' w') Q) [o] a w) : wpTre3 P l Q Wf T (.act k t) a w := by
  intro o' h'
  rw [ho] at h'; cases h'
  exact h
theorem wpTre3_two {l : List Oper} {T : Act → World → Prop} {i j : Nat} {t u : Tre3} {a : Act} {w : World} (h1 : wpTre3 P l Q Wf T (.act i t) a w) (h2 : wpTre3 P l Q Wf T (.act j u) a w) : wpTre3 P l Q Wf T (.two i t j u) a w := ⟨h1, h2⟩
theorem wpTre3_three {l : List Oper} {T : Act → World → Prop} {i j k : Nat} {t u v : Tre3} {a : Act} {w : World} (h1 : wpTre3 P l Q Wf T (.act i t) a w) (h2 : wpTre3 P l Q Wf T (.act j u) a w) (h3 : wpTre3 P l Q Wf T (.act k v) a w) : wpTre3 P l Q Wf T (.three i t j u k v) a w := ⟨h1, h2, h3⟩
def tre3B (md : Region.Mode) (ops : Array Oper) (n g : Nat) : Tre3 → Array Bool → Bool
  | .fin, done => Region.seqB md ops g n done
  | .read k t, done => decide (k < n) && decide (k < ops.size) && (Region.ready md ops done).contains k && Region.free md ops done k && tre3B md ops n g t (done.setIfInBounds k true)
  | .act k t, done => decide (k < n) && decide (k < ops.size) && decide (Region.ready md ops done = [k]) && tre3B md ops n g t (done.setIfInBounds k true)
  | .two i t j u, done => decide (i < n) && decide (j < n) && decide (i < ops.size) && decide (j < ops.size) && decide (t.len = u.len) && decide (Region.ready md ops done = [i, j]) && tre3B md ops n g t (done.setIfInBounds i true) && tre3B md ops n g u (done.setIfInBounds j true)
  | .three i t j u k v, done => decide (i < n) && decide (j < n) && decide (k < n) && decide (i < ops.size) && decide (j < ops.size) && decide (k < ops.size) && decide (t.len = u.len) && decide (t.len = v.len) && decide (Region.ready md ops done = [i, j, k]) && tre3B md ops n g t (done.setIfInBounds i true) && tre3B md ops n g u (done.setIfInBounds j true) && tre3B md ops n g v (done.setIfInBounds k true)
theorem headH_tre3 {n g : Nat} {T : Act → World → Prop} {l : List Oper} (hl : ops = l.toArray) (hsel : Region.noSelect ops = true)
    (hs : Region.sinkB md ops n = true) (hc : Region.chainB md ops n = true) (hn : n < ops.size)
    (hQ : ∀ c a d v w, Q (.panic c) (Act.put a d v) w → Q (.panic c) a w) : ∀ (t : Tre3) (done : Array Bool) (a : Act) (w : World), HeadInv md ops n done → tre3B md ops n g t done = true →
    (∃ x, w = Wf x) → wpTre3 P l Q Wf T t a w → headH P md ops Q Wf n (fun done' a' w' => Region.seqB md ops g n done' = true ∧ T a' w') t.len done a w
  | .fin, done, a, w, _, hB, _, h => ⟨hB, h⟩
  | .read k t, done, a, w, inv, hB, hS, h => by
    simp only [tre3B, Bool.and_eq_true, decide_eq_true_eq, List.contains_iff_mem] at hB
    obtain ⟨⟨⟨⟨h1, hkl⟩, h2⟩, h3⟩, h4⟩ := hB
    obtain ⟨o, ho'⟩ : ∃ o, ops[k]? = some o := ⟨_, Array.getElem?_eq_getElem hkl⟩
    have ho : l[k]? = some o := by rw [hl] at ho'; simpa using ho'
    replace h := h o ho
    rw [← hl] at h
    unfold rOp at h
    have hL : ∀ done a w, (fun (done' : Array Bool) a' w' => Region.seqB md ops g n done' = true ∧ T a' w') done a w → ∀ j ∈ Region.ready md ops done, n ≤ j := fun done a w hL j hj => seqB_ready hL.1 j hj
    by_cases hw : Region.wanted o (yielded ops a.tmps) = true
    · rw [if_pos hw] at h
      obtain ⟨v, hv, hK⟩ := h
      refine headH_first (v := v) ho' hsel hs hc hn h1 hL hQ t.len done a w inv (Region.free_spec ho' h3) h2 (.inl ⟨hw, ?_⟩) hS ?_
      · rintro w' ⟨x, rfl⟩; exact hv x
      · exact headH_tre3 hl hsel hs hc hn hQ t _ _ w (inv.set h2 h1) h4 hS hK
    · rw [if_neg hw] at h
      refine headH_first (v := undef) ho' hsel hs hc hn h1 hL hQ t.len done a w inv (Region.free_spec ho' h3) h2 (.inr ⟨by simpa using hw, rfl⟩) hS ?_
      exact headH_tre3 hl hsel hs hc hn hQ t _ _ w (inv.set h2 h1) h4 hS h
  | .act k t, done, a, w, inv, hB, hS, h => by
    simp only [tre3B, Bool.and_eq_true, decide_eq_true_eq] at hB
    obtain ⟨⟨⟨h1, hkl⟩, h2⟩, h3⟩ := hB
    obtain ⟨o, ho'⟩ : ∃ o, ops[k]? = some o := ⟨_, Array.getElem?_eq_getElem hkl⟩
    have ho : l[k]? = some o := by rw [hl] at ho'; simpa using ho'
    replace h := h o ho
    rw [← hl] at h
    refine ⟨by rw [h2]; simp, fun i hi => ?_⟩
    have hi0 := hi
    rw [h2] at hi
    have e : i = k := by simpa using hi
    subst e
    exact ⟨h1, wpOp_mono (fun a' w' h' => ⟨h'.1, headH_tre3 hl hsel hs hc hn hQ t _ a' w' (inv.set hi0 h1) h3 h'.1 h'.2⟩) (wpOp_of_list ho' h)⟩
  | .two i t j u, done, a, w, inv, hB, hS, h => by
    simp only [tre3B, Bool.and_eq_true, decide_eq_true_eq] at hB
    obtain ⟨⟨⟨⟨⟨⟨⟨h1, h1'⟩, hil⟩, hjl⟩, hlen⟩, h2⟩, h3⟩, h4⟩ := hB
    obtain ⟨oi, hoi'⟩ : ∃ o, ops[i]? = some o := ⟨_, Array.getElem?_eq_getElem hil⟩
    obtain ⟨oj, hoj'⟩ : ∃ o, ops[j]? = some o := ⟨_, Array.getElem?_eq_getElem hjl⟩
    have hoi : l[i]? = some oi := by rw [hl] at hoi'; simpa using hoi'
    have hoj : l[j]? = some oj := by rw [hl] at hoj'; simpa using hoj'
    have ha := h.1 oi hoi
    have hb := h.2 oj hoj
    rw [← hl] at ha hb
    refine ⟨by rw [h2]; simp, fun k hk => ?_⟩
    have hk0 := hk
    rw [h2] at hk
    simp only [List.mem_cons, List.not_mem_nil, or_false] at hk
    rcases hk with rfl | rfl
    · exact ⟨h1, wpOp_mono (fun a' w' h' => ⟨h'.1, headH_tre3 hl hsel hs hc hn hQ t _ a' w' (inv.set hk0 h1) h3 h'.1 h'.2⟩) (wpOp_of_list hoi' ha)⟩
    · refine ⟨h1', wpOp_mono (fun a' w' h' => ⟨h'.1, ?_⟩) (wpOp_of_list hoj' hb)⟩
      show headH _ _ _ _ _ _ _ t.len _ _ _
      rw [hlen]
      exact headH_tre3 hl hsel hs hc hn hQ u _ a' w' (inv.set hk0 h1') h4 h'.1 h'.2
  | .three i t j u m v, done, a, w, inv, hB, hS, h => by
    simp only [tre3B, Bool.and_eq_true, decide_eq_true_eq] at hB
    obtain ⟨⟨⟨⟨⟨⟨⟨⟨⟨⟨⟨h1, h1'⟩, h1''⟩, hil⟩, hjl⟩, hml⟩, hlen⟩, hlen2⟩, h2⟩, h3⟩, h4⟩, h5⟩ := hB
    obtain ⟨oi, hoi'⟩ : ∃ o, ops[i]? = some o := ⟨_, Array.getElem?_eq_getElem hil⟩
    obtain ⟨oj, hoj'⟩ : ∃ o, ops[j]? = some o := ⟨_, Array.getElem?_eq_getElem hjl⟩
    obtain ⟨om, hom'⟩ : ∃ o, ops[m]? = some o := ⟨_, Array.getElem?_eq_getElem hml⟩
    have hoi : l[i]? = some oi := by rw [hl] at hoi'; simpa using hoi'
    have hoj : l[j]? = some oj := by rw [hl] at hoj'; simpa using hoj'
    have hom : l[m]? = some om := by rw [hl] at hom'; simpa using hom'
    have ha := h.1 oi hoi
    have hb := h.2.1 oj hoj
    have hcc := h.2.2 om hom
    rw [← hl] at ha hb hcc
    refine ⟨by rw [h2]; simp, fun k hk => ?_⟩
    have hk0 := hk
    rw [h2] at hk
    simp only [List.mem_cons, List.not_mem_nil, or_false] at hk
    rcases hk with rfl | rfl | rfl
    · exact ⟨h1, wpOp_mono (fun a' w' h' => ⟨h'.1, headH_tre3 hl hsel hs hc hn hQ t _ a' w' (inv.set hk0 h1) h3 h'.1 h'.2⟩) (wpOp_of_list hoi' ha)⟩
    · refine ⟨h1', wpOp_mono (fun a' w' h' => ⟨h'.1, ?_⟩) (wpOp_of_list hoj' hb)⟩
      show headH _ _ _ _ _ _ _ t.len _ _ _
      rw [hlen]
      exact headH_tre3 hl hsel hs hc hn hQ u _ a' w' (inv.set hk0 h1') h4 h'.1 h'.2
    · refine ⟨h1'', wpOp_mono (fun a' w' h' => ⟨h'.1, ?_⟩) (wpOp_of_list hom' hcc)⟩
      show headH _ _ _ _ _ _ _ t.len _ _ _
      rw [hlen2]
      exact headH_tre3 hl hsel hs hc hn hQ v _ a' w' (inv.set hk0 h1'') h5 h'.1 h'.2

def tre3FormB (l : List Oper) (n : Nat) (t : Tre3) : Bool :=
  Region.noSelect l.toArray && decide (n < l.length) && Region.sinkB .any l.toArray n && Region.chainB .any l.toArray n && decide (t.len = n) && tre3B .any l.toArray n (l.length - n) t (Array.replicate l.length false)
theorem wpAny_tre3 {a : Act} {w : World} {l : List Oper} (n : Nat) (t : Tre3) (hB : tre3FormB l n t = true)
    (hQ : ∀ c a d v w, Q (.panic c) (Act.put a d v) w → Q (.panic c) a w) (hS : ∃ x, w = Wf x)
    (h : wpTre3 P l Q Wf (wpList P l.toArray Q (l.drop n)) t a w) :
    wpAny P .any l.toArray Q l.toArray.size (Array.replicate l.toArray.size false) a w := by
  simp only [tre3FormB, Bool.and_eq_true, decide_eq_true_eq] at hB
  obtain ⟨⟨⟨⟨⟨hsel, hn⟩, hs⟩, hc⟩, hlen⟩, hr⟩ := hB
  have inv0 : HeadInv .any l.toArray n (Array.replicate l.length false) :=
    ⟨by simp, fun j oj _ hl => (by rw [getD_replicate_false] at hl; cases hl), fun t _ ht => getD_in (by simpa using ht) (getD_replicate_false _ _)⟩
  have H := headH_tre3 (P := P) (Q := Q) (Wf := Wf) (g := l.length - n) (T := wpList P l.toArray Q (l.drop n)) rfl hsel hs hc (by simpa using hn) hQ t (Array.replicate l.length false) a w inv0 hr hS h
  have K := headH_sound (g := l.length - n) (fun done a' w' hL => by
    have := wpAny_of_seq (P := P) (md := .any) (Q' := Q) (l.drop n) n done a' w' (fun j => by simp [List.getElem?_drop]) (by simpa using hL.1) hL.2
    simpa using this) _ _ _ _ H
  rw [hlen, show n + (l.length - n) = l.length by omega] at K
  simpa using K
theorem wp_region_tre3 {id : Nat} {a : Act} {w : World} {l : List Oper} (n : Nat) (t : Tre3) (hm : P.follows .mixedOrders = true) (hB : tre3FormB l n t = true)
    (hQ : ∀ c a d v w, Q (.panic c) (Act.put a d v) w → Q (.panic c) a w) (hS : ∃ x, w.drew = Wf x)
    (h : wpTre3 P l Q Wf (wpList P l.toArray Q (l.drop n)) t a w.drew) : (Code.region id l.toArray true).wp P Q a w :=
  wp_region_any hm (wpAny_tre3 n t hB hQ hS h)
end
end Go.Proofs.YtbjanlmnmeegnaaDoor
