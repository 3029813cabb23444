/- A region that draws its order, along a tree of orders with up to three ready, that ends where all is done (no forced tail). -/
import Derived.Test.YtbjanlmnmeegnaaDoorETr3
import Derived.Test.YtbjanlmnmeegnaaDoorBar
set_option linter.unusedVariables false
set_option linter.unusedSimpArgs false
namespace Go.Proofs.YtbjanlmnmeegnaaDoor
open Go

section
variable {P : Program} {ops : Array Oper} {md : Region.Mode} {X : Type} {Wf : X → World} {Q : Exit → Act → World → Prop}
def tre3Z (md : Region.Mode) (ops : Array Oper) : Tre3 → Array Bool → Bool
  | .fin, done => decide (Region.ready md ops done = [])
  | .read k t, done => decide (k < ops.size) && (Region.ready md ops done).contains k && Region.free md ops done k && tre3Z md ops t (done.setIfInBounds k true)
  | .act k t, done => decide (k < ops.size) && decide (Region.ready md ops done = [k]) && tre3Z md ops t (done.setIfInBounds k true)
  | .two i t j u, done => decide (i < ops.size) && decide (j < ops.size) && decide (t.len = u.len) && decide (Region.ready md ops done = [i, j]) && tre3Z md ops t (done.setIfInBounds i true) && tre3Z md ops u (done.setIfInBounds j true)
  | .three i t j u m v, done => decide (i < ops.size) && decide (j < ops.size) && decide (m < ops.size) && decide (t.len = u.len) && decide (t.len = v.len) && decide (Region.ready md ops done = [i, j, m]) && tre3Z md ops t (done.setIfInBounds i true) && tre3Z md ops u (done.setIfInBounds j true) && tre3Z md ops v (done.setIfInBounds m true)
theorem headZ_tre3 {l : List Oper} (hl : ops = l.toArray) (hsel : Region.noSelect ops = true) (hbar : barB md ops ops.size = true)
    (hQ : ∀ c a d v w, Q (.panic c) (Act.put a d v) w → Q (.panic c) a w) : ∀ (t : Tre3) (done : Array Bool) (a : Act) (w : World), tre3Z md ops t done = true →
    (∃ x, w = Wf x) → wpTre3 P l Q Wf (Q .normal) t a w → headH P md ops Q Wf ops.size (fun done' a' w' => Region.ready md ops done' = [] ∧ Q .normal a' w') t.len done a w
  | .fin, done, a, w, hB, _, h => ⟨by simpa [tre3Z] using hB, h⟩
  | .read k t, done, a, w, hB, hS, h => by
    simp only [tre3Z, Bool.and_eq_true, decide_eq_true_eq, List.contains_iff_mem] at hB
    obtain ⟨⟨⟨hkl, h2⟩, h3⟩, h4⟩ := hB
    obtain ⟨o, ho'⟩ : ∃ o, ops[k]? = some o := ⟨_, Array.getElem?_eq_getElem hkl⟩
    have ho : l[k]? = some o := by rw [hl] at ho'; simpa using ho'
    replace h := h o ho
    rw [← hl] at h
    unfold rOp at h
    have hL : ∀ done a w, (fun (done' : Array Bool) a' w' => Region.ready md ops done' = [] ∧ Q .normal a' w') done a w → ∀ j ∈ Region.ready md ops done, ops.size ≤ j := fun done a w hL j hj => by rw [hL.1] at hj; cases hj
    by_cases hw : Region.wanted o (yielded ops a.tmps) = true
    · rw [if_pos hw] at h
      obtain ⟨v, hv, hK⟩ := h
      refine headB_first (v := v) ho' hsel hbar hkl hL hQ t.len done a w (Region.free_spec ho' h3) h2 (.inl ⟨hw, ?_⟩) hS ?_
      · rintro w' ⟨x, rfl⟩; exact hv x
      · exact headZ_tre3 hl hsel hbar hQ t _ _ w h4 hS hK
    · rw [if_neg hw] at h
      refine headB_first (v := undef) ho' hsel hbar hkl hL hQ t.len done a w (Region.free_spec ho' h3) h2 (.inr ⟨by simpa using hw, rfl⟩) hS ?_
      exact headZ_tre3 hl hsel hbar hQ t _ _ w h4 hS h
  | .act k t, done, a, w, hB, hS, h => by
    simp only [tre3Z, Bool.and_eq_true, decide_eq_true_eq] at hB
    obtain ⟨⟨hkl, h2⟩, h3⟩ := hB
    obtain ⟨o, ho'⟩ : ∃ o, ops[k]? = some o := ⟨_, Array.getElem?_eq_getElem hkl⟩
    have ho : l[k]? = some o := by rw [hl] at ho'; simpa using ho'
    replace h := h o ho
    rw [← hl] at h
    refine ⟨by rw [h2]; simp, fun i hi => ?_⟩
    rw [h2] at hi
    have e : i = k := by simpa using hi
    subst e
    exact ⟨hkl, wpOp_mono (fun a' w' h' => ⟨h'.1, headZ_tre3 hl hsel hbar hQ t _ a' w' h3 h'.1 h'.2⟩) (wpOp_of_list ho' h)⟩
  | .two i t j u, done, a, w, hB, hS, h => by
    simp only [tre3Z, Bool.and_eq_true, decide_eq_true_eq] at hB
    obtain ⟨⟨⟨⟨⟨hil, hjl⟩, hlen⟩, h2⟩, h3⟩, h4⟩ := hB
    obtain ⟨oi, hoi'⟩ : ∃ o, ops[i]? = some o := ⟨_, Array.getElem?_eq_getElem hil⟩
    obtain ⟨oj, hoj'⟩ : ∃ o, ops[j]? = some o := ⟨_, Array.getElem?_eq_getElem hjl⟩
    have hoi : l[i]? = some oi := by rw [hl] at hoi'; simpa using hoi'
    have hoj : l[j]? = some oj := by rw [hl] at hoj'; simpa using hoj'
    have ha := h.1 oi hoi
    have hb := h.2 oj hoj
    rw [← hl] at ha hb
    refine ⟨by rw [h2]; simp, fun k hk => ?_⟩
    rw [h2] at hk
    simp only [List.mem_cons, List.not_mem_nil, or_false] at hk
    rcases hk with rfl | rfl
    · exact ⟨hil, wpOp_mono (fun a' w' h' => ⟨h'.1, headZ_tre3 hl hsel hbar hQ t _ a' w' h3 h'.1 h'.2⟩) (wpOp_of_list hoi' ha)⟩
    · refine ⟨hjl, wpOp_mono (fun a' w' h' => ⟨h'.1, ?_⟩) (wpOp_of_list hoj' hb)⟩
      show headH _ _ _ _ _ _ _ t.len _ _ _
      rw [hlen]
      exact headZ_tre3 hl hsel hbar hQ u _ a' w' h4 h'.1 h'.2
  | .three i t j u m v, done, a, w, hB, hS, h => by
    simp only [tre3Z, Bool.and_eq_true, decide_eq_true_eq] at hB
    obtain ⟨⟨⟨⟨⟨⟨⟨⟨hil, hjl⟩, hml⟩, hlen⟩, hlen2⟩, h2⟩, h3⟩, h4⟩, h5⟩ := hB
    obtain ⟨oi, hoi'⟩ : ∃ o, ops[i]? = some o := ⟨_, Array.getElem?_eq_getElem hil⟩
    obtain ⟨oj, hoj'⟩ : ∃ o, ops[j]? = some o := ⟨_, Array.getElem?_eq_getElem hjl⟩
    obtain ⟨om, hom'⟩ : ∃ o, ops[m]? = some o := ⟨_, Array.getElem?_eq_getElem hml⟩
    have hoi : l[i]? = some oi := by rw [hl] at hoi'; simpa using hoi'
    have hoj : l[j]? = some oj := by rw [hl] at hoj'; simpa using hoj'
    have hom : l[m]? = some om := by rw [hl] at hom'; simpa using hom'
    have ha := h.1 oi hoi
    have hb := h.2.1 oj hoj
    have hcc := h.2.2 om hom
    rw [← hl] at ha hb hcc
    refine ⟨by rw [h2]; simp, fun k hk => ?_⟩
    rw [h2] at hk
    simp only [List.mem_cons, List.not_mem_nil, or_false] at hk
    rcases hk with rfl | rfl | rfl
    · exact ⟨hil, wpOp_mono (fun a' w' h' => ⟨h'.1, headZ_tre3 hl hsel hbar hQ t _ a' w' h3 h'.1 h'.2⟩) (wpOp_of_list hoi' ha)⟩
    · refine ⟨hjl, wpOp_mono (fun a' w' h' => ⟨h'.1, ?_⟩) (wpOp_of_list hoj' hb)⟩
      show headH _ _ _ _ _ _ _ t.len _ _ _
      rw [hlen]
      exact headZ_tre3 hl hsel hbar hQ u _ a' w' h4 h'.1 h'.2
    · refine ⟨hml, wpOp_mono (fun a' w' h' => ⟨h'.1, ?_⟩) (wpOp_of_list hom' hcc)⟩
      show headH _ _ _ _ _ _ _ t.len _ _ _
      rw [hlen2]
      exact headZ_tre3 hl hsel hbar hQ v _ a' w' h5 h'.1 h'.2
def tre3ZB (l : List Oper) (t : Tre3) : Bool :=
  Region.noSelect l.toArray && decide (t.len = l.length) && tre3Z .any l.toArray t (Array.replicate l.length false)
theorem bar_full (ops : Array Oper) : barB md ops ops.size = true := by
  unfold barB
  rw [List.all_eq_true]
  intro t ht
  rw [List.mem_range] at ht
  simp [ht]
theorem wpAny_tre3Z {a : Act} {w : World} {l : List Oper} (t : Tre3) (hB : tre3ZB l t = true)
    (hQ : ∀ c a d v w, Q (.panic c) (Act.put a d v) w → Q (.panic c) a w) (hS : ∃ x, w = Wf x)
    (h : wpTre3 P l Q Wf (Q .normal) t a w) : wpAny P .any l.toArray Q l.toArray.size (Array.replicate l.toArray.size false) a w := by
  simp only [tre3ZB, Bool.and_eq_true, decide_eq_true_eq] at hB
  obtain ⟨⟨hsel, hlen⟩, hr⟩ := hB
  have H := headZ_tre3 (P := P) (Q := Q) (Wf := Wf) (ops := l.toArray) rfl hsel (bar_full _) hQ t (Array.replicate l.length false) a w hr hS h
  have K := headH_sound (g := 0) (fun done a' w' hL => wpAny_done hL.1 hL.2 _) _ _ _ _ H
  rw [hlen] at K
  simpa using K
theorem wp_region_tre3Z {id : Nat} {a : Act} {w : World} {l : List Oper} (t : Tre3) (hm : P.follows .mixedOrders = true) (hB : tre3ZB l t = true)
    (hQ : ∀ c a d v w, Q (.panic c) (Act.put a d v) w → Q (.panic c) a w) (hS : ∃ x, w.drew = Wf x)
    (h : wpTre3 P l Q Wf (Q .normal) t a w.drew) : (Code.region id l.toArray true).wp P Q a w :=
  wp_region_any hm (wpAny_tre3Z t hB hQ hS h)
end
end Go.Proofs.YtbjanlmnmeegnaaDoor
