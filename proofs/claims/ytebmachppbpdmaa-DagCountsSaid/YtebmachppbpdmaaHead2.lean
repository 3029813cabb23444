/- As XHead; where two operations of the head are ready together, both orders are walked. -/
import Derived.Test.YtebmachppbpdmaaHead
namespace Go.Proofs.Ytebmachppbpdmaa
open Go

section
variable {P : Program} {ops : Array Oper} {md : Region.Mode} {X : Type} {Wf : X → World} {Q : Exit → Act → World → Prop}

def acts2B (md : Region.Mode) (ops : Array Oper) (n g : Nat) (i j : Nat) (rest : List Nat) (done : Array Bool) : Bool :=
  decide (i < n) && decide (j < n) && decide (Region.ready md ops done = [i, j]) && actsB md ops n g (j :: rest) (done.setIfInBounds i true) && actsB md ops n g (i :: rest) (done.setIfInBounds j true)
theorem headH_acts2 {n g : Nat} {T : Act → World → Prop} {l : List Oper} (hl : ops = l.toArray) (i j : Nat) (rest : List Nat) (done : Array Bool) (a : Act) (w : World) (hB : acts2B md ops n g i j rest done = true)
    (hk : ∀ k ∈ i :: j :: rest, k < l.length) (h1 : wpActs P ops Q Wf T (pickOps l (i :: j :: rest)) a w) (h2 : wpActs P ops Q Wf T (pickOps l (j :: i :: rest)) a w) :
    headH P md ops Q Wf n (fun done' a' w' => Region.seqB md ops g n done' = true ∧ T a' w') (i :: j :: rest).length done a w := by
  simp only [acts2B, Bool.and_eq_true, decide_eq_true_eq] at hB
  obtain ⟨⟨⟨⟨b1, b2⟩, b3⟩, b4⟩, b5⟩ := hB
  obtain ⟨oi, hoi⟩ : ∃ o, l[i]? = some o := ⟨_, List.getElem?_eq_getElem (hk i (by simp))⟩
  obtain ⟨oj, hoj⟩ : ∃ o, l[j]? = some o := ⟨_, List.getElem?_eq_getElem (hk j (by simp))⟩
  have p1 : pickOps l (i :: j :: rest) = oi :: pickOps l (j :: rest) := by simp [pickOps, hoi]
  have p2 : pickOps l (j :: i :: rest) = oj :: pickOps l (i :: rest) := by simp [pickOps, hoj]
  rw [p1] at h1
  rw [p2] at h2
  refine ⟨by rw [b3]; simp, fun k hkr => ?_⟩
  rw [b3] at hkr
  simp only [List.mem_cons, List.not_mem_nil, or_false] at hkr
  rcases hkr with rfl | rfl
  · exact ⟨b1, wpOp_mono (fun a' w' h' => ⟨h'.1, headH_acts hl (j :: rest) _ a' w' b4 (fun m hm => hk m (List.mem_cons_of_mem _ hm)) h'.2⟩) (wpOp_of_list (by rw [hl]; simpa using hoi) h1)⟩
  · exact ⟨b2, wpOp_mono (fun a' w' h' => ⟨h'.1, headH_acts hl (i :: rest) _ a' w' b5 (fun m hm => hk m (by rcases List.mem_cons.1 hm with e | e; exact e ▸ List.mem_cons_self; exact List.mem_cons_of_mem _ (List.mem_cons_of_mem _ e))) h'.2⟩) (wpOp_of_list (by rw [hl]; simpa using hoj) h2)⟩
def headForm2B (l : List Oper) (n : Nat) (ks : List Nat) (i j : Nat) (rest : List Nat) : Bool :=
  Region.noSelect l.toArray && decide (n < l.length) && Region.sinkB .any l.toArray n && Region.chainB .any l.toArray n && decide (ks.length + (rest.length + 2) = n) &&
    ks.all (fun k => decide (k < l.length)) && (i :: j :: rest).all (fun k => decide (k < l.length)) && readsB .any l.toArray n ks (Array.replicate l.length false) &&
    acts2B .any l.toArray n (l.length - n) i j rest (setAll ks (Array.replicate l.length false))
theorem wpReads_mono : ∀ (l' : List Oper) (R R' : Act → Prop) (a : Act), (∀ a, R a → R' a) → wpReads P ops Wf R l' a → wpReads P ops Wf R' l' a := by
  intro l'
  induction l' with
  | nil => intro R R' a hR h; exact hR _ h
  | cons o l' ih =>
    intro R R' a hR h
    unfold wpReads rOp at h ⊢
    split
    · rename_i hw
      rw [if_pos hw] at h
      obtain ⟨v, h1, h2⟩ := h
      exact ⟨v, h1, ih R R' _ hR h2⟩
    · rename_i hw
      rw [if_neg hw] at h
      exact ih R R' _ hR h
theorem wpAny_reads2 {a : Act} {w : World} {l : List Oper} (n : Nat) (ks : List Nat) (i j : Nat) (rest : List Nat) (hB : headForm2B l n ks i j rest = true)
    (hQ : ∀ c a d v w, Q (.panic c) (Act.put a d v) w → Q (.panic c) a w) (hS : ∃ x, w = Wf x)
    (h : wpReads P l.toArray Wf (fun a' => wpActs P l.toArray Q Wf (wpList P l.toArray Q (l.drop n)) (pickOps l (i :: j :: rest)) a' w ∧ wpActs P l.toArray Q Wf (wpList P l.toArray Q (l.drop n)) (pickOps l (j :: i :: rest)) a' w) (pickOps l ks) a) :
    wpAny P .any l.toArray Q l.toArray.size (Array.replicate l.toArray.size false) a w := by
  simp only [headForm2B, Bool.and_eq_true, decide_eq_true_eq] at hB
  obtain ⟨⟨⟨⟨⟨⟨⟨⟨hsel, hn⟩, hs⟩, hc⟩, hlen⟩, hk1⟩, hk2⟩, hr⟩, ha⟩ := hB
  have hk1' : ∀ k ∈ ks, k < l.length := fun k hk => by simpa using List.all_eq_true.1 hk1 k hk
  have hk2' : ∀ k ∈ i :: j :: rest, k < l.length := fun k hk => by simpa using List.all_eq_true.1 hk2 k hk
  have inv0 : HeadInv .any l.toArray n (Array.replicate l.length false) :=
    ⟨by simp, fun j oj _ hl => (by rw [getD_replicate_false] at hl; cases hl), fun t _ ht => getD_in (by simpa using ht) (getD_replicate_false _ _)⟩
  have H := headH_reads (P := P) (Q := Q) (Wf := Wf) (f := (i :: j :: rest).length) (L := fun done' a' w' => Region.seqB .any l.toArray (l.length - n) n done' = true ∧ wpList P l.toArray Q (l.drop n) a' w') rfl hsel hs hc (by simpa using hn)
    (fun done a w hL j hj => seqB_ready hL.1 j hj) hQ ks (Array.replicate l.length false) a w inv0 hr hk1' hS
    (wpReads_mono _ _ _ a (fun a' h' => headH_acts2 rfl i j rest _ a' w ha hk2' h'.1 h'.2) h)
  have K := headH_sound (g := l.length - n) (fun done a' w' hL => by
    have := wpAny_of_seq (P := P) (md := .any) (Q' := Q) (l.drop n) n done a' w' (fun j => by simp [List.getElem?_drop]) (by simpa using hL.1) hL.2
    simpa using this) _ _ _ _ H
  rw [List.length_cons, List.length_cons, show ks.length + (rest.length + 1 + 1) + (l.length - n) = l.length by omega] at K
  simpa using K
theorem wp_region_reads2 {id : Nat} {a : Act} {w : World} {l : List Oper} (n : Nat) (ks : List Nat) (i j : Nat) (rest : List Nat) (hm : P.follows .mixedOrders = true) (hB : headForm2B l n ks i j rest = true)
    (hQ : ∀ c a d v w, Q (.panic c) (Act.put a d v) w → Q (.panic c) a w) (hS : ∃ x, w.drew = Wf x)
    (h : wpReads P l.toArray Wf (fun a' => wpActs P l.toArray Q Wf (wpList P l.toArray Q (l.drop n)) (pickOps l (i :: j :: rest)) a' w.drew ∧ wpActs P l.toArray Q Wf (wpList P l.toArray Q (l.drop n)) (pickOps l (j :: i :: rest)) a' w.drew) (pickOps l ks) a) : (Code.region id l.toArray true).wp P Q a w :=
  wp_region_any hm (wpAny_reads2 n ks i j rest hB hQ hS h)
theorem wpIn_region_reads2R {n k id : Nat} {a : Act} {w : World} {l : List Oper} (m : Nat) (ks : List Nat) (i j : Nat) (rest : List Nat) (hm : P.follows .mixedOrders = true) (hB : headForm2B l m ks i j rest = true) (hnd : noDeferB l = true) (hQO : ∀ a w, ¬ Q .outgrown a w)
    (hQ : ∀ c a d v w, Q (.panic c) (Act.put a d v) w → Q (.panic c) a w) (hS : ∃ x, w.drew = Wf x)
    (h : wpReads P l.toArray Wf (fun a' => wpActs P l.toArray Q Wf (wpList P l.toArray Q (l.drop m)) (pickOps l (i :: j :: rest)) a' w.drew ∧ wpActs P l.toArray Q Wf (wpList P l.toArray Q (l.drop m)) (pickOps l (j :: i :: rest)) a' w.drew) (pickOps l ks) a) : (Code.region id l.toArray true).wpIn (Fence.wide.inRound k) n P Q a w :=
  wpIn_region_round hm hnd hQO (wpAny_reads2 m ks i j rest hB hQ hS h)
end
end Go.Proofs.Ytebmachppbpdmaa
