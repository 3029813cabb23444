/- Joined: Head, INew, IOwn, CNumW. -/
import Derived.StillTail
import Derived.StillTailTactics
import Derived.Deep.QuietTactic
import Derived.BigQuiet
import Derived.OrdersIn
import Derived.OrdersHeld
import Derived.OwnWalkIn
import Derived.RangeFuncCalls
import Derived.Test.YtlbcmeebcfalpaaGreatDoorR01
import Derived.Test.YtlbcmeebcfalpaaGreatDoorR04
import Derived.Test.YtlbcmeebcfalpaaGreatDoorR03
import Derived.Maps.AppendAt
import Derived.Test.YtlbcmeebcfalpaaGreatDoorR02
import Derived.Test.YtlbcmeebcfalpaaGreatDoorR00
import Derived.IntWalk
set_option linter.unusedVariables false
set_option linter.unusedSimpArgs false
set_option maxRecDepth 100000
set_option maxHeartbeats 16000000
namespace Go.Proofs.YtlbcmeebcfalpaaGreatDoor
open Go

section
variable {P : Program} {ops : Array Oper} {md : Region.Mode} {X : Type} {Wf : X -> World} {Q : Exit -> Act -> World -> Prop}

/-- One operation that only reads, in every world of the family. -/
def rOp (P : Program) (ops : Array Oper) (Wf : X -> World) (o : Oper) (a : Act) (next : Act -> Prop) : Prop :=
  if Region.wanted o (yielded ops a.tmps) then ∃ v, (∀ x, (execOp a.eval o).run P (Wf x) = .ok (.value v) (Wf x)) /\ next (a.put o.dst v) else next (a.put o.dst undef)
def wpReads (P : Program) (ops : Array Oper) (Wf : X -> World) (R : Act -> Prop) : List Oper -> Act -> Prop
  | [], a => R a
  | o :: rest, a => rOp P ops Wf o a (wpReads P ops Wf R rest)
theorem wpReads_nil {R : Act -> Prop} {a : Act} (h : R a) : wpReads P ops Wf R [] a := h
theorem wpReads_step {R : Act -> Prop} {o : Oper} {rest : List Oper} {a : Act} (h : ∀ K : Act -> Prop, (∀ a, wpReads P ops Wf R rest a -> K a) -> rOp P ops Wf o a K) : wpReads P ops Wf R (o :: rest) a := h _ (fun _ h => h)

/-- f operations of the head are still to come, in whatever order, each leaving a world of the family; then L. -/
def headH (P : Program) (md : Region.Mode) (ops : Array Oper) (Q : Exit -> Act -> World -> Prop) (Wf : X -> World) (n : Nat) (L : Array Bool -> Act -> World -> Prop) : Nat -> Array Bool -> Act -> World -> Prop
  | 0, done, a, w => L done a w
  | f + 1, done, a, w => Region.ready md ops done ≠ [] /\ ∀ i, i ∈ Region.ready md ops done -> i < n /\ wpOp P ops Q i (fun a' w' => (∃ x, w' = Wf x) /\ headH P md ops Q Wf n L f (done.setIfInBounds i true) a' w') a w

theorem headH_sound {n g : Nat} {L : Array Bool -> Act -> World -> Prop} (hL : ∀ done a w, L done a w -> wpAny P md ops Q g done a w) :
    ∀ f done a w, headH P md ops Q Wf n L f done a w -> wpAny P md ops Q (f + g) done a w := by
  intro f
  induction f with
  | zero => intro done a w h; rw [Nat.zero_add]; exact hL _ _ _ h
  | succ f ih =>
    intro done a w h
    rw [show f + 1 + g = (f + g) + 1 by omega]
    exact ⟨fun h0 => absurd h0 h.1, fun i hi => wpOp_mono (fun a' w' h' => ih _ a' w' h'.2) (h.2 i hi).2⟩

theorem headH_first {n i : Nat} {oi : Oper} {v : Value} {L : Array Bool -> Act -> World -> Prop} (hi : ops[i]? = some oi) (hsel : Region.noSelect ops = true)
    (hs : Region.sinkB md ops n = true) (hc : Region.chainB md ops n = true) (hn : n < ops.size) (hin : i < n) (hL : ∀ done a w, L done a w -> ∀ j ∈ Region.ready md ops done, n <= j)
    (hQ : ∀ c a d v w, Q (.panic c) (Act.put a d v) w -> Q (.panic c) a w) :
    ∀ f done a w, HeadInv md ops n done ->
      (∀ j oj, ops[j]? = some oj -> j ≠ i -> done.getD j true = false -> (∀ e ∈ oj.after, Region.binds md e = true -> e.on ≠ i) -> oi.apart ops oj = true) ->
      i ∈ Region.ready md ops done -> YieldsIf P ops (fun w => ∃ x, w = Wf x) oi v a -> (∃ x, w = Wf x) ->
      headH P md ops Q Wf n L f (done.setIfInBounds i true) (a.put oi.dst v) w -> headH P md ops Q Wf n L (f + 1) done a w := by
  have head : ∀ {done : Array Bool}, HeadInv md ops n done -> i ∈ Region.ready md ops done -> ∀ j ∈ Region.ready md ops done, j < n := by
    intro done inv hr j hj
    rcases Nat.lt_or_ge j n with h | h
    · exact h
    · exact absurd hj (tail_waits hs hc hn inv _ i rfl hin (mem_ready.1 hr).1 j h)
  intro f
  induction f with
  | zero =>
    intro done a w inv _ hr hy hS H
    refine ⟨List.ne_nil_of_mem hr, fun j hj => ⟨head inv hr j hj, ?_⟩⟩
    by_cases e : j = i
    · subst e; exact hy.wpOp hi hS ⟨hS, H⟩
    · have h1 := hL _ _ _ H j (ready_mono hj e)
      have h2 := head inv hr j hj
      omega
  | succ f ih =>
    intro done a w inv hfree hr hy hS H
    refine ⟨List.ne_nil_of_mem hr, fun j hj => ⟨head inv hr j hj, ?_⟩⟩
    by_cases e : j = i
    · subst e; exact hy.wpOp hi hS ⟨hS, H⟩
    obtain ⟨hjun, oj, hoj, hall⟩ := mem_ready.1 hj
    have hno : ∀ e ∈ oj.after, Region.binds md e = true -> e.on ≠ i := fun e he hb heq => by
      have h1 := hall e he hb
      rw [heq, getD_both (mem_ready.1 hr).1] at h1
      cases h1
    have h2 := wpOp_putIf hoj (hfree j oj hoj e hjun hno) (fun cs b => Region.noSelect_spec hsel i oi cs b hi) (fun cs b => Region.noSelect_spec hsel j oj cs b hoj) (fun c a w => hQ c a _ _ w) hy (H.2 j (ready_mono hj e)).2
    refine wpOp_mono (fun a' w' h3 => ⟨h3.2.1, ih (done.setIfInBounds j true) a' w' (inv.set hj (head inv hr j hj)) (fun k ok hk hki hun hk' => hfree k ok hk hki ?_ hk') (ready_mono hr (Ne.symm e)) h3.1 h3.2.1 ?_⟩) h2
    · by_cases hjk : j = k
      · subst hjk; exact hjun
      · rwa [getD_set_ne true hjk] at hun
    · rw [Array.setIfInBounds_comm _ _ e]
      exact h3.2.2

/-- The reads, in this order, may all be taken first. -/
def readsB (md : Region.Mode) (ops : Array Oper) (n : Nat) : List Nat -> Array Bool -> Bool
  | [], _ => true
  | k :: ks, done => decide (k < n) && (Region.ready md ops done).contains k && Region.free md ops done k && readsB md ops n ks (done.setIfInBounds k true)
/-- The others of the head follow one by one, in this order; then the tail. -/
def actsB (md : Region.Mode) (ops : Array Oper) (n g : Nat) : List Nat -> Array Bool -> Bool
  | [], done => Region.seqB md ops g n done
  | k :: ks, done => decide (k < n) && decide (Region.ready md ops done = [k]) && actsB md ops n g ks (done.setIfInBounds k true)
def setAll : List Nat -> Array Bool -> Array Bool
  | [], d => d
  | k :: ks, d => setAll ks (d.setIfInBounds k true)
def pickOps (ops : List Oper) (ks : List Nat) : List Oper := ks.filterMap fun k => ops[k]?
/-- The others of the head, walked one by one: behind each a world of the family. -/
def wpActs (P : Program) (ops : Array Oper) (Q : Exit -> Act -> World -> Prop) (Wf : X -> World) (T : Act -> World -> Prop) : List Oper -> Act -> World -> Prop
  | [], a, w => T a w
  | o :: rest, a, w => wpList P ops (Exit.then (fun a' w' => (∃ x, w' = Wf x) /\ wpActs P ops Q Wf T rest a' w') Q) [o] a w

theorem wpActs_cons {T : Act -> World -> Prop} {o : Oper} {rest : List Oper} {a : Act} {w : World} (h : wpList P ops (Exit.then (fun a' w' => (∃ x, w' = Wf x) /\ wpActs P ops Q Wf T rest a' w') Q) [o] a w) : wpActs P ops Q Wf T (o :: rest) a w := h
theorem wpActs_nil {T : Act -> World -> Prop} {a : Act} {w : World} (h : T a w) : wpActs P ops Q Wf T [] a w := h
theorem wpOp_of_list {i : Nat} {o : Oper} {K : Act -> World -> Prop} {a : Act} {w : World} (hi : ops[i]? = some o) (h : wpList P ops (Exit.then K Q) [o] a w) : wpOp P ops Q i K a w := by
  unfold wpList at h
  unfold wpOp
  simp only [hi]
  split
  · rename_i hw
    rw [if_pos hw] at h
    rcases h with h | h
    · exact .inl h
    · exact .inr h
  · rename_i hw
    rw [if_neg hw] at h
    exact h

theorem headH_acts {n g : Nat} {T : Act -> World -> Prop} {l : List Oper} (hl : ops = l.toArray) : ∀ (ks : List Nat) (done : Array Bool) (a : Act) (w : World), actsB md ops n g ks done = true ->
    (∀ k ∈ ks, k < l.length) -> wpActs P ops Q Wf T (pickOps l ks) a w ->
    headH P md ops Q Wf n (fun done' a' w' => Region.seqB md ops g n done' = true /\ T a' w') ks.length done a w
  | [], done, a, w, hB, _, h => ⟨hB, h⟩
  | k :: ks, done, a, w, hB, hk, h => by
    simp only [actsB, Bool.and_eq_true, decide_eq_true_eq] at hB
    obtain ⟨⟨h1, h2⟩, h3⟩ := hB
    have hkl := hk k (by simp)
    obtain ⟨o, ho⟩ : ∃ o, l[k]? = some o := ⟨_, List.getElem?_eq_getElem hkl⟩
    have ho' : ops[k]? = some o := by rw [hl]; simpa using ho
    have hp : pickOps l (k :: ks) = o :: pickOps l ks := by simp [pickOps, ho]
    rw [hp] at h
    refine ⟨by rw [h2]; simp, fun i hi => ?_⟩
    rw [h2] at hi
    have e : i = k := by simpa using hi
    subst e
    refine ⟨h1, wpOp_mono (fun a' w' h' => ⟨h'.1, headH_acts hl ks _ a' w' h3 (fun j hj => hk j (by simp [hj])) h'.2⟩) (wpOp_of_list ho' h)⟩

theorem headH_reads {n f : Nat} {L : Array Bool -> Act -> World -> Prop} {l : List Oper} (hl : ops = l.toArray) (hsel : Region.noSelect ops = true)
    (hs : Region.sinkB md ops n = true) (hc : Region.chainB md ops n = true) (hn : n < ops.size) (hL : ∀ done a w, L done a w -> ∀ j ∈ Region.ready md ops done, n <= j)
    (hQ : ∀ c a d v w, Q (.panic c) (Act.put a d v) w -> Q (.panic c) a w) : ∀ (ks : List Nat) (done : Array Bool) (a : Act) (w : World), HeadInv md ops n done -> readsB md ops n ks done = true ->
    (∀ k ∈ ks, k < l.length) -> (∃ x, w = Wf x) -> wpReads P ops Wf (fun a' => headH P md ops Q Wf n L f (setAll ks done) a' w) (pickOps l ks) a ->
    headH P md ops Q Wf n L (ks.length + f) done a w
  | [], done, a, w, _, _, _, _, h => by rw [List.length_nil, Nat.zero_add]; exact h
  | k :: ks, done, a, w, inv, hB, hk, hS, h => by
    simp only [readsB, Bool.and_eq_true, decide_eq_true_eq, List.contains_iff_mem] at hB
    obtain ⟨⟨⟨h1, h2⟩, h3⟩, h4⟩ := hB
    have hkl := hk k (by simp)
    obtain ⟨o, ho⟩ : ∃ o, l[k]? = some o := ⟨_, List.getElem?_eq_getElem hkl⟩
    have ho' : ops[k]? = some o := by rw [hl]; simpa using ho
    have hp : pickOps l (k :: ks) = o :: pickOps l ks := by simp [pickOps, ho]
    rw [hp] at h
    rw [List.length_cons, show ks.length + 1 + f = (ks.length + f) + 1 by omega]
    unfold wpReads rOp at h
    by_cases hw : Region.wanted o (yielded ops a.tmps) = true
    · rw [if_pos hw] at h
      obtain ⟨v, hv, hK⟩ := h
      refine headH_first (v := v) ho' hsel hs hc hn h1 hL hQ (ks.length + f) done a w inv (Region.free_spec ho' h3) h2 (.inl ⟨hw, ?_⟩) hS ?_
      · rintro w' ⟨x, rfl⟩; exact hv x
      · exact headH_reads hl hsel hs hc hn hL hQ ks _ _ w (inv.set h2 h1) h4 (fun j hj => hk j (by simp [hj])) hS hK
    · rw [if_neg hw] at h
      refine headH_first (v := undef) ho' hsel hs hc hn h1 hL hQ (ks.length + f) done a w inv (Region.free_spec ho' h3) h2 (.inr ⟨by simpa using hw, rfl⟩) hS ?_
      exact headH_reads hl hsel hs hc hn hL hQ ks _ _ w (inv.set h2 h1) h4 (fun j hj => hk j (by simp [hj])) hS h

/-- All that is asked of the region's form. -/
def headFormB (l : List Oper) (n : Nat) (ks acts : List Nat) : Bool :=
  Region.noSelect l.toArray && decide (n < l.length) && Region.sinkB .any l.toArray n && Region.chainB .any l.toArray n && decide (ks.length + acts.length = n) &&
    ks.all (fun k => decide (k < l.length)) && acts.all (fun k => decide (k < l.length)) && readsB .any l.toArray n ks (Array.replicate l.length false) &&
    actsB .any l.toArray n (l.length - n) acts (setAll ks (Array.replicate l.length false))
theorem wpAny_reads {a : Act} {w : World} {l : List Oper} (n : Nat) (ks acts : List Nat) (hB : headFormB l n ks acts = true)
    (hQ : ∀ c a d v w, Q (.panic c) (Act.put a d v) w -> Q (.panic c) a w) (hS : ∃ x, w = Wf x)
    (h : wpReads P l.toArray Wf (fun a' => wpActs P l.toArray Q Wf (wpList P l.toArray Q (l.drop n)) (pickOps l acts) a' w) (pickOps l ks) a) :
    wpAny P .any l.toArray Q l.toArray.size (Array.replicate l.toArray.size false) a w := by
  simp only [headFormB, Bool.and_eq_true, decide_eq_true_eq] at hB
  obtain ⟨⟨⟨⟨⟨⟨⟨⟨hsel, hn⟩, hs⟩, hc⟩, hlen⟩, hk1⟩, hk2⟩, hr⟩, ha⟩ := hB
  have hk1' : ∀ k ∈ ks, k < l.length := fun k hk => by simpa using List.all_eq_true.1 hk1 k hk
  have hk2' : ∀ k ∈ acts, k < l.length := fun k hk => by simpa using List.all_eq_true.1 hk2 k hk
  have inv0 : HeadInv .any l.toArray n (Array.replicate l.length false) :=
    ⟨by simp, fun j oj _ hl => (by rw [getD_replicate_false] at hl; cases hl), fun t _ ht => getD_in (by simpa using ht) (getD_replicate_false _ _)⟩
  have mono : ∀ (l' : List Oper) (R R' : Act -> Prop) (a : Act), (∀ a, R a -> R' a) -> wpReads P l.toArray Wf R l' a -> wpReads P l.toArray Wf R' l' a := by
    intro l'
    induction l' with
    | nil => intro R R' a hR h; exact hR _ h
    | cons o l' ih =>
      intro R R' a hR h
      unfold wpReads rOp at h ⊢
      split
      · rename_i hw
        rw [if_pos hw] at h
        obtain ⟨v, h1, h2⟩ := h
        exact ⟨v, h1, ih R R' _ hR h2⟩
      · rename_i hw
        rw [if_neg hw] at h
        exact ih R R' _ hR h
  have H := headH_reads (P := P) (Q := Q) (Wf := Wf) (f := acts.length) (L := fun done' a' w' => Region.seqB .any l.toArray (l.length - n) n done' = true /\ wpList P l.toArray Q (l.drop n) a' w') rfl hsel hs hc (by simpa using hn)
    (fun done a w hL j hj => seqB_ready hL.1 j hj) hQ ks (Array.replicate l.length false) a w inv0 hr hk1' hS
    (mono _ _ _ a (fun a' h' => headH_acts rfl acts _ a' w ha hk2' h') h)
  have K := headH_sound (g := l.length - n) (fun done a' w' hL => by
    have := wpAny_of_seq (P := P) (md := .any) (Q' := Q) (l.drop n) n done a' w' (fun j => by simp [List.getElem?_drop]) (by simpa using hL.1) hL.2
    simpa using this) _ _ _ _ H
  rw [hlen, show n + (l.length - n) = l.length by omega] at K
  simpa using K
theorem wp_region_reads {id : Nat} {a : Act} {w : World} {l : List Oper} (n : Nat) (ks acts : List Nat) (hm : P.follows .mixedOrders = true) (hB : headFormB l n ks acts = true)
    (hQ : ∀ c a d v w, Q (.panic c) (Act.put a d v) w -> Q (.panic c) a w) (hS : ∃ x, w.drew = Wf x)
    (h : wpReads P l.toArray Wf (fun a' => wpActs P l.toArray Q Wf (wpList P l.toArray Q (l.drop n)) (pickOps l acts) a' w.drew) (pickOps l ks) a) : (Code.region id l.toArray true).wp P Q a w :=
  wp_region_any hm (wpAny_reads n ks acts hB hQ hS h)

/-! A region within a round. -/
end
/-- Worlds that meet a condition, as a family. -/
theorem family (S : World -> Prop) (w0 : World) (h0 : S w0) : ∃ (X : Type) (Wf : X -> World), Nonempty X /\ (∀ x, S (Wf x)) /\ ∀ w, S w -> ∃ x, w = Wf x :=
  ⟨{ w : World // S w }, Subtype.val, ⟨⟨w0, h0⟩⟩, fun x => x.2, fun w h => ⟨⟨w, h⟩, rfl⟩⟩
end Go.Proofs.YtlbcmeebcfalpaaGreatDoor

namespace Go.Proofs.YtlbcmeebcfalpaaGreatDoor
open Go

section
variable {P : Program} {ops : Array Oper} {md : Region.Mode} {X : Type} {Wf : X -> World} {Q : Exit -> Act -> World -> Prop}

end
end Go.Proofs.YtlbcmeebcfalpaaGreatDoor
namespace Go.Proofs.YtlbcmeebcfalpaaGreatDoor
open Go.RowKit

/-- A value, in blocks of the call's own, that stands for x. -/
def NewV (x : V) (w : World) (e : Ending) (w' : World) : Prop := ∃ v : Vl, e = .returned v.val /\ v.er = x /\ Rd (fun b => w.heap.size <= b) w' v /\ Below w.heap.size w w'
theorem flat_get : ∀ (vs : List Vl) (j : Nat) (v : Vl) (i : Nat), vs[j]? = some v -> i < 4 -> (flat vs)[j * 4 + i]? = v.cells.toList[i]?
  | [], j, v, i, h, _ => by simp at h
  | u :: vs, 0, v, i, h, hi => by
    simp at h; subst h
    rw [flat_cons, Nat.zero_mul, Nat.zero_add, List.getElem?_append_left (by simp [Vl.cells]; omega)]
  | u :: vs, j + 1, v, i, h, hi => by
    rw [flat_cons, List.getElem?_append_right (by simp [Vl.cells]; omega)]
    have := flat_get vs j v i (by simpa using h) hi
    rw [<- this]
    congr 1
    simp [Vl.cells]; omega
/-- A slice literal of values. -/
theorem vals_lit {S : Nat -> Prop} {W : World} {vs : List Vl} {cs : Array Value} (hcs : cs.toList = flat vs) (hr : ∀ v ∈ vs, Rd S W v) (hS : S W.heap.size) (hn : vs.length * 56 <= 140737488355328) :
    Vals S (W.alloc (.cells cs 24)) (some ⟨W.heap.size, 0, none⟩) vs.length vs.length vs := by
  have hh := World.alloc_heap_new W (.cells cs 24)
  have hb : Below W.heap.size W (W.alloc (.cells cs 24)) := (Below.refl _ _).alloc (Nat.le_refl _) _
  refine ⟨rfl, Nat.le_refl _, hn, fun j v hj => ⟨⟨W.heap.size, 0, rfl, hS, ?_⟩, (hr v (List.mem_of_getElem? hj)).below hb⟩⟩
  have key : ∀ i x, i < 4 -> v.cells.toList[i]? = some x -> (W.alloc (.cells cs 24)).cell? ⟨W.heap.size, 0 + j * 4 + i, none⟩ = some x := fun i x hi hx => by
    rw [Lib.cell_of_heap hh]
    have := flat_get vs j v i hj hi
    rw [hx, <- hcs] at this
    rw [Nat.zero_add]
    simpa using this
  exact ⟨key 0 _ (by omega) rfl, key 1 _ (by omega) rfl, key 2 _ (by omega) rfl, key 3 _ (by omega) rfl⟩
/-- The list of values that was made, as a new value. -/
theorem new_list {w W w' : World} {a' : Option Addr} {n c' : Nat} {l : List Vl} {x : V} (hb : Below w.heap.size w W) (ho : OwnV (fun b => w.heap.size <= b) w' W.heap.size a' n c' l) (hb' : Below W.heap.size W w') (hn : n * 56 <= 140737488355328) (hx : V.mk 3 0 ⟨#[]⟩ (l.map Vl.er) = x) :
    Rd (fun b => w.heap.size <= b) w' (mkList a' c' l) /\ (mkList a' c' l).er = x /\ Below w.heap.size w w' := by
  have hv := ho.vals (S' := fun b => w.heap.size <= b) hn (fun _ h => h) (fun y hy => Nat.le_trans hb.size (ho.lt y.block (ownBlock_some hy)).1)
  rw [ho.1] at hv
  exact ⟨rd_list hv, by rw [Vl.er, Vl.erL_map]; exact hx, hb.trans (hb'.mono hb.size)⟩
end Go.Proofs.YtlbcmeebcfalpaaGreatDoor
namespace Go.Proofs.YtlbcmeebcfalpaaGreatDoor
open Go.RowKit

/-- All but some blocks is as it was. -/
structure Exc (N : Nat -> Prop) (w w' : World) : Prop where
  os : w'.os = w.os
  tape : w'.tape = w.tape
  output : w'.output = w.output
  size : w.heap.size <= w'.heap.size
  block : ∀ k, k < w.heap.size -> ¬ N k -> w'.heap[k]? = w.heap[k]?
namespace Exc
variable {N M : Nat -> Prop} {w w' w'' : World}
theorem refl (N : Nat -> Prop) (w : World) : Exc N w w := ⟨rfl, rfl, rfl, Nat.le_refl _, fun _ _ _ => rfl⟩
theorem below (h : Below w.heap.size w w') : Exc N w w' := ⟨h.os, h.tape, h.output, h.size, fun k hk _ => h.block k hk⟩
theorem trans (h : Exc N w w') (k : Exc N w' w'') : Exc N w w'' := ⟨k.os.trans h.os, k.tape.trans h.tape, k.output.trans h.output, Nat.le_trans h.size k.size, fun i hi hn => (k.block i (Nat.lt_of_lt_of_le hi h.size) hn).trans (h.block i hi hn)⟩
theorem mono (h : Exc N w w') (k : ∀ b, b < w.heap.size -> N b -> M b) : Exc M w w' := ⟨h.os, h.tape, h.output, h.size, fun i hi hn => h.block i hi (fun e => hn (k i hi e))⟩
theorem step (h : Exc N w w') (k : Exc M w' w'') (hk : ∀ b, b < w.heap.size -> M b -> N b) : Exc N w w'' :=
  ⟨k.os.trans h.os, k.tape.trans h.tape, k.output.trans h.output, Nat.le_trans h.size k.size, fun i hi hn => (k.block i (Nat.lt_of_lt_of_le hi h.size) (fun e => hn (hk i hi e))).trans (h.block i hi hn)⟩
theorem to_below {B : Nat} (h : Exc N w w') (hB : B <= w.heap.size) (hn : ∀ b, N b -> B <= b) : Below B w w' := ⟨h.os, h.tape, h.output, h.size, fun k hk => h.block k (by omega) (fun e => by have := hn k e; omega)⟩
theorem keepS {S : Nat -> Prop} (h : Exc N w w') (k : ∀ b, S b -> ¬ N b) : KeepS S w w' := ⟨h.size, fun b cs t fr hs hb => by rw [h.block b (Array.getElem?_eq_some_iff.1 hb).1 (k b hs)]; exact hb⟩
theorem heap {b : Nat} {o : Obj} (h : Exc N w w') (hn : ¬ N b) (hb : w.heap[b]? = some o) : w'.heap[b]? = some o := by rw [h.block b (Array.getElem?_eq_some_iff.1 hb).1 hn]; exact hb
theorem setCell (w : World) {b j : Nat} (hb : N b) (v : Value) : Exc N w (w.setCell ⟨b, j, none⟩ v) :=
  ⟨rfl, rfl, rfl, by simp [World.setCell], fun k _ hn => Below.heap_setCell _ _ _ _ (by intro e; have e : k = b := e; exact hn (e ▸ hb))⟩
end Exc
/-- What the value is when it is handed back. -/
def Dv.val : Dv -> Value
  | .int n => .int .i64 n
  | .bool b => .bool b
  | .text t => .string t
  | .struc l => .agg (cellsL l).toArray
  | .list _ _ a c l => .slice a l.length c
theorem RdD.mono {S S' : Nat -> Prop} {w : World} (k : ∀ b, S b -> S' b) (d : Dv) : RdD S w d -> RdD S' w d := by
  induction d using Dv.ind with
  | hi n => intro k; exact k
  | hb b => intro _; trivial
  | ht t => intro k; exact k
  | hs l ih => rw [rdD_struc, rdD_struc]; exact fun k d hd => ih d hd (k d hd)
  | hl _ s a c l ih =>
    rw [rdD_list, rdD_list]
    rintro ⟨h1, h2, h3, h4⟩
    refine ⟨h1, h2, h3, fun j d hj => ?_⟩
    obtain ⟨⟨b, off, e, hs, hat⟩, hr⟩ := h4 j d hj
    exact ⟨⟨b, off, e, k b hs, hat⟩, ih d (List.mem_of_getElem? hj) hr⟩
theorem AtC.lt {w : World} {b o : Nat} {cs : List Value} (h : AtC w b o cs) (h0 : 0 < cs.length) : b < w.heap.size := World.block_lt_of_cell? _ _ (h 0 _ (List.getElem?_eq_getElem h0))

theorem flatC_at {k : Nat} : ∀ (l : List Dv) (j i : Nat) (d : Dv), (∀ x ∈ l, x.cells.length = k) -> l[j]? = some d -> i < k -> (l.flatMap Dv.cells)[j * k + i]? = d.cells[i]?
  | [], j, i, d, _, h, _ => by simp at h
  | u :: l, 0, i, d, hk, h, hi => by
    simp at h; subst h
    rw [List.flatMap_cons, Nat.zero_mul, Nat.zero_add, List.getElem?_append_left (by rw [hk u (List.mem_cons_self ..)]; exact hi)]
  | u :: l, j + 1, i, d, hk, h, hi => by
    have e : (j + 1) * k = k + j * k := by rw [Nat.add_mul, Nat.one_mul, Nat.add_comm]
    have hu := hk u (List.mem_cons_self ..)
    rw [List.flatMap_cons, e, List.getElem?_append_right (by omega), hu, show k + j * k + i - k = j * k + i by omega]
    exact flatC_at l j i d (fun x hx => hk x (List.mem_cons_of_mem _ hx)) (by simpa using h) hi
/-- The slice value 'a n cap' is the call's own, from block B on, and reads as l; what its elements point to lies elsewhere from B on. -/
def OwnD (e k : Nat) (w : World) (B : Nat) (a : Option Addr) (n cap : Nat) (l : List Dv) : Prop :=
  n = l.length /\ (∀ d ∈ l, d.cells.length = k /\ ∀ v ∈ d.cells, v.oneCell' = true) /\ w.ownsRow B e k (.slice a n cap) n (l.flatMap Dv.cells) /\ ∃ T : Nat -> Prop, (∀ b, T b -> B <= b /\ b < w.heap.size) /\ (∀ x, a = some x -> ¬ T x.block) /\ ∀ d ∈ l, RdD T w d
namespace OwnD
variable {e k : Nat} {w w' : World} {B : Nat} {a : Option Addr} {n cap : Nat} {l : List Dv}
theorem nil (e k : Nat) (w : World) (B : Nat) : OwnD e k w B none 0 0 [] := ⟨rfl, by simp, World.ownsRow_nil _ _ _ _, fun _ => False, (fun _ h => h.elim), (fun _ h => by cases h), by simp⟩
theorem lt (h : OwnD e k w B a n cap l) : ∀ x, a = some x -> B <= x.block /\ x.block < w.heap.size := fun x hx => h.2.2.1.lt x.block (by rw [hx]; rfl)
theorem keep (h : OwnD e k w B a n cap l) (hs : w.heap.size <= w'.heap.size) (hk : ∀ b, B <= b -> b < w.heap.size -> w'.heap[b]? = w.heap[b]?) : OwnD e k w' B a n cap l := by
  have hlt := h.lt
  obtain ⟨h1, h2, h3, T, h4, h5, h6⟩ := h
  refine ⟨h1, h2, ⟨h3.1, ?_⟩, T, fun b hb => ⟨(h4 b hb).1, Nat.lt_of_lt_of_le (h4 b hb).2 hs⟩, h5, fun d hd => (h6 d hd).keep ⟨hs, fun b cs t fr hb hc => by rw [hk b (h4 b hb).1 (h4 b hb).2]; exact hc⟩⟩
  rcases h3.2 with h0 | ⟨g, cap', cur, hv, hB, hg, hrest⟩
  · exact .inl h0
  · cases hv
    exact .inr ⟨g, _, cur, rfl, hB, by rw [hk g hB (hlt _ rfl).2]; exact hg, hrest⟩
theorem below (h : OwnD e k w B a n cap l) (hb : Below w.heap.size w w') : OwnD e k w' B a n cap l := h.keep hb.size fun b _ hlt => hb.block b hlt
theorem exc {N : Nat -> Prop} (h : OwnD e k w B a n cap l) (hx : Exc N w w') (hN : ∀ b, N b -> b < B) : OwnD e k w' B a n cap l := h.keep hx.size fun b hB hlt => hx.block b hlt fun hn => by have := hN b hn; omega
theorem cap_le (h : OwnD e k w B a n cap l) : n <= cap := by
  rcases h.2.2.1.2 with ⟨hv, h0⟩ | ⟨g, cap', cur, hv, hb, hg, hc, _⟩
  · omega
  · cases hv; exact hc
theorem items {s : Nat} (h : OwnD e k w B a n cap l) (hn : n * s <= 140737488355328) : Items (fun b => B <= b /\ b < w.heap.size) w k s a n cap l := by
  have hc := h.cap_le
  obtain ⟨h1, h2, h3, T, h4, h5, h6⟩ := h
  refine ⟨h1, hc, hn, fun j d hj => ⟨?_, (h6 d (List.mem_of_getElem? hj)).mono h4⟩⟩
  have hjl : j < l.length := (List.getElem?_eq_some_iff.1 hj).1
  rcases h3.2 with ⟨_, h0⟩ | ⟨g, cap', cur, hv, hB, hg, hc, hm, hs, ht⟩
  · omega
  · cases hv
    refine ⟨g, 0, rfl, ⟨hB, (Array.getElem?_eq_some_iff.1 hg).1⟩, fun i x hx => ?_⟩
    have hi : i < k := by rw [<- (h2 d (List.mem_of_getElem? hj)).1]; exact (List.getElem?_eq_some_iff.1 hx).1
    rw [cell_row hg, <- hx, <- flatC_at l j i d (fun x hx => (h2 x hx).1) hj hi, <- ht, List.getElem?_take, if_pos, Array.getElem?_toList, Nat.zero_add]
    have : (j + 1) * k <= n * k := Nat.mul_le_mul_right _ (by omega)
    rw [Nat.add_mul, Nat.one_mul] at this
    omega
end OwnD
section
variable {ops : Array Oper} {rest : List Oper} {o : Oper} {act : Act} {Q : Exit -> Act -> World -> Prop} {w w0 : World} {B e st k bytes bx : Nat} {z : Value} {a : Option Addr} {n cap : Nat} {l : List Dv} {d : Dv} {T : Nat -> Prop}
/-- append(x, y): y was put into a box. -/
theorem wpList_appD (hi : (Tryz.prog.info? e).map (fun i => (i.zero, i.size, i.bytes)) = some (some z, k, bytes)) (hu : Tryz.prog.underlying st = some (.slice e)) (hzs : z.cells.size = k) (hk0 : 0 < k)
    (hgd : o.guard = none) (os ox : Operand) (ho : o.op = .call { callee := .builtin .append, args := #[os, ox], argTypes := #[st, st] })
    (hs : act.eval os = .slice a n cap) (hx : act.eval ox = .slice (some ⟨bx, 0, none⟩) 1 1) (hown : OwnD e k w B a n cap l) (hat : AtC w bx 0 d.cells) (hdk : d.cells.length = k /\ ∀ v ∈ d.cells, v.oneCell' = true)
    (hrd : RdD T w d) (hT : ∀ b, T b -> B <= b /\ b < w.heap.size) (hTa : ∀ x, a = some x -> ¬ T x.block) (hnm : (n + 1) * bytes <= 140737488355328) (hn : n <= 1000000) (hB : B <= w.heap.size) (hb : Below B w0 w)
    (h : ∀ a' c' w', OwnD e k w' B a' (n + 1) c' (l ++ [d]) -> Below B w0 w' -> w.heap.size <= w'.heap.size -> wpList Tryz.prog ops Q rest (act.put o.dst (.slice a' (n + 1) c')) w') :
    wpList Tryz.prog ops Q (o :: rest) act w := by
  obtain ⟨i0, hi, hz0, hz1, hz2⟩ := info_parts hi
  have hlt := hown.lt
  obtain ⟨h1, h2, h3, T0, h4, h5, h6⟩ := hown
  have hnews : ∀ j v, d.cells[j]? = some v -> w.cell? ((⟨bx, 0, none⟩ : Addr).add j) = some v := fun j v hj => by
    rw [Addr.add_lit]; exact hat j v hj
  refine wpList_append_own_at _ hgd os ox st ho B e i0 z k bytes hu hi hz0 hz1 hz2 hzs hk0 _ _ _ hs h3 ⟨bx, 0, none⟩ 1 1 d.cells hx (by rw [hdk.1, Nat.one_mul])
    hnews hdk.2 (by unfold maxLen; omega) hnm hB ?_
  intro v' w' g1 g2 _ g4
  obtain ⟨a', c', rfl⟩ : ∃ a' c', v' = .slice a' (n + 1) c' := by
    rcases g1.2 with ⟨rfl, h0⟩ | ⟨g, cap', cur, rfl, _⟩
    · omega
    · exact ⟨_, _, rfl⟩
  have hno : ∀ b, T0 b \/ T b -> some b ≠ (Value.slice a n cap).ownBlock := fun b hb e => by
    cases a with
    | none => cases e
    | some x =>
      cases e
      rcases hb with hb | hb
      · exact h5 x rfl hb
      · exact hTa x rfl hb
  have hk : KeepS (fun b => T0 b \/ T b) w w' := ⟨g2.size, fun b cs t fr hb hc => by rw [g2.block b (Array.getElem?_eq_some_iff.1 hc).1 (hno b hb)]; exact hc⟩
  refine h a' c' w' ⟨by rw [List.length_append, h1]; rfl, fun x hx => ?_, by rw [List.flatMap_append, List.flatMap_cons, List.flatMap_nil, List.append_nil]; exact g1, fun b => T0 b \/ T b, fun b hb => ?_, fun x hx hb => ?_, fun x hx => ?_⟩ (hb.grown g2 hB (fun j hj => by
    cases a with
    | none => cases hj
    | some x => cases hj; exact (hlt x rfl).1)) g2.size
  · rcases List.mem_append.1 hx with hx | hx
    · exact h2 x hx
    · rw [List.mem_singleton] at hx; subst hx; exact hdk
  · have := g2.size
    rcases hb with hb | hb
    · exact ⟨(h4 b hb).1, by have := (h4 b hb).2; omega⟩
    · exact ⟨(hT b hb).1, by have := (hT b hb).2; omega⟩
  · subst hx
    rcases g4 with e | e
    · exact hno _ hb e
    · have e := Option.some.inj e
      rcases hb with hb | hb
      · have := (h4 _ hb).2; omega
      · have := (hT _ hb).2; omega
  · rcases List.mem_append.1 hx with hx | hx
    · exact ((h6 x hx).mono (fun b hb => .inl hb)).keep hk
    · rw [List.mem_singleton] at hx; subst hx; exact (hrd.mono (fun b hb => .inr hb)).keep hk
/-- What an append of one element that was put into a box needs. -/
structure AppP (e k bytes : Nat) (w : World) (B : Nat) (a : Option Addr) (n cap : Nat) (l : List Dv) (d : Dv) (bx : Nat) : Prop where
  own : OwnD e k w B a n cap l
  at_ : AtC w bx 0 d.cells
  one : d.cells.length = k /\ ∀ v ∈ d.cells, v.oneCell' = true
  rd : ∃ T : Nat -> Prop, RdD T w d /\ (∀ b, T b -> B <= b /\ b < w.heap.size) /\ ∀ x, a = some x -> ¬ T x.block
  room : (n + 1) * bytes <= 140737488355328 /\ n <= 1000000
  le : B <= w.heap.size
theorem wpList_appP (h : AppP e k bytes w B a n cap l d bx) (hi : (Tryz.prog.info? e).map (fun i => (i.zero, i.size, i.bytes)) = some (some z, k, bytes)) (hu : Tryz.prog.underlying st = some (.slice e)) (hzs : z.cells.size = k) (hk0 : 0 < k)
    (hgd : o.guard = none) (os ox : Operand) (ho : o.op = .call { callee := .builtin .append, args := #[os, ox], argTypes := #[st, st] })
    (hs : act.eval os = .slice a n cap) (hx : act.eval ox = .slice (some ⟨bx, 0, none⟩) 1 1)
    (hk : ∀ a' c' w', OwnD e k w' B a' (n + 1) c' (l ++ [d]) -> Below B w w' -> wpList Tryz.prog ops Q rest (act.put o.dst (.slice a' (n + 1) c')) w') :
    wpList Tryz.prog ops Q (o :: rest) act w := by
  obtain ⟨T, h1, h2, h3⟩ := h.rd
  exact wpList_appD hi hu hzs hk0 hgd os ox ho hs hx h.own h.at_ h.one h1 h2 h3 h.room.1 h.room.2 h.le (Below.refl _ _) fun a' c' w' ho hb _ => hk a' c' w' ho hb
end
end Go.Proofs.YtlbcmeebcfalpaaGreatDoor
namespace Go.Proofs.YtlbcmeebcfalpaaGreatDoor
open Go.RowKit

theorem ext_list (s : ByteArray) (a b : Nat) : (s.extract a b).data.toList = (s.data.toList.drop a).take (b - a) := by
  simp [ByteArray.data_extract, Array.toList_extract, List.extract_eq_take_drop]
/-- What number answers. -/
def NumPost (e : UInt8) (s : ByteArray) (w : World) (en : Ending) (w' : World) : Prop := ∃ (n : Int) (rest : ByteArray) (ok : Bool), en = .returned (.tuple #[.int .i64 n, .string rest, .bool ok]) /\ I64 n /\
  ((ok = true /\ numP e s.data.toList = some (n, rest.data.toList)) \/ (ok = false /\ numP e s.data.toList = none)) /\ Below w.heap.size w w'
theorem number_any (e : UInt8) (s : ByteArray) (hs : s.size <= 1048576) (w : World) (hE : Env w) : Calls Tryz.prog 147 #[.string s, .int .u8 e.toNat] w (NumPost e s w) := by
  have hmin : min (s.size : Int) 24 = ((min s.size 24 : Nat) : Int) := by omega
  have FI := Tryz.strings_IndexByte (s.extract 0 (min s.size 24)) (e.toNat : Int) w
  rw [show ((e.toNat : Int)).toNat.toUInt8 = e by simp] at FI
  have htk : (s.extract 0 (min s.size 24)).data.toList = s.data.toList.take 24 := by
    rw [ext_list, List.drop_zero, Nat.sub_zero]
    by_cases h : s.size <= 24
    · rw [List.take_of_length_le (by simp; omega), List.take_of_length_le (by simp; omega)]
    · rw [Nat.min_eq_right (by omega)]
  rw [htk] at FI
  have HFI := hiq FI
  have hidx := indexByte_spec (s.data.toList.take 24) e
  have HP : Hid (numP e s.data.toList = _) := (by unfold numP; rfl)
  clear FI htk
  generalize Lib.indexByte (s.data.toList.take 24) e = i at *
  by_cases hi : i < 0
  · have HN : Hid (numP e s.data.toList = none) := by show _ = _; rw [HP.out, if_pos hi]
    have di : decide (i < 0) = true := by simpa using hi
    clear hidx HP
    go_enter Tryz.func147, Tryz.ntmps147
    go_wp2_with fail
    refine HFI.out.mono ?_
    rintro e1 w1 ⟨rfl, rfl⟩
    go_wp2
    go_ret3
    exact ⟨0, ⟨#[]⟩, false, rfl, I64.zero, .inr ⟨rfl, HN.out⟩, Below.refl _ _⟩
  · obtain ⟨k, rfl, hk⟩ : ∃ k : Nat, i = (k : Int) /\ k < s.size /\ k < 24 := by
      rcases hidx with ⟨h, _⟩ | ⟨k, h, h2, _⟩
      · omega
      · rw [List.length_take] at h2; simp at h2
        exact ⟨k, h, by omega⟩
    obtain ⟨hk1, hk2⟩ := hk
    have hlk : (s.extract 0 k).data.toList = s.data.toList.take k := by rw [ext_list, List.drop_zero, Nat.sub_zero]
    have hrk : (s.extract (k + 1) s.size).data.toList = s.data.toList.drop (k + 1) := by rw [ext_list, List.take_of_length_le (by simp)]
    have hsk : (s.extract 0 k).size = k := by simp; omega
    have FA := hiq (fun W hE' => atoi_any (s.extract 0 k) (by omega) W hE')
    rw [hlk] at FA
    have HP2 : Hid (numP e s.data.toList = if Lib.itoa (atoiN (s.data.toList.take k)) = s.data.toList.take k then some (atoiN (s.data.toList.take k), (s.extract (k + 1) s.size).data.toList) else none) := by
      show _ = _
      rw [HP.out, if_neg hi, hrk]; rfl
    have hN64 := atoiN_i64 (s.data.toList.take k)
    have hok : Lib.itoa (atoiN (s.data.toList.take k)) = s.data.toList.take k -> atoiOk (s.data.toList.take k) = true := atoiOk_of
    have HOK := hiq hok
    have di : decide ((k : Int) < 0) = false := by simp
    have hwk : IntKind.i64.wrap ((k : Int) + 1) = (k : Int) + 1 := IntWalk.i64_in _ (by omega)
    have htk1 : ((k : Int) + 1).toNat = k + 1 := by omega
    have HLK := hiq hlk
    clear hidx HP hok hlk hrk hsk
    generalize s.data.toList.take k = L at *
    have IT := hiq (fun W hE' => itoa_any (atoiN L) hN64 W hE')
    have HN64 := hiq hN64
    go_enter Tryz.func147, Tryz.ntmps147
    go_wp2_with fail
    refine HFI.out.mono ?_
    rintro e1 w1 ⟨rfl, rfl⟩
    go_wp2_with fail
    refine (FA.out _ hE).mono ?_
    rintro e2 w2 ⟨err, rfl, herr, hb2⟩
    have hE2 := hE.below hb2
    rcases herr with ⟨ho, rfl⟩ | ⟨ho, p, rfl⟩
    · go_wp2_with fail
      obtain ⟨X, Wf, hX, hS1, hS2⟩ := family (fun W => Below w1.heap.size w1 W) w2 hb2
      have HS1 := hiq hS1
      have HS2 := hiq hS2
      clear hS1 hS2
      refine wp_region_quiet (C := fun W => ∃ x, W = Wf x) (by kernel_rfl) (by kernel_rfl) (HS2.out _ hb2.drew) ?_
      simp only []
      repeat (go_big_quiet_step ((go_at_call 198; refine (IT.out _ (hE.below (HS1.out _))).mono ?_; rintro e4 w4 ⟨rfl, hb4⟩; exact ⟨rfl, HS2.out _ ((HS1.out _).trans (hb4.mono (HS1.out _).size))⟩)))
      refine wpQuiet_nil ?_
      rintro w5 ⟨x5, rfl⟩
      have hb5 := HS1.out x5
      generalize Wf x5 = w5 at *
      go_wp2
      go_ret3
      refine ⟨atoiN L, s.extract (k + 1) s.size, _, rfl, HN64.out, ?_, hb5⟩
      by_cases hq : Lib.itoa (atoiN L) = L
      · refine .inl ⟨?_, by rw [HP2.out, if_pos hq]⟩
        rw [Lib.toList_data, HLK.out]; simp [hq]
      · refine .inr ⟨?_, by rw [HP2.out, if_neg hq]⟩
        rw [Lib.toList_data, HLK.out]; simp [hq]
    · have hnn : Hid (¬ Lib.itoa (atoiN L) = L) := fun h => by rw [HOK.out h] at ho; cases ho
      go_wp2_with fail
      go_quiet (fail)
      go_wp2
      go_ret3
      exact ⟨atoiN L, s.extract (k + 1) s.size, false, rfl, HN64.out, .inr ⟨rfl, by rw [HP2.out, if_neg hnn.out]⟩, below_drewN hb2 nq⟩
end Go.Proofs.YtlbcmeebcfalpaaGreatDoor
