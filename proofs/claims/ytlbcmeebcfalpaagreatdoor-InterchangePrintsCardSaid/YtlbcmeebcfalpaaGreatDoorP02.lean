/- Joined: CPure3, IFit, CRefA, COwnV. -/
import Derived.Test.YtlbcmeebcfalpaaGreatDoorP01
import Derived.Maps.AppendAt
import Derived.Laws.AppendOwnNone
set_option linter.unusedVariables false
set_option linter.unusedSimpArgs false
set_option maxRecDepth 100000
set_option maxHeartbeats 16000000
namespace Go.Proofs.YtlbcmeebcfalpaaGreatDoor

/-- The encoding of an integer or a string. -/
def leafV (v : V) : List UInt8 := if v.kind = 1 then 105 :: (Lib.itoa v.num ++ [59]) else 115 :: (Lib.itoa v.text.size ++ 58 :: v.text.data.toList)
mutual
def encV : V -> List UInt8 | .mk k n t l => if k = 1 \/ k = 2 then leafV (.mk k n t l) else 108 :: (encL l ++ [101])
def encL : List V -> List UInt8 | [] => [] | v :: r => encV v ++ encL r
end
theorem encL_append : ∀ a b, encL (a ++ b) = encL a ++ encL b
  | [], b => rfl
  | v :: a, b => by rw [List.cons_append, encL, encL, encL_append a b, List.append_assoc]
theorem encV_leaf {v : V} (h : v.kind = 1 \/ v.kind = 2) : encV v = leafV v := by
  cases v with
  | mk k n t l => rw [encV]; exact if_pos h
theorem encV_list {v : V} (h : ¬ (v.kind = 1 \/ v.kind = 2)) : encV v = 108 :: (encL v.items ++ [101]) := by
  cases v with
  | mk k n t l => rw [encV]; exact if_neg h
/-- What the reference appends: it stops when there are too many bytes. -/
def encF : Nat -> List UInt8 -> V -> List UInt8
  | 0, out, v => if 1048576 < out.length then out else if v.kind = 1 \/ v.kind = 2 then out ++ leafV v else out ++ [108] ++ [101]
  | f + 1, out, v => if 1048576 < out.length then out else if v.kind = 1 \/ v.kind = 2 then out ++ leafV v else v.items.foldl (encF f) (out ++ [108]) ++ [101]
theorem encF_full (f : Nat) (out : List UInt8) (v : V) (h : 1048576 < out.length) : encF f out v = out := by cases f <;> (rw [encF, if_pos h])
theorem encF_leaf (f : Nat) {out : List UInt8} {v : V} (h : ¬ 1048576 < out.length) (hk : v.kind = 1 \/ v.kind = 2) : encF f out v = out ++ leafV v := by cases f <;> (rw [encF, if_neg h, if_pos hk])
theorem encF_ge : ∀ (f : Nat) (out : List UInt8) (v : V), out.length <= (encF f out v).length
  | 0, out, v => by rw [encF]; split <;> (try split) <;> simp
  | f + 1, out, v => by
    rw [encF]
    split
    · exact Nat.le_refl _
    · split
      · simp
      · have key : ∀ (l : List V) (o : List UInt8), o.length <= (l.foldl (encF f) o).length := by
          intro l
          induction l with
          | nil => intro o; exact Nat.le_refl _
          | cons u l ih => intro o; exact Nat.le_trans (encF_ge f o u) (ih _)
        have := key v.items (out ++ [108])
        simp at this ⊢; omega
/-- Valid values that are not too deep. -/
def GoodD (f : Nat) (v : V) : Prop := cntD f v ≠ none /\ allV v = 0
theorem cntD_items {f : Nat} {v : V} (h : cntD (f + 1) v ≠ none) (hk : v.kind = 3) : ∀ u ∈ v.items, cntD f u ≠ none := by
  rw [cntD, if_pos hk] at h
  have key : ∀ (l : List V) (s : Option Nat), l.foldl (fun s u => s.bind fun size => (cntD f u).bind fun k => some (size + k)) s ≠ none -> ∀ u ∈ l, cntD f u ≠ none := by
    intro l
    induction l with
    | nil => intro s _ u hu; cases hu
    | cons x l ih =>
      intro s hs u hu
      rw [List.foldl_cons] at hs
      rcases List.mem_cons.1 hu with rfl | hu
      · intro e
        rw [e] at hs
        cases s with
        | none => exact hs (foldl_none (fun size u => (cntD f u).bind fun k => some (size + k)) l)
        | some y => exact hs (foldl_none (fun size u => (cntD f u).bind fun k => some (size + k)) l)
      · exact ih _ hs u hu
  exact key _ _ h
theorem allV_items {v : V} (h : allV v = 0) : singV v = 0 /\ ∀ u ∈ v.items, allV u = 0 := by
  rw [allV_eq] at h
  split at h
  · exact absurd h ‹_›
  · rename_i hs
    refine ⟨by simpa using hs, ?_⟩
    have key : ∀ l : List V, firstE (l.map allV) = 0 -> ∀ u ∈ l, allV u = 0 := by
      intro l
      induction l with
      | nil => intro _ u hu; cases hu
      | cons x l ih =>
        intro hf u hu
        rw [List.map_cons, firstE] at hf
        split at hf
        · rename_i hx; exact absurd hf hx
        · rename_i hx
          rcases List.mem_cons.1 hu with rfl | hu
          · simpa using hx
          · exact ih hf u hu
    exact key _ h
theorem singV_ok {v : V} (h : singV v = 0) : (v.kind = 1 \/ v.kind = 2 \/ v.kind = 3) /\ v.text.size <= 1048576 /\ v.items.length <= 4096 /\ (v.kind ≠ 3 -> v.items = []) /\ (v.kind ≠ 1 -> v.num = 0) /\ (v.kind ≠ 2 -> v.text.size = 0) := by
  unfold singV at h
  split at h
  · rename_i hc
    split at h
    · cases h
    · refine ⟨by omega, by omega, by omega, fun hk => List.eq_nil_of_length_eq_zero (by omega), by omega, by omega⟩
  · cases h
theorem GoodD.items {f : Nat} {v : V} (h : GoodD (f + 1) v) (hk : v.kind = 3) : ∀ u ∈ v.items, GoodD f u := fun u hu => ⟨cntD_items h.1 hk u hu, (allV_items h.2).2 u hu⟩
theorem leafV_len {v : V} (h : singV v = 0) (hn : -9223372036854775808 <= v.num /\ v.num <= 9223372036854775807) : (leafV v).length <= 1048599 := by
  obtain ⟨h1, h2, _⟩ := singV_ok h
  unfold leafV
  split
  · have := Lib.itoa_length_le v.num hn.1 hn.2
    simp; omega
  · have := Lib.itoa_length_le v.text.size (by omega) (by omega)
    have ht : v.text.data.toList.length = v.text.size := by simp
    simp at ht ⊢; omega
/-- Every number fits. -/
inductive NumOk : V -> Prop
  | mk {v : V} : (-9223372036854775808 <= v.num /\ v.num <= 9223372036854775807) -> (∀ u ∈ v.items, NumOk u) -> NumOk v
theorem NumOk.num {v : V} (h : NumOk v) : -9223372036854775808 <= v.num /\ v.num <= 9223372036854775807 := by cases h; assumption
theorem NumOk.items {v : V} (h : NumOk v) : ∀ u ∈ v.items, NumOk u := by cases h; assumption
theorem rd_numOk {S : Nat -> Prop} {w : World} (v : Vl) : Rd S w v -> NumOk v.er := by
  induction v using Vl.ind with
  | h v ih =>
    intro h
    obtain ⟨_, h2, _, hv⟩ := rd_iff.1 h
    refine .mk (by rw [Vl.er_num]; exact h2) fun u hu => ?_
    rw [Vl.er_items] at hu
    obtain ⟨x, hx, rfl⟩ := List.mem_map.1 hu
    obtain ⟨j, hj⟩ := List.mem_iff_getElem?.1 hx
    exact ih x hx (hv.2.2.2 j x hj).2
theorem encF_len : ∀ (f : Nat) (out : List UInt8) (v : V), GoodD f v -> NumOk v -> out.length <= 2097175 + f -> (encF f out v).length <= 2097175 + f
  | f, out, v, hg, hn, ho => by
    by_cases hM : 1048576 < out.length
    · rw [encF_full f out v hM]; exact ho
    · by_cases hk : v.kind = 1 \/ v.kind = 2
      · have := leafV_len (allV_items hg.2).1 hn.num
        rw [encF_leaf f hM hk, List.length_append]; omega
      · have h3 : v.kind = 3 := by have := (singV_ok (allV_items hg.2).1).1; omega
        cases f with
        | zero => exact absurd rfl hg.1
        | succ f =>
          rw [encF, if_neg hM, if_neg hk]
          have key : ∀ (l : List V) (o : List UInt8), (∀ u ∈ l, GoodD f u /\ NumOk u) -> o.length <= 2097175 + f -> (l.foldl (encF f) o).length <= 2097175 + f := by
            intro l
            induction l with
            | nil => intro o _ h; exact h
            | cons u l ih =>
              intro o hl h
              exact ih _ (fun y hy => hl y (by simp [hy])) (encF_len f o u (hl u (by simp)).1 (hl u (by simp)).2 h)
          have := key v.items (out ++ [108]) (fun u hu => ⟨hg.items h3 u hu, hn.items u hu⟩) (by simp; omega)
          simp at this ⊢; omega
/-- It is the encoding, where that is not too long; else it is too long. -/
theorem encF_enc : ∀ (f : Nat) (out : List UInt8) (v : V), GoodD f v -> out.length <= 1048576 -> (out.length + (encV v).length <= 1048576 -> encF f out v = out ++ encV v) /\ (1048576 < out.length + (encV v).length -> 1048576 < (encF f out v).length)
  | f, out, v, hg, ho => by
    have hM : ¬ 1048576 < out.length := by omega
    by_cases hk : v.kind = 1 \/ v.kind = 2
    · rw [encF_leaf f hM hk, encV_leaf hk, List.length_append]
      exact ⟨fun _ => rfl, fun h => h⟩
    · have h3 : v.kind = 3 := by have := (singV_ok (allV_items hg.2).1).1; omega
      cases f with
      | zero => exact absurd rfl hg.1
      | succ f =>
        rw [encF, if_neg hM, if_neg hk, encV_list hk]
        have key : ∀ (l : List V) (o : List UInt8), (∀ u ∈ l, GoodD f u) -> (o.length <= 1048576 -> o.length + (encL l).length <= 1048576 -> l.foldl (encF f) o = o ++ encL l) /\ ((1048576 < o.length \/ 1048576 < o.length + (encL l).length) -> 1048576 < (l.foldl (encF f) o).length) := by
          intro l
          induction l with
          | nil => intro o _; simp [encL]
          | cons u l ih =>
            intro o hl
            have hgu := hl u (by simp)
            have hgl := fun y hy => hl y (List.mem_cons_of_mem _ hy)
            rw [List.foldl_cons, encL, List.length_append]
            refine ⟨fun h0 h1 => ?_, fun h1 => ?_⟩
            · obtain ⟨e1, -⟩ := encF_enc f o u hgu h0
              rw [e1 (by omega), (ih _ hgl).1 (by rw [List.length_append]; omega) (by rw [List.length_append]; omega), List.append_assoc]
            · refine (ih _ hgl).2 ?_
              by_cases h0 : 1048576 < o.length
              · left; exact Nat.lt_of_lt_of_le h0 (encF_ge f o u)
              · obtain ⟨e1, e2⟩ := encF_enc f o u hgu (by omega)
                by_cases hu : o.length + (encV u).length <= 1048576
                · right; rw [e1 hu, List.length_append]; omega
                · left; exact e2 (by omega)
        obtain ⟨k1, k2⟩ := key v.items (out ++ [108]) (fun u hu => hg.items h3 u hu)
        rw [List.length_cons, List.length_append]
        simp only [List.length_append, List.length_cons, List.length_nil] at k1 k2 ⊢
        refine ⟨fun h => ?_, fun h => ?_⟩
        · rw [k1 (by omega) (by omega)]; simp
        · by_cases h2 : out.length + 1 + (encL v.items).length <= 1048576
          · rw [k1 (by omega) (by omega)]; simp; omega
          · have := k2 (by omega); omega
end Go.Proofs.YtlbcmeebcfalpaaGreatDoor
namespace Go.Proofs.YtlbcmeebcfalpaaGreatDoor
open Go.RowKit

mutual
/-- The value, without what its kind does not use. -/
def nrm : V -> V
  | .mk k n t l => if k = 1 then .mk 1 n ⟨#[]⟩ [] else if k = 2 then .mk 2 0 t [] else .mk 3 0 ⟨#[]⟩ (nrmL l)
def nrmL : List V -> List V
  | [] => []
  | v :: r => nrm v :: nrmL r
end
theorem nrmL_map : ∀ l : List V, nrmL l = l.map nrm
  | [] => rfl
  | v :: r => by rw [nrmL, nrmL_map r]; rfl
theorem nrm_int {v : V} (h : v.kind = 1) : nrm v = .mk 1 v.num ⟨#[]⟩ [] := by
  cases v with | mk k n t l => subst h; rfl
theorem nrm_text {v : V} (h : v.kind = 2) : nrm v = .mk 2 0 v.text [] := by
  cases v with | mk k n t l => subst h; rfl
theorem nrm_list {v : V} (h : v.kind = 3) : nrm v = .mk 3 0 ⟨#[]⟩ (v.items.map nrm) := by
  cases v with | mk k n t l => subst h; rw [nrm, nrmL_map]; rfl
theorem nrm_ok (v : V) : allV v = 0 -> nrm v = v := by
  induction v using V.ind with
  | h v ih =>
    intro h
    obtain ⟨hs, hi⟩ := allV_items h
    obtain ⟨hk, -, -, h3, h1, h2⟩ := singV_ok hs
    have ht : v.kind ≠ 2 -> v.text = ⟨#[]⟩ := fun e => by
      have := h2 e
      cases ht : v.text with | mk a => rw [ht] at this; congr; exact Array.eq_empty_of_size_eq_zero this
    rcases hk with hk | hk | hk
    · rw [nrm_int hk]
      conv => rhs; rw [V.eta v, hk, h3 (by omega), ht (by omega)]
    · rw [nrm_text hk]
      conv => rhs; rw [V.eta v, hk, h3 (by omega), h1 (by omega)]
    · rw [nrm_list hk, List.map_congr_left (fun u hu => ih u hu (hi u hu)), List.map_id']
      conv => rhs; rw [V.eta v, hk, h1 (by omega), ht (by omega)]
mutual
/-- It can be read as data of the type. -/
inductive Fit : Ty -> V -> Prop
  | int {v : V} : v.kind = 1 -> Fit .int v
  | bool {v : V} : v.kind = 1 -> (v.num = 0 \/ v.num = 1) -> Fit .bool v
  | text {v : V} : v.kind = 2 -> Fit .text v
  | struc {ts : List Ty} {v : V} : v.kind = 3 -> FitL ts v.items -> Fit (.struc ts) v
  | list {k s : Nat} {t : Ty} {v : V} : v.kind = 3 -> (∀ u ∈ v.items, Fit t u) -> Fit (.list k s t) v
  | node {v : V} : Fit nodeTy v -> Fit .node v
  | expr {v : V} : Fit exprTy v -> Fit .expr v
inductive FitL : List Ty -> List V -> Prop
  | nil : FitL [] []
  | cons {t : Ty} {ts : List Ty} {v : V} {l : List V} : Fit t v -> FitL ts l -> FitL (t :: ts) (v :: l)
end
theorem fit_int {v : V} : Fit .int v ↔ v.kind = 1 := ⟨fun h => by cases h; assumption, .int⟩
theorem fit_bool {v : V} : Fit .bool v ↔ v.kind = 1 /\ (v.num = 0 \/ v.num = 1) := ⟨fun h => by cases h; exact ⟨by assumption, by assumption⟩, fun h => .bool h.1 h.2⟩
theorem fit_text {v : V} : Fit .text v ↔ v.kind = 2 := ⟨fun h => by cases h; assumption, .text⟩
theorem fit_struc {ts : List Ty} {v : V} : Fit (.struc ts) v ↔ v.kind = 3 /\ FitL ts v.items := ⟨fun h => by cases h; exact ⟨by assumption, by assumption⟩, fun h => .struc h.1 h.2⟩
theorem fit_list {k s : Nat} {t : Ty} {v : V} : Fit (.list k s t) v ↔ v.kind = 3 /\ ∀ u ∈ v.items, Fit t u := ⟨fun h => by cases h; exact ⟨by assumption, by assumption⟩, fun h => .list h.1 h.2⟩
theorem fit_node {v : V} : Fit .node v ↔ Fit nodeTy v := ⟨fun h => by cases h; assumption, .node⟩
theorem fit_expr {v : V} : Fit .expr v ↔ Fit exprTy v := ⟨fun h => by cases h; assumption, .expr⟩
theorem fitL_nil {l : List V} : FitL [] l ↔ l = [] := ⟨fun h => by cases h; rfl, fun h => by subst h; exact .nil⟩
theorem fitL_cons {t : Ty} {ts : List Ty} {v : V} {l : List V} : FitL (t :: ts) (v :: l) ↔ Fit t v /\ FitL ts l := ⟨fun h => by cases h; exact ⟨by assumption, by assumption⟩, fun h => .cons h.1 h.2⟩
theorem fitL_len : ∀ {ts : List Ty} {l : List V}, FitL ts l -> l.length = ts.length
  | [], _, h => by cases h; rfl
  | t :: ts, _, h => by cases h with | cons _ h => simp [fitL_len h]
theorem fitL_iff : ∀ {ts : List Ty} {l : List V}, FitL ts l ↔ l.length = ts.length /\ ∀ (i : Nat) (t : Ty) (v : V), ts[i]? = some t -> l[i]? = some v -> Fit t v
  | [], l => by rw [fitL_nil]; simp
  | t :: ts, [] => ⟨fun h => (by cases h), fun h => by simp at h⟩
  | t :: ts, v :: l => by
    rw [fitL_cons, fitL_iff]
    constructor
    · rintro ⟨h1, h2, h3⟩
      refine ⟨by simp [h2], fun i t' v' ht hv => ?_⟩
      cases i with
      | zero => simp at ht hv; subst ht; subst hv; exact h1
      | succ i => exact h3 i t' v' (by simpa using ht) (by simpa using hv)
    · rintro ⟨h1, h2⟩
      exact ⟨h2 0 t v rfl rfl, by simpa using h1, fun i t' v' ht hv => h2 (i + 1) t' v' (by simpa using ht) (by simpa using hv)⟩
/-- Data written down is read again. -/
theorem has_fit (d : Dv) : (∀ T, Has T d -> Fit T d.toV) /\ (∀ l, d = .struc l -> ∀ ts, HasL ts l -> FitL ts (Dv.toVL l)) := by
  have key : ∀ (T : Ty) (d : Dv), Has T d -> (∀ l, d = .struc l -> ∀ ts, HasL ts l -> FitL ts (Dv.toVL l)) -> (∀ k s a c l, d = .list k s a c l -> ∀ x ∈ l, ∀ T, Has T x -> Fit T x.toV) -> Fit T d.toV := by
    intro T d h h1 h2
    cases h with
    | int n => exact .int rfl
    | bool b => exact .bool rfl (by cases b <;> simp [Dv.toV, V.num])
    | text t => exact .text rfl
    | struc h => exact .struc rfl (by rw [Dv.toV]; exact h1 _ rfl _ h)
    | list h => exact .list rfl (by
        rw [Dv.toV, Dv.toVL_map]
        intro u hu
        obtain ⟨x, hx, rfl⟩ := List.mem_map.1 hu
        exact h2 _ _ _ _ _ rfl x hx _ (h x hx))
    | node h => cases h with | struc h => exact .node (.struc rfl (by rw [Dv.toV]; exact h1 _ rfl _ h))
    | expr h => cases h with | struc h => exact .expr (.struc rfl (by rw [Dv.toV]; exact h1 _ rfl _ h))
  have keyL : ∀ (l : List Dv), (∀ d ∈ l, ∀ T, Has T d -> Fit T d.toV) -> ∀ ts, HasL ts l -> FitL ts (Dv.toVL l) := by
    intro l
    induction l with
    | nil => intro _ ts h; cases h; exact .nil
    | cons d l ih =>
      intro hd ts h
      cases h with
      | cons h1 h2 => exact .cons (hd d (List.mem_cons_self ..) _ h1) (ih (fun d hd' => hd d (List.mem_cons_of_mem _ hd')) _ h2)
  induction d using Dv.ind with
  | hi n => exact ⟨fun T h => key T _ h (fun l e => by cases e) (fun k s a c l e => by cases e), fun l e => by cases e⟩
  | hb b => exact ⟨fun T h => key T _ h (fun l e => by cases e) (fun k s a c l e => by cases e), fun l e => by cases e⟩
  | ht t => exact ⟨fun T h => key T _ h (fun l e => by cases e) (fun k s a c l e => by cases e), fun l e => by cases e⟩
  | hs L ih =>
    have h0 : ∀ l, Dv.struc L = .struc l -> ∀ ts, HasL ts l -> FitL ts (Dv.toVL l) := fun l e ts h => by
      cases e
      exact keyL L (fun d hd => (ih d hd).1) ts h
    exact ⟨fun T h => key T _ h h0 (fun k s a c l e => by cases e), h0⟩
  | hl k s a c L ih =>
    exact ⟨fun T h => key T _ h (fun l e => by cases e) (fun k s a c l e x hx T hT => by cases e; exact (ih x hx).1 T hT), fun l e => by cases e⟩
theorem fit_toV {T : Ty} {d : Dv} (h : Has T d) : Fit T d.toV := (has_fit d).1 T h
end Go.Proofs.YtlbcmeebcfalpaaGreatDoor
namespace Go.Proofs.YtlbcmeebcfalpaaGreatDoor
open Go.RowKit

/-- What is known behind the boxing of a value. -/
structure Boxed (S : Nat -> Prop) (w W : World) (b : Nat) (v : Vl) : Prop where
  below : Below w.heap.size w W
  lt : w.heap.size <= W.heap.size
  at_ : VAt W b 0 v
  rd : Rd S W v
theorem boxed (S : Nat -> Prop) (w : World) (v : Vl) (h : Rd S w v) : Boxed S w (w.alloc (.cells v.cells 24)) w.heap.size v := by
  have hb : Below w.heap.size w (w.alloc (.cells v.cells 24)) := (Below.refl _ w).alloc (Nat.le_refl _) _
  refine ⟨hb, hb.size, ⟨?_, ?_, ?_, ?_⟩, h.below hb⟩ <;> (rw [World.cell?_alloc_at _ _ _ _ rfl]; rfl)
theorem VAt.later {w w' : World} {b o : Nat} {v : Vl} (h : VAt w b o v) (hb : Below w.heap.size w w') : VAt w' b o v :=
  ⟨clq hb h.1, clq hb h.2.1, clq hb h.2.2.1, clq hb h.2.2.2⟩
theorem Boxed.later {S : Nat -> Prop} {w W W' : World} {b : Nat} {v : Vl} (h : Boxed S w W b v) (hb : Below W.heap.size W W') : Boxed S w W' b v :=
  ⟨h.below.trans (hb.mono h.lt), Nat.le_trans h.lt hb.size, h.at_.later hb, h.rd.below hb⟩
theorem Rd.vals {S : Nat -> Prop} {w : World} {v : Vl} (h : Rd S w v) : Vals S w v.addr v.items.length v.cap v.items := (rd_iff.1 h).2.2.2
theorem take_er {l : List Vl} {j : Nat} {u : Vl} (h : l[j]? = some u) : (l.map Vl.er).take (j + 1) = (l.map Vl.er).take j ++ [u.er] := by
  rw [List.take_add_one, List.getElem?_map, h]; rfl

end Go.Proofs.YtlbcmeebcfalpaaGreatDoor

namespace Go.Proofs.YtlbcmeebcfalpaaGreatDoor
open Go.RowKit

end Go.Proofs.YtlbcmeebcfalpaaGreatDoor

namespace Go.Proofs.YtlbcmeebcfalpaaGreatDoor
open Go.RowKit
theorem toList_nil {t : ByteArray} : t.toList = [] ↔ t.size = 0 := by
  rw [ByteArray.toList_eq]
  constructor
  · intro h; have := congrArg List.length h; simpa using this
  · intro h; exact List.eq_nil_of_length_eq_zero (by simpa using h)
theorem sing_of {k nn : Int} {t : ByteArray} {a : Option Addr} {c : Nat} {l : List Vl} {E : Int} (h : singV (Vl.mk k nn t a c l).er = E) :
    E = if (k = 1 /\ t.toList = [] /\ l.length = 0) \/ (k = 2 /\ nn = 0 /\ l.length = 0) \/ (k = 3 /\ nn = 0 /\ t.toList = []) then (if 1048576 < t.size \/ 4096 < l.length then 4 else 0) else 8 := by
  rw [<- h, singV, Vl.er_kind, Vl.er_num, Vl.er_text, Vl.er_len]
  simp only [toList_nil]
  rfl
theorem single_any (S : Nat -> Prop) : ∀ (v : Vl) (w : World), Rd S w v ->
    Calls Tryz.prog 182 #[v.val] w fun e w' => e = .returned (.int .i64 (singV v.er)) /\ Below w.heap.size w w'
  | .mk k nn t a c l, w, h => by
    have ht := (rd_iff.1 h).2.2.1
    change t.size <= _ at ht
    have hB := boxed S w _ h
    have hL := hB.rd.vals.2.2.1
    have hBE := hiq hB.below
    change l.length * 56 <= _ at hL
    clear hB
    change Calls _ _ #[.agg #[.int .i64 k, .int .i64 nn, .string t, .slice a l.length c]] _ _
    generalize hE : singV (Vl.mk k nn t a c l).er = E
    have HE := hiq hE
    clear hE
    go_enter Tryz.func182, Tryz.ntmps182
    go_wp2
    all_goals
      go_ret
      refine ⟨?_, (Below.refl _ _).alloc (Nat.le_refl _) _⟩
      have hs := sing_of HE.out
      simp only [beq_iff_eq, beq_eq_false_iff_ne, ne_eq, Bool.not_eq_true', Bool.not_eq_false', List.isEmpty_iff, List.isEmpty_eq_false_iff] at *
      rw [hs]
      first
        | (rw [if_pos (by first | (left; exact ⟨by assumption, by assumption, by omega⟩) | (right; left; exact ⟨by assumption, by omega, by omega⟩) | (right; right; exact ⟨by assumption, by omega, by assumption⟩))]; first | (rw [if_pos (by omega)]; rfl) | (rw [if_neg (by omega)]; rfl))
        | (rw [if_neg (by rintro (⟨_, h2, h3⟩ | ⟨_, h2, h3⟩ | ⟨_, h2, h3⟩) <;> first | omega | contradiction)]; rfl)
end Go.Proofs.YtlbcmeebcfalpaaGreatDoor

namespace Go.Proofs.YtlbcmeebcfalpaaGreatDoor
open Go.RowKit
theorem own_valid {k nn : Int} {T : Prop} {n : Nat} (h1 : 1 <= k) (h3 : k <= 3) : ((k = 1 /\ T /\ n = 0) \/ (k = 2 /\ nn = 0 /\ n = 0) \/ (k = 3 /\ nn = 0 /\ T)) ↔ (nn ≠ 0 -> k = 1) /\ (¬ T -> k = 2) /\ (0 < n -> k = 3) := by
  by_cases hT : T <;> by_cases hn : nn = 0 <;> by_cases h0 : 0 < n <;> simp [hT, hn, h0] <;> omega
/-- The fields below j are of their kinds. -/
def OwnR (k : Int) (b1 b2 b3 : Bool) (j : Nat) : Prop := (1 < j -> b1 = true -> k = 1) /\ (2 < j -> b2 = true -> k = 2) /\ (3 < j -> b3 = true -> k = 3)
theorem own_any (S : Nat -> Prop) : ∀ (v : Vl) (w : World), Rd S w v ->
    Calls Tryz.prog 151 #[v.val] w fun e w' => e = .returned (.int .i64 (singV v.er)) /\ Below w.heap.size w w'
  | .mk k nn t a c l, w, h => by
    have ht := (rd_iff.1 h).2.2.1
    change t.size <= _ at ht
    have hB := boxed S w _ h
    have hL := hB.rd.vals.2.2.1
    have hBE := hiq hB.below
    change l.length * 56 <= _ at hL
    clear hB
    change Calls _ _ #[.agg #[.int .i64 k, .int .i64 nn, .string t, .slice a l.length c]] _ _
    generalize hE : singV (Vl.mk k nn t a c l).er = E
    have HE := hiq hE
    clear hE
    have hs := sing_of HE.out
    by_cases hk1 : k < 1
    · rw [if_neg (by omega)] at hs
      have HS := hiq hs
      clear hs
      go_enter Tryz.func151, Tryz.ntmps151
      go_wp2
      go_ret
      exact ⟨by rw [HS.out]; rfl, ((Below.refl _ _).alloc (Nat.le_refl _) _).alloc (by simp) _⟩
    · by_cases hk3 : 3 < k
      · rw [if_neg (by omega)] at hs
        have HS := hiq hs
        have dk1 : decide (k < 1) = false := by simp; omega
        clear hs
        go_enter Tryz.func151, Tryz.ntmps151
        go_wp2
        go_ret
        exact ⟨by rw [HS.out]; rfl, ((Below.refl _ _).alloc (Nat.le_refl _) _).alloc (by simp) _⟩
      · have hk1' : 1 <= k := by omega
        have hk3' : k <= 3 := by omega
        have dk1 : decide (k < 1) = false := by simp; omega
        have dk3 : decide (3 < k) = false := by simp; omega
        have HS := hiq hs
        clear hs hk1 hk3
        go_enter Tryz.func151, Tryz.ntmps151
        go_wp2
        generalize hb1 : (nn != 0) = b1
        generalize hb2 : (!t.toList.isEmpty) = b2
        generalize hb3 : decide (0 < l.length) = b3
        have HB1 := hiq hb1
        have HB2 := hiq hb2
        have HB3 := hiq hb3
        clear hb1 hb2 hb3
        have i0 : ∀ W, (Instr.index 281 (.agg #[.bool false, .bool b1, .bool b2, .bool b3]) (.int .i64 0)).run Tryz.prog W = .ok (.bool false) W := fun _ => by kernel_rfl
        have i1 : ∀ W, (Instr.index 281 (.agg #[.bool false, .bool b1, .bool b2, .bool b3]) (.int .i64 1)).run Tryz.prog W = .ok (.bool b1) W := fun _ => by kernel_rfl
        have i2 : ∀ W, (Instr.index 281 (.agg #[.bool false, .bool b1, .bool b2, .bool b3]) (.int .i64 2)).run Tryz.prog W = .ok (.bool b2) W := fun _ => by kernel_rfl
        have i3 : ∀ W, (Instr.index 281 (.agg #[.bool false, .bool b1, .bool b2, .bool b3]) (.int .i64 3)).run Tryz.prog W = .ok (.bool b3) W := fun _ => by kernel_rfl
        have hfin : Hid ((b1 = true -> k = 1) -> (b2 = true -> k = 2) -> (b3 = true -> k = 3) -> E = if 1048576 < t.size \/ 4096 < l.length then 4 else 0) := fun h1 h2 h3 => by
          rw [HS.out, if_pos]
          rw [<- HB1.out] at h1
          rw [<- HB2.out] at h2
          rw [<- HB3.out] at h3
          simp only [bne_iff_ne, Bool.not_eq_true', List.isEmpty_eq_false_iff, decide_eq_true_eq] at h1 h2 h3
          exact (own_valid hk1' hk3').2 ⟨h1, h2, h3⟩
        have hbad : Hid ((b1 = true /\ k ≠ 1) \/ (b2 = true /\ k ≠ 2) \/ (b3 = true /\ k ≠ 3) -> E = 8) := fun h => by
          rw [HS.out, if_neg]
          rw [<- HB1.out, <- HB2.out, <- HB3.out] at h
          simp only [bne_iff_ne, Bool.not_eq_true', List.isEmpty_eq_false_iff, decide_eq_true_eq] at h
          intro hv
          obtain ⟨g1, g2, g3⟩ := (own_valid hk1' hk3').1 hv
          rcases h with ⟨a1, a2⟩ | ⟨a1, a2⟩ | ⟨a1, a2⟩
          · exact a2 (g1 a1)
          · exact a2 (g2 a1)
          · exact a2 (g3 a1)
        go_loopw [26] (fun i wr => ∃ (j : Nat), i = .int .i64 j /\ j <= 4 /\ OwnR k b1 b2 b3 j /\ wr = (w.alloc (.cells #[.int .i64 k, .int .i64 nn, .string t, .slice a l.length c] 24)).alloc (.cells #[.bool false, .bool b1, .bool b2, .bool b3] 281)) (fun i _ => 4 - (intOf i).toNat)
        case atStart => exact ⟨0, rfl, by omega, ⟨fun h => by omega, fun h => by omega, fun h => by omega⟩, rfl⟩
        case round =>
          obtain ⟨j, rfl, hj, hx, rfl⟩ := hrel
          rcases (show j = 0 \/ j = 1 \/ j = 2 \/ j = 3 \/ j = 4 by omega) with rfl | rfl | rfl | rfl | rfl
          · have hn : OwnR k b1 b2 b3 1 := ⟨fun h => by omega, fun h => by omega, fun h => by omega⟩
            go_wp2
            go_roundw
            case rel => exact ⟨1, rfl, by omega, hn, trivial⟩
            case measure => simp [intOf]
          · cases b1 with
            | false =>
              have hn : OwnR k false b2 b3 2 := ⟨(fun _ h => by cases h), fun h => by omega, fun h => by omega⟩
              go_wp2
              go_roundw
              case rel => exact ⟨2, rfl, by omega, hn, trivial⟩
              case measure => simp [intOf]
            | true =>
              by_cases e : k = 1
              · have hn : OwnR k true b2 b3 2 := ⟨fun _ _ => e, fun h => by omega, fun h => by omega⟩
                have dn : ((1 : Int) != k) = false := by simp [e]
                clear e
                go_wp2
                go_roundw
                case rel => exact ⟨2, rfl, by omega, hn, trivial⟩
                case measure => simp [intOf]
              · have dn : ((1 : Int) != k) = true := by simp; omega
                have HX : Hid (E = 8) := hbad.out (.inl ⟨rfl, e⟩)
                clear e
                go_wp2
                go_ret
                exact ⟨by rw [HX.out]; rfl, ((Below.refl _ _).alloc (Nat.le_refl _) _).alloc (by simp) _⟩
          · have h1 := hx.1 (by omega)
            have H1 := hiq h1
            clear h1
            cases b2 with
            | false =>
              have hn : OwnR k b1 false b3 3 := ⟨fun _ => H1.out, (fun _ h => by cases h), fun h => by omega⟩
              go_wp2
              go_roundw
              case rel => exact ⟨3, rfl, by omega, hn, trivial⟩
              case measure => simp [intOf]
            | true =>
              by_cases e : k = 2
              · have hn : OwnR k b1 true b3 3 := ⟨fun _ => H1.out, fun _ _ => e, fun h => by omega⟩
                have dn : ((2 : Int) != k) = false := by simp [e]
                clear e
                go_wp2
                go_roundw
                case rel => exact ⟨3, rfl, by omega, hn, trivial⟩
                case measure => simp [intOf]
              · have dn : ((2 : Int) != k) = true := by simp; omega
                have HX : Hid (E = 8) := hbad.out (.inr (.inl ⟨rfl, e⟩))
                clear e
                go_wp2
                go_ret
                exact ⟨by rw [HX.out]; rfl, ((Below.refl _ _).alloc (Nat.le_refl _) _).alloc (by simp) _⟩
          · have h1 := hx.1 (by omega)
            have h2 := hx.2.1 (by omega)
            have H1 := hiq h1
            have H2 := hiq h2
            clear h1 h2
            cases b3 with
            | false =>
              have hn : OwnR k b1 b2 false 4 := ⟨fun _ => H1.out, fun _ => H2.out, (fun _ h => by cases h)⟩
              go_wp2
              go_roundw
              case rel => exact ⟨4, rfl, by omega, hn, trivial⟩
              case measure => simp [intOf]
            | true =>
              by_cases e : k = 3
              · have hn : OwnR k b1 b2 true 4 := ⟨fun _ => H1.out, fun _ => H2.out, fun _ _ => e⟩
                have dn : ((3 : Int) != k) = false := by simp [e]
                clear e
                go_wp2
                go_roundw
                case rel => exact ⟨4, rfl, by omega, hn, trivial⟩
                case measure => simp [intOf]
              · have dn : ((3 : Int) != k) = true := by simp; omega
                have HX : Hid (E = 8) := hbad.out (.inr (.inr ⟨rfl, e⟩))
                clear e
                go_wp2
                go_ret
                exact ⟨by rw [HX.out]; rfl, ((Below.refl _ _).alloc (Nat.le_refl _) _).alloc (by simp) _⟩
          · have HX : Hid (E = if 1048576 < t.size \/ 4096 < l.length then 4 else 0) := hfin.out (hx.1 (by omega)) (hx.2.1 (by omega)) (hx.2.2 (by omega))
            go_wp2
            all_goals
              go_ret
              exact ⟨by rw [HX.out]; first | (rw [if_pos (by omega)]; rfl) | (rw [if_neg (by omega)]; rfl), ((Below.refl _ _).alloc (Nat.le_refl _) _).alloc (by simp) _⟩
end Go.Proofs.YtlbcmeebcfalpaaGreatDoor
namespace Go.Proofs.YtlbcmeebcfalpaaGreatDoor
open Go.RowKit

theorem Tryz.infoVal : (Tryz.prog.info? 24).map (fun i => (i.zero, i.size, i.bytes)) = some (some (.agg #[.int .i64 0, .int .i64 0, .string ⟨#[]⟩, .slice none 0 0]), 4, 56) := by kernel_rfl
/-- The cells of values, one behind the other. -/
def flat (l : List Vl) : List Value := l.flatMap fun v => v.cells.toList
theorem flat_cons (v : Vl) (l : List Vl) : flat (v :: l) = v.cells.toList ++ flat l := rfl
theorem flat_append (l m : List Vl) : flat (l ++ m) = flat l ++ flat m := by simp [flat]
theorem flat_length : ∀ l : List Vl, (flat l).length = l.length * 4
  | [] => rfl
  | v :: l => by rw [flat_cons, List.length_append, flat_length l, List.length_cons]; show 4 + _ = _; omega
theorem flat_at : ∀ (l : List Vl) (j i : Nat) (v : Vl), l[j]? = some v -> i < 4 -> (flat l)[j * 4 + i]? = v.cells[i]?
  | [], j, i, v, h, _ => by cases h
  | u :: l, 0, i, v, h, hi => by
    simp at h; subst h
    rw [flat_cons, Nat.zero_mul, Nat.zero_add, List.getElem?_append_left (by show i < 4; exact hi)]
    simp
  | u :: l, j + 1, i, v, h, hi => by
    rw [flat_cons, List.getElem?_append_right (by show 4 <= _; omega)]
    have := flat_at l j i v (by simpa using h) hi
    rw [show (j + 1) * 4 + i - u.cells.toList.length = j * 4 + i by show (j + 1) * 4 + i - 4 = _; omega]
    exact this
theorem flat_one : ∀ l : List Vl, ∀ x ∈ flat l, x.oneCell' = true
  | [], x, h => by cases h
  | v :: l, x, h => by
    rw [flat_cons] at h
    rcases List.mem_append.1 h with h | h
    · simp [Vl.cells, Vl.sl] at h
      rcases h with rfl | rfl | rfl | rfl <;> rfl
    · exact flat_one l x h
/-- The slice value is the call's own (from block B on), and reads as l. -/
def OwnV (S : Nat -> Prop) (w : World) (B : Nat) (a : Option Addr) (n cap : Nat) (l : List Vl) : Prop :=
  n = l.length /\ w.ownsRow B 24 4 (.slice a n cap) n (flat l) /\ ∀ u ∈ l, Rd S w u
namespace OwnV
variable {S S' : Nat -> Prop} {w w' : World} {B : Nat} {a : Option Addr} {n cap : Nat} {l : List Vl}
theorem nil (S : Nat -> Prop) (w : World) (B : Nat) : OwnV S w B none 0 0 [] := ⟨rfl, World.ownsRow_nil _ _ _ _, by simp⟩
theorem len (h : OwnV S w B a n cap l) : n = l.length := h.1
theorem cap_le (h : OwnV S w B a n cap l) : n <= cap := by
  rcases h.2.1.2 with ⟨hv, h0⟩ | ⟨g, cap', cur, hv, _, _, hc, _⟩
  · omega
  · cases hv; exact hc
theorem lt (h : OwnV S w B a n cap l) : ∀ q, (Value.slice a n cap).ownBlock = some q -> B <= q /\ q < w.heap.size := h.2.1.lt
theorem vals (h : OwnV S w B a n cap l) (hn : n * 56 <= 140737488355328) (hS : ∀ b, S b -> S' b) (ha : ∀ x, a = some x -> S' x.block) : Vals S' w a n cap l := by
  refine ⟨h.1, h.cap_le, hn, fun j v hj => ⟨?_, (h.2.2 v (List.mem_of_getElem? hj)).mono (fun b hb _ => hS b hb)⟩⟩
  have hjl : j < l.length := (List.getElem?_eq_some_iff.1 hj).1
  have hn' := h.1
  rcases h.2.1.2 with ⟨_, h0⟩ | ⟨g, cap', cur, hv, hB, hg, hc, hm, hs, ht⟩
  · omega
  · cases hv
    refine ⟨g, 0, rfl, ha _ rfl, ?_⟩
    have key : ∀ i, i < 4 -> w.cell? ⟨g, 0 + j * 4 + i, none⟩ = v.cells[i]? := fun i hi => by
      rw [cell_row hg, Nat.zero_add, <- flat_at l j i v hj hi, <- ht, List.getElem?_take, if_pos (by omega)]
      simp
    exact ⟨key 0 (by omega), key 1 (by omega), key 2 (by omega), key 3 (by omega)⟩
theorem below (h : OwnV S w B a n cap l) (hb : Below w.heap.size w w') : OwnV S w' B a n cap l := ⟨h.1, ownsRow_below h.2.1 hb, fun u hu => (h.2.2 u hu).below hb⟩
theorem mono {B' : Nat} (h : OwnV S w B a n cap l) (hB : B' <= B) : OwnV S w B' a n cap l := by
  refine ⟨h.1, ⟨h.2.1.1, ?_⟩, h.2.2⟩
  rcases h.2.1.2 with h0 | ⟨g, cap', cur, hv, hb, hrest⟩
  · exact .inl h0
  · exact .inr ⟨g, cap', cur, hv, Nat.le_trans hB hb, hrest⟩
theorem monoS (h : OwnV S w B a n cap l) (hS : ∀ b, S b -> b < w.heap.size -> S' b) : OwnV S' w B a n cap l := ⟨h.1, h.2.1, fun u hu => (h.2.2 u hu).mono hS⟩
end OwnV
theorem vals_news {S : Nat -> Prop} {w : World} {b off n c : Nat} {l : List Vl} (h : Vals S w (some ⟨b, off, none⟩) n c l) : ∀ j u, (flat l)[j]? = some u -> w.cell? ((⟨b, off, none⟩ : Addr).add j) = some u := by
  intro j u hj
  have hjl : j < l.length * 4 := by rw [<- flat_length]; exact (List.getElem?_eq_some_iff.1 hj).1
  obtain ⟨v, hv⟩ : ∃ v, l[j / 4]? = some v := ⟨_, List.getElem?_eq_getElem (by omega)⟩
  obtain ⟨⟨b', off', e, _, c1, c2, c3, c4⟩, _⟩ := h.2.2.2 _ _ hv
  cases e
  have := flat_at l (j / 4) (j % 4) v hv (Nat.mod_lt _ (by omega))
  rw [show j / 4 * 4 + j % 4 = j by omega, hj] at this
  rw [Addr.add_lit]
  rcases (show j % 4 = 0 \/ j % 4 = 1 \/ j % 4 = 2 \/ j % 4 = 3 by omega) with e | e | e | e <;> rw [e] at this
  · rw [show off + j = off + j / 4 * 4 by omega, c1, this]; rfl
  · rw [show off + j = off + j / 4 * 4 + 1 by omega, c2, this]; rfl
  · rw [show off + j = off + j / 4 * 4 + 2 by omega, c3, this]; rfl
  · rw [show off + j = off + j / 4 * 4 + 3 by omega, c4, this]; rfl

section
variable {ops : Array Oper} {rest : List Oper} {o : Oper} {act : Act} {Q : Exit -> Act -> World -> Prop} {w w0 : World} {B : Nat} {a b : Option Addr} {n cap m c : Nat} {l s : List Vl} {S : Nat -> Prop}
/-- append(x, y...): y is read. -/
theorem wpList_appVals (hgd : o.guard = none) (os ox : Operand) (ho : o.op = .call { callee := .builtin .append, args := #[os, ox], argTypes := #[22, 22] })
    (hs : act.eval os = .slice a n cap) (hx : act.eval ox = .slice b m c) (hown : OwnV S w B a n cap l) (hy : Vals S w b m c s) (hb0 : b = none -> m = 0 /\ c = 0) (hnm : (n + m) * 56 <= 140737488355328) (hB : B <= w.heap.size) (hb : Below B w0 w) (hSo : ∀ q, (Value.slice a n cap).ownBlock = some q -> ¬ S q)
    (h : ∀ a' c' w', OwnV S w' B a' (n + m) c' (l ++ s) -> Below B w0 w' -> w.grownBy w' (Value.slice a n cap).ownBlock -> ((Value.slice a' (n + m) c').ownBlock = (Value.slice a n cap).ownBlock \/ (Value.slice a' (n + m) c').ownBlock = some w.heap.size) -> wpList Tryz.prog ops Q rest (act.put o.dst (.slice a' (n + m) c')) w') :
    wpList Tryz.prog ops Q (o :: rest) act w := by
  obtain ⟨i0, hi, hz0, hz1, hz2⟩ := info_parts Tryz.infoVal
  have hm := hy.1
  have hl := hown.1
  have hlt := hown.lt
  cases b with
  | none =>
    obtain ⟨rfl, rfl⟩ := hb0 rfl
    obtain rfl : s = [] := List.eq_nil_of_length_eq_zero hm.symm
    refine wpList_append_own_none hgd os ox 22 ho B 24 i0 4 Tryz.underlying22 hi _ _ _ hs hown.2.1 hx ?_
    exact h a cap w (by simpa using hown) hb ⟨rfl, rfl, rfl, Nat.le_refl _, fun _ _ _ => rfl⟩ (.inl rfl)
  | some ad =>
    have hnews : ∀ j u, (flat s)[j]? = some u -> w.cell? (ad.add j) = some u := by
      intro j u hj
      have hs0 : 0 < s.length := by
        rcases Nat.eq_zero_or_pos s.length with e | e
        · rw [List.eq_nil_of_length_eq_zero e] at hj; cases hj
        · exact e
      obtain ⟨_, b', off', _, _, e, _⟩ := hy.get (j := 0) (by omega)
      cases e
      exact vals_news hy j u hj
    refine wpList_append_own_at _ hgd os ox 22 ho B 24 i0 (.agg #[.int .i64 0, .int .i64 0, .string ⟨#[]⟩, .slice none 0 0]) 4 56 Tryz.underlying22 hi hz0 hz1 hz2 rfl (by decide) _ _ _ hs hown.2.1 ad m c (flat s) hx (by rw [flat_length, hm])
      hnews (flat_one s) (by unfold maxLen; omega) hnm hB ?_
    intro v' w' h1 h2 _ h4
    obtain ⟨a', c', rfl⟩ : ∃ a' c', v' = .slice a' (n + m) c' := by
      rcases h1.2 with ⟨rfl, h0⟩ | ⟨g, cap', cur, rfl, _⟩
      · exact ⟨none, 0, by rw [h0]⟩
      · exact ⟨_, _, rfl⟩
    have hk : KeepS S w w' := .grown h2 hSo
    refine h a' c' w' ⟨by rw [List.length_append]; omega, by rw [flat_append]; exact h1, fun u hu => ?_⟩ (hb.grown h2 hB (fun j hj => (hlt j hj).1)) h2 h4
    rcases List.mem_append.1 hu with hu | hu
    · exact (hown.2.2 u hu).keep hk
    · obtain ⟨j, hj⟩ := List.mem_iff_getElem?.1 hu
      exact (hy.2.2.2 j u hj).2.keep hk
end
end Go.Proofs.YtlbcmeebcfalpaaGreatDoor
