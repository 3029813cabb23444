/- Plain: all operations, the inverse, commuting; where tokens stand behind an operation. No program. -/
import Derived.Test.YtileoimcnhcfcaaDoorEVal3
import Derived.Test.YtileoimcnhcfcaaDoorEDat
set_option linter.unusedVariables false
set_option linter.unusedSimpArgs false
namespace Go.Proofs.YtileoimcnhcfcaaDoor

def Op.zero : Op := ⟨0, ⟨#[]⟩, 0, 0, ⟨#[]⟩⟩
theorem size_zero {s : ByteArray} (h : s.size = 0) : s = ⟨#[]⟩ := by
  obtain ⟨d⟩ := s
  have : d = #[] := Array.eq_empty_of_size_eq_zero h
  rw [this]
theorem mem_four {s : ByteArray} {t : Nat} {o : Op} : o ∈ four s t ↔ o.sig = s ∧ o.tok = t ∧ o.text = ⟨#[]⟩ ∧ ((o.kind = 1 ∧ o.other = 0) ∨ (o.kind = 2 ∧ o.other = 0) ∨ (o.kind = 3 ∧ o.other = -1) ∨ (o.kind = 3 ∧ o.other = 1)) := by
  obtain ⟨k, g, n, h, x⟩ := o
  simp only [four, List.mem_cons, List.not_mem_nil, or_false, Op.mk.injEq]
  constructor
  · rintro (⟨rfl, rfl, rfl, rfl, rfl⟩ | ⟨rfl, rfl, rfl, rfl, rfl⟩ | ⟨rfl, rfl, rfl, rfl, rfl⟩ | ⟨rfl, rfl, rfl, rfl, rfl⟩) <;> simp
  · rintro ⟨rfl, rfl, rfl, (⟨rfl, rfl⟩ | ⟨rfl, rfl⟩ | ⟨rfl, rfl⟩ | ⟨rfl, rfl⟩)⟩ <;> simp
theorem mem_allOps {x : Col} {o : Op} : o ∈ allOps x ↔ ∃ i t, i < x.sigla.length ∧ t < (x.tks i).length ∧ o ∈ four (x.sigla[i]?.getD ⟨#[]⟩) t ∧ opErr x o = 0 := by
  unfold allOps opsOf opsAt
  simp only [List.mem_flatMap, List.mem_range, List.mem_filter, decide_eq_true_eq]
  constructor
  · rintro ⟨i, hi, t, ht, h1, h2⟩; exact ⟨i, t, hi, ht, h1, h2⟩
  · rintro ⟨i, t, hi, ht, h1, h2⟩; exact ⟨i, hi, t, ht, h1, h2⟩
theorem all_zero {x : Col} {o : Op} (h : o ∈ allOps x) : opErr x o = 0 := by obtain ⟨_, _, _, _, _, h⟩ := mem_allOps.1 h; exact h
theorem all_kind {x : Col} {o : Op} (h : o ∈ allOps x) : o.kind ≠ 4 := by
  obtain ⟨_, _, _, _, h, _⟩ := mem_allOps.1 h
  obtain ⟨_, _, _, h⟩ := mem_four.1 h
  omega
theorem all_of {x : Col} {o : Op} (h : opErr x o = 0) (hk : o.kind ≠ 4) : o ∈ allOps x := by
  obtain ⟨s, c, F⟩ := fits_of h
  refine mem_allOps.2 ⟨s, o.tok.toNat, F.ks, by have := F.t0; have := F.t1; omega, mem_four.2 ⟨F.sig.symm, by have := F.t0; omega, size_zero (F.text.resolve_right hk), ?_⟩, h⟩
  have h1 := F.kind
  have h2 := F.other
  by_cases e : o.kind = 3
  · have he := F.err
    unfold kindErr at he
    rw [if_neg (by omega), if_neg (by omega), if_pos e] at he
    split at he
    · exact absurd he (by decide)
    · omega
  · omega
theorem four_nodup (s : ByteArray) (t : Nat) : (four s t).Nodup := by
  simp only [four, List.nodup_cons, List.mem_cons, List.not_mem_nil, or_false, Op.mk.injEq, List.nodup_nil, not_or, not_and, not_false_eq_true, and_true]
  refine ⟨⟨by omega, by omega, by omega⟩, ⟨by omega, by omega⟩, by omega⟩
theorem all_nodup {x : Col} (hn : x.sigla.Nodup) : (allOps x).Nodup := by
  unfold allOps List.Nodup
  rw [List.pairwise_flatMap]
  constructor
  · intro i hi
    unfold opsOf
    rw [List.pairwise_flatMap]
    constructor
    · intro t ht
      exact List.Pairwise.sublist List.filter_sublist (four_nodup _ _)
    · refine List.Pairwise.imp ?_ (List.nodup_range (n := _))
      intro t u htu p hp q hq e
      subst e
      have h1 := (mem_four.1 (List.mem_filter.1 hp).1).2.1
      have h2 := (mem_four.1 (List.mem_filter.1 hq).1).2.1
      omega
  · have hr : (List.range x.sigla.length).Pairwise (fun i j => i ≠ j ∧ i < x.sigla.length ∧ j < x.sigla.length) := by
      refine List.Pairwise.imp_of_mem ?_ (List.nodup_range (n := x.sigla.length))
      intro a b ha hb hab
      exact ⟨hab, List.mem_range.1 ha, List.mem_range.1 hb⟩
    refine List.Pairwise.imp ?_ hr
    rintro i j ⟨hij, hi, hj⟩ p hp q hq e
    subst e
    obtain ⟨t, _, hp⟩ := List.mem_flatMap.1 hp
    obtain ⟨u, _, hq⟩ := List.mem_flatMap.1 hq
    have h1 := (mem_four.1 (List.mem_filter.1 hp).1).1
    have h2 := (mem_four.1 (List.mem_filter.1 hq).1).1
    rw [h1, List.getElem?_eq_getElem hi, List.getElem?_eq_getElem hj] at h2
    have h3 := List.pairwise_iff_getElem.1 hn
    rcases Nat.lt_trichotomy i j with q | q | q
    · exact h3 i j hi hj q (by simpa using h2)
    · exact hij q
    · exact h3 j i hj hi q (by simpa using h2.symm)

/-- The inverse of an operation, and why there is none. -/
def invFind (x y : Col) : List Op → Option Op := List.find? fun b => decide (opErr y b = 0) && decide (opApply y b = x)
def inverse (x : Col) (o : Op) : Op × Int :=
  if opErr x o ≠ 0 then (Op.zero, opErr x o)
  else if o.kind = 4 then ({ o with text := (match x.place o with | some p => (x.tk p.1 o.tok).norm | none => ⟨#[]⟩) }, 0)
  else match invFind x (opApply x o) (allOps (opApply x o)) with
    | some b => (b, 0)
    | none => (Op.zero, 6)
def commute (x : Col) (a b : Op) : Bool × Int :=
  if opErr x a ≠ 0 then (false, opErr x a) else if opErr x b ≠ 0 then (false, opErr x b)
  else (decide (opErr (opApply x a) b = 0) && decide (opErr (opApply x b) a = 0) && decide (opApply (opApply x a) b = opApply (opApply x b) a), 0)
theorem commute_err {x : Col} {a b : Op} : (commute x a b).2 = 0 ↔ opErr x a = 0 ∧ opErr x b = 0 := by
  unfold commute
  by_cases h1 : opErr x a = 0
  · by_cases h2 : opErr x b = 0
    · rw [if_neg (by simp [h1]), if_neg (by simp [h2])]; simp [h1, h2]
    · rw [if_neg (by simp [h1]), if_pos h2]; simp [h2]
  · rw [if_pos h1]; simp [h1]
theorem commute_comm (x : Col) (a b : Op) : (commute x a b).1 = (commute x b a).1 := by
  unfold commute
  by_cases h1 : opErr x a = 0 <;> by_cases h2 : opErr x b = 0
  · rw [if_neg (by simp [h1]), if_neg (by simp [h2]), if_neg (by simp [h2]), if_neg (by simp [h1])]
    simp only
    rw [Bool.and_comm (decide (opErr (opApply x a) b = 0)), Bool.eq_iff_iff]
    simp only [Bool.and_eq_true, decide_eq_true_eq]
    exact ⟨fun h => ⟨h.1, h.2.symm⟩, fun h => ⟨h.1, h.2.symm⟩⟩
  · rw [if_neg (by simp [h1]), if_pos h2, if_pos h2]
  · rw [if_pos h1, if_neg (by simp [h2]), if_pos h1]
  · rw [if_pos h1, if_pos h2]

theorem tks_op {x : Col} {o : Op} {s c : Nat} (i : Nat) : ((opAt x o s c).tks i).length = (x.tks i).length := by
  have := congrArg (fun l => l[i]?.getD 0) (lens_op x o s c)
  simpa only [lens_get] using this
theorem opToks_other {x : Col} {o : Op} {s c : Nat} (h : o.kind ≠ 4) : (opAt x o s c).toks = x.toks := by
  show opToks x o s = _; unfold opToks; rw [if_neg h]
/-- The texts of a source are as before. -/
theorem texts_op (x : Col) (o : Op) (s c i : Nat) : ((opAt x o s c).tks i).map Tok.text = (x.tks i).map Tok.text := by
  by_cases h : o.kind = 4
  · have e : (opAt x o s c).toks = x.toks.set s ((x.tks s).set o.tok.toNat { x.tk s o.tok with norm := o.text }) := by
      show opToks x o s = _; unfold opToks; rw [if_pos h]
    unfold Col.tks
    rw [e, List.getElem?_set]
    by_cases hi : s = i
    · subst hi
      rw [if_pos rfl]
      by_cases hl : s < x.toks.length
      · rw [if_pos hl]
        simp only [Option.getD_some]
        rw [List.map_set]
        have ht : x.tks s = x.toks[s]?.getD [] := rfl
        rw [← ht]
        apply List.ext_getElem?
        intro j
        rw [List.getElem?_set]
        by_cases hj : o.tok.toNat = j
        · subst hj
          rw [if_pos rfl]
          by_cases hk : o.tok.toNat < ((x.tks s).map Tok.text).length
          · rw [if_pos hk, List.getElem?_eq_getElem hk, List.getElem_map]
            have hk' : o.tok.toNat < (x.tks s).length := by simpa using hk
            show some (x.tk s o.tok).text = _
            unfold Col.tk; rw [List.getElem?_eq_getElem hk']; rfl
          · rw [if_neg hk, List.getElem?_eq_none (by omega)]
        · rw [if_neg hj]
      · rw [if_neg hl, List.getElem?_eq_none (by omega)]
    · rw [if_neg hi]
  · unfold Col.tks; rw [opToks_other h]

/-- What leads back from a regularization. -/
theorem back_reg {x : Col} {o : Op} {s c : Nat} (F : Fits x o s c) (hk : o.kind = 4) :
    opErr (opAt x o s c) { o with text := (x.tk s o.tok).norm } = 0 ∧ opApply (opAt x o s c) { o with text := (x.tk s o.tok).norm } = x := by
  have hs : s < x.toks.length := by rw [F.heads.len]; exact F.ks
  have hc : (opAt x o s c).cols = x.cols := by show opCols x o s c = _; unfold opCols; rw [if_neg (by omega), if_neg (by omega), if_neg (by omega)]
  have ht : (opAt x o s c).toks = x.toks.set s ((x.tks s).set o.tok.toNat { x.tk s o.tok with norm := o.text }) := by
    show opToks x o s = _; unfold opToks; rw [if_pos hk]
  have htk : (opAt x o s c).tks s = (x.tks s).set o.tok.toNat { x.tk s o.tok with norm := o.text } := by
    unfold Col.tks; rw [ht, List.getElem?_set_self hs]; rfl
  have h0 := F.t0
  have h1 := F.t1
  have hl : o.tok.toNat < (x.tks s).length := by omega
  have htok : (opAt x o s c).tk s o.tok = { x.tk s o.tok with norm := o.text } := by
    unfold Col.tk; rw [htk, List.getElem?_set_self hl]; rfl
  have hat : ∀ i t, (opAt x o s c).at_ i t = x.at_ i t := by intro i t; unfold Col.at_ Col.row; rw [hc]
  have hold : ({ ({ x.tk s o.tok with norm := o.text } : Tok) with norm := (x.tk s o.tok).norm } : Tok) = x.tk s o.tok := rfl
  have F2 : Fits (opAt x o s c) { o with text := (x.tk s o.tok).norm } s c := by
    refine ⟨valid_op F, ?_, F.src, by rw [hat]; exact F.at_, F.kind, F.other, .inr hk, F.ks, F.sig, h0, ?_, by rw [hc]; exact F.kc, ?_, ?_⟩
    · refine place_some.2 ⟨F.src, h0, ?_, by rw [hat]; exact F.at_⟩
      rw [tks_op]; exact h1
    · rw [tks_op]; exact h1
    · have : (opAt x o s c).row c = x.row c := by unfold Col.row; rw [hc]
      rw [this]; exact F.ent
    · unfold kindErr
      simp only
      rw [if_neg (by omega), if_neg (by omega), if_neg (by omega), htok, hold]
      have := (F.heads.toks _ (tks_mem hs)).2 _ (tk_mem h0 h1)
      rw [this]; simp
  refine ⟨F2.zero, ?_⟩
  rw [F2.apply]
  have e1 : opCols (opAt x o s c) { o with text := (x.tk s o.tok).norm } s c = x.cols := by
    unfold opCols; simp only; rw [if_neg (by omega), if_neg (by omega), if_neg (by omega), hc]
  have e2 : opToks (opAt x o s c) { o with text := (x.tk s o.tok).norm } s = x.toks := by
    unfold opToks; simp only; rw [if_pos hk, htk, ht, htok, hold, List.set_set, List.set_set]
    have e3 : (x.tks s).set o.tok.toNat (x.tk s o.tok) = x.tks s := by
      have : x.tk s o.tok = (x.tks s)[o.tok.toNat] := by unfold Col.tk; rw [List.getElem?_eq_getElem hl]; rfl
      rw [this]; exact List.set_getElem_self hl
    rw [e3]
    have : x.tks s = x.toks[s] := by unfold Col.tks; rw [List.getElem?_eq_getElem hs]; rfl
    rw [this]; exact List.set_getElem_self hs
  show Col.mk _ _ _ _ = x
  rw [e1, e2]
  rfl
theorem inverse_ok {x : Col} {o : Op} {p : Op} (h : inverse x o = (p, 0)) (hz : opErr x o = 0) : opErr (opApply x o) p = 0 ∧ opApply (opApply x o) p = x := by
  obtain ⟨s, c, F⟩ := fits_of hz
  unfold inverse at h
  rw [if_neg (by simp [hz])] at h
  by_cases hk : o.kind = 4
  · rw [if_pos hk, F.place] at h
    simp only [Prod.mk.injEq, and_true] at h
    rw [← h, F.apply]
    exact back_reg F hk
  · rw [if_neg hk] at h
    split at h
    · rename_i b hb
      cases h
      have := List.find?_some hb
      simpa using this
    · simp at h
theorem inverse_none {x : Col} {o : Op} (h : (inverse x o).2 ≠ 0) (hz : opErr x o = 0) : (inverse x o).2 = 6 ∧ o.kind ≠ 4 ∧ ∀ b ∈ allOps (opApply x o), opErr (opApply x o) b = 0 ∧ opApply (opApply x o) b ≠ x := by
  unfold inverse at h ⊢
  rw [if_neg (by simp [hz])] at h ⊢
  by_cases hk : o.kind = 4
  · rw [if_pos hk] at h; exact absurd rfl h
  · rw [if_neg hk] at h ⊢
    split at h
    · exact absurd rfl h
    · rename_i hn
      refine ⟨rfl, hk, fun b hb => ⟨all_zero hb, fun e => ?_⟩⟩
      have := List.find?_eq_none.1 hn b hb
      rw [all_zero hb, e] at this
      simp at this
end Go.Proofs.YtileoimcnhcfcaaDoor

/- Plain: the number of columns behind an operation; where tokens that are not moved stand. No program. -/
namespace Go.Proofs.YtileoimcnhcfcaaDoor

theorem mem_oneAt {s : Nat} {c : List Int} {t : Int} : t ∈ oneAt s c ↔ ent c s = t ∧ t ≠ -1 := by
  unfold oneAt
  split
  · rename_i h
    simp only [List.not_mem_nil, false_iff, not_and]
    intro e; rw [← e]; simpa using h
  · rename_i h
    rw [List.mem_singleton]
    constructor
    · rintro rfl; exact ⟨rfl, h⟩
    · rintro ⟨e, _⟩; exact e.symm
theorem mem_seqAt {s : Nat} {cols : List (List Int)} {t : Int} : t ∈ seqAt s cols ↔ ∃ c ∈ cols, ent c s = t ∧ t ≠ -1 := by
  unfold seqAt; rw [List.mem_flatMap]; simp only [mem_oneAt]
theorem upFrom_nodup : ∀ (m : Nat) (a : Int), (upFrom a m).Nodup
  | 0, _ => List.nodup_nil
  | m + 1, a => by
    rw [upFrom, List.nodup_cons, upFrom_mem]
    exact ⟨by omega, upFrom_nodup m _⟩
theorem at_uniq {x : Col} (hg : Good x.lens x.cols) {s c : Nat} {t : Int} (hs : s < x.lens.length) (hc : c < x.cols.length) (he : ent (x.row c) s = t) (ht : 0 ≤ t) : x.at_ s t = some c := by
  unfold Col.at_
  refine firstFrom_some.2 ⟨Nat.zero_le _, hc, decide_eq_true he, fun i _ hi => decide_eq_false fun e => ?_⟩
  obtain ⟨P, Q, hq, hl⟩ := split_at (l := x.cols) (c := i) (by omega) []
  have hr : x.row c ∈ Q := by
    unfold Col.row
    rw [hq, List.getElem?_append_right (by omega), show c - P.length = (c - P.length - 1) + 1 by omega, List.getElem?_cons_succ]
    have hlt : c - P.length - 1 < Q.length := by
      have := congrArg List.length hq
      rw [List.length_append, List.length_cons] at this
      omega
    rw [List.getElem?_eq_getElem hlt]
    exact List.getElem_mem hlt
  have hn := upFrom_nodup (x.lens[s]?.getD 0) 0
  rw [← hg.2 s hs, hq, seqAt_append, seqAt_cons] at hn
  have h1 : t ∈ oneAt s (x.cols[i]?.getD []) := mem_oneAt.2 ⟨e, by omega⟩
  have h2 : t ∈ seqAt s Q := mem_seqAt.2 ⟨_, hr, he, by omega⟩
  have h3 := (List.nodup_append.1 (List.nodup_append.1 hn).2.1).2.2
  exact h3 t h1 t h2 rfl
theorem at_some {x : Col} {s c : Nat} {t : Int} (h : x.at_ s t = some c) : c < x.cols.length ∧ ent (x.row c) s = t := by
  obtain ⟨_, h1, h2, _⟩ := firstFrom_some.1 h
  exact ⟨h1, of_decide_eq_true h2⟩
theorem at_exists {x : Col} (hv : x.err = 0) {s : Nat} {t : Int} (hs : s < x.sigla.length) (h0 : 0 ≤ t) (h1 : t < ((x.tks s).length : Int)) : ∃ c, x.at_ s t = some c := by
  obtain ⟨hh, hg⟩ := err_iff.1 hv
  have hsl : s < x.lens.length := by rw [lens_len, hh.len]; exact hs
  have hm : t ∈ seqAt s x.cols := by
    rw [hg.2 s hsl, upFrom_mem, lens_get]; omega
  obtain ⟨r, hr, he, _⟩ := mem_seqAt.1 hm
  obtain ⟨c, hc, rfl⟩ := List.getElem_of_mem hr
  exact ⟨c, at_uniq hg hsl hc (by unfold Col.row; rw [List.getElem?_eq_getElem hc]; exact he) h0⟩

/-- How many columns there are behind an operation. -/
theorem cols_len {x : Col} {o : Op} {s c : Nat} (F : Fits x o s c) :
    (o.kind = 1 → (opAt x o s c).cols.length + 1 = x.cols.length) ∧ (o.kind = 2 → (opAt x o s c).cols.length = x.cols.length + 1) ∧
    (o.kind = 3 → (opAt x o s c).cols.length = x.cols.length ∨ (opAt x o s c).cols.length + 1 = x.cols.length) ∧ (o.kind = 4 → (opAt x o s c).cols = x.cols) := by
  refine ⟨fun k => ?_, fun k => ?_, fun k => ?_, fun k => ?_⟩
  · obtain ⟨P, Q, a, b, e, _, _, _, _, e2⟩ := form_join F k
    show (opCols x o s c).length + 1 = _
    rw [e2, e]; simp only [List.length_append, List.length_cons]; omega
  · obtain ⟨P, Q, a, e, _, _, _, e2⟩ := form_split F k
    show (opCols x o s c).length = _
    rw [e2, e]; simp only [List.length_append, List.length_cons]; omega
  · obtain ⟨P, Q, a, b, f, e, _, _, _, _, e2⟩ := form_shift F k
    show (opCols x o s c).length = _ ∨ (opCols x o s c).length + 1 = _
    rw [e2, e]
    by_cases q : alone a s = true
    · rw [if_pos q]; cases f <;> simp <;> omega
    · rw [if_neg q]; cases f <;> simp
  · show opCols x o s c = _; unfold opCols; rw [if_neg (by omega), if_neg (by omega), if_neg (by omega)]

/-- Column k of columns in parts. -/
theorem row_app {x : Col} {P Q : List (List Int)} (h : x.cols = P ++ Q) (k : Nat) : x.row k = if k < P.length then P[k]?.getD [] else Q[k - P.length]?.getD [] := by
  unfold Col.row
  rw [h]
  split
  · rename_i hk; rw [List.getElem?_append_left hk]
  · rename_i hk; rw [List.getElem?_append_right (by omega)]

/-- WHERE A TOKEN STANDS THAT IS NOT MOVED -/
theorem stays {x : Col} {o : Op} {s0 c0 : Nat} (F : Fits x o s0 c0) : ∃ (g : Nat → Nat) (P : Nat → Prop),
    (∀ (s : Nat) (t : Int) (c : Nat), s < x.sigla.length → 0 ≤ t → x.at_ s t = some c → ¬ (s = s0 ∧ t = o.tok) → P c ∧ (opAt x o s0 c0).at_ s t = some (g c)) ∧
    (∀ c d, P c → P d → c ≤ d → g c ≤ g d) ∧ (o.kind ≠ 1 → ∀ c d, P c → P d → c < d → g c < g d) := by
  have hgy : Good (opAt x o s0 c0).lens (opAt x o s0 c0).cols := by rw [lens_op]; exact good_op F
  have hll : (opAt x o s0 c0).lens.length = x.sigla.length := by rw [lens_op, lens_len, F.heads.len]
  have hks := F.ksl
  have hrl := F.row_len
  have key : ∀ (s : Nat) (t : Int) (d : Nat), s < x.sigla.length → 0 ≤ t → d < (opAt x o s0 c0).cols.length → ent ((opAt x o s0 c0).row d) s = t → (opAt x o s0 c0).at_ s t = some d :=
    fun s t d hs ht hd he => at_uniq hgy (by rw [hll]; exact hs) hd he ht
  by_cases k1 : o.kind = 1
  · obtain ⟨P, Q, a, b, e, hl, ea, eb, hcl, e2⟩ := form_join F k1
    have hcy : (opAt x o s0 c0).cols = P ++ joined a b :: Q := e2
    have hab : a.length = b.length := by
      have h1 := F.good.mem (c := a) (by rw [e]; simp)
      have h2 := F.good.mem (c := b) (by rw [e]; simp)
      omega
    refine ⟨fun c => if c ≤ c0 then c else c - 1, fun _ => True, fun s t c hs ht hc hu => ⟨trivial, ?_⟩, fun c d _ _ h => ?_, fun h => absurd k1 h⟩
    · obtain ⟨h1, h2⟩ := at_some hc
      have hsa : s < a.length := by rw [← ea, hrl, lens_len, F.heads.len]; exact hs
      rw [e] at h1
      simp only [List.length_append, List.length_cons] at h1
      (try dsimp only)
      apply key s t _ hs ht
      · rw [hcy]; simp only [List.length_append, List.length_cons]; split <;> omega
      · rw [row_app e, hl] at h2
        by_cases q1 : c < c0
        · rw [if_pos q1] at h2
          rw [show (if c ≤ c0 then c else c - 1) = c by split <;> omega, row_app hcy, hl, if_pos q1]; exact h2
        · rw [if_neg q1] at h2
          by_cases q2 : c = c0
          · subst q2
            rw [show (if c ≤ c then c else c - 1) = c by split <;> omega, row_app hcy, hl, if_neg q1]
            simp only [Nat.sub_self, List.getElem?_cons_zero, Option.getD_some] at h2 ⊢
            rw [joined_ent hsa]
            have := clash_iff.1 hcl s hsa
            omega
          · by_cases q3 : c = c0 + 1
            · subst q3
              rw [show (if c0 + 1 ≤ c0 then c0 + 1 else c0 + 1 - 1) = c0 by split <;> omega, row_app hcy, hl, if_neg (by omega)]
              simp only [Nat.sub_self, List.getElem?_cons_zero, Option.getD_some]
              rw [show c0 + 1 - c0 = 0 + 1 by omega] at h2
              simp only [List.getElem?_cons_succ, List.getElem?_cons_zero, Option.getD_some] at h2
              rw [joined_ent hsa]
              have := clash_iff.1 hcl s hsa
              omega
            · rw [show (if c ≤ c0 then c else c - 1) = c - 1 by split <;> omega, row_app hcy, hl, if_neg (by omega), show c - 1 - c0 = (c - c0 - 2) + 1 by omega, List.getElem?_cons_succ]
              rw [show c - c0 = (c - c0 - 2) + 1 + 1 by omega, List.getElem?_cons_succ, List.getElem?_cons_succ] at h2
              exact h2
    · simp only; split <;> split <;> omega
  · by_cases k2 : o.kind = 2
    · obtain ⟨P, Q, a, e, hl, ea, hal, e2⟩ := form_split F k2
      have hcy : (opAt x o s0 c0).cols = P ++ a.set s0 (-1) :: (List.replicate a.length (-1)).set s0 o.tok :: Q := e2
      have hs0 : s0 < a.length := by rw [← ea, hrl]; exact hks
      have hent : ent a s0 = o.tok := by rw [← ea]; exact F.ent
      refine ⟨fun c => if c ≤ c0 then c else c + 1, fun _ => True, fun s t c hs ht hc hu => ⟨trivial, ?_⟩, fun c d _ _ h => ?_, fun _ c d _ _ h => ?_⟩
      · obtain ⟨h1, h2⟩ := at_some hc
        rw [e] at h1
        simp only [List.length_append, List.length_cons] at h1
        (try dsimp only)
        apply key s t _ hs ht
        · rw [hcy]; simp only [List.length_append, List.length_cons]; split <;> omega
        · rw [row_app e, hl] at h2
          by_cases q1 : c < c0
          · rw [if_pos q1] at h2
            rw [show (if c ≤ c0 then c else c + 1) = c by split <;> omega, row_app hcy, hl, if_pos q1]; exact h2
          · rw [if_neg q1] at h2
            by_cases q2 : c = c0
            · subst q2
              rw [show (if c ≤ c then c else c + 1) = c by split <;> omega, row_app hcy, hl, if_neg q1]
              simp only [Nat.sub_self, List.getElem?_cons_zero, Option.getD_some] at h2 ⊢
              rw [ent_set hs0]
              by_cases q : s = s0
              · subst q; exact absurd ⟨rfl, by rw [← h2, hent]⟩ hu
              · rw [if_neg q]; exact h2
            · rw [show (if c ≤ c0 then c else c + 1) = c + 1 by split <;> omega, row_app hcy, hl, if_neg (by omega), show c + 1 - c0 = (c - c0 - 1) + 1 + 1 by omega, List.getElem?_cons_succ, List.getElem?_cons_succ]
              rw [show c - c0 = (c - c0 - 1) + 1 by omega, List.getElem?_cons_succ] at h2
              exact h2
      · simp only; split <;> split <;> omega
      · simp only; split <;> split <;> omega
    · by_cases k3 : o.kind = 3
      · obtain ⟨P, Q, a, b, f, e, hf, ea, eb, hb, e2⟩ := form_shift F k3
        have hs0 : s0 < a.length := by rw [← ea, hrl]; exact hks
        have hent : ent a s0 = o.tok := by rw [← ea]; exact F.ent
        have hbl : s0 < b.length := by
          have := F.good.mem (c := b) (by rw [e]; cases f <;> simp)
          omega
        -- an unmoved token's entry in the other column
        have hB : ∀ (s : Nat) (t : Int), 0 ≤ t → ent b s = t → ent (b.set s0 o.tok) s = t := by
          intro s t ht he
          rw [ent_set hbl]
          by_cases q : s = s0
          · subst q; omega
          · rw [if_neg q]; exact he
        have hA : ∀ (s : Nat) (t : Int), ¬ (s = s0 ∧ t = o.tok) → ent a s = t → s ≠ s0 ∧ ent (a.set s0 (-1)) s = t := by
          intro s t hu he
          have q : s ≠ s0 := fun q => hu ⟨q, by rw [← he, q, hent]⟩
          exact ⟨q, by rw [ent_set hs0, if_neg q]; exact he⟩
        have hal : alone a s0 = true → ∀ (s : Nat) (t : Int), s < x.sigla.length → 0 ≤ t → ¬ (s = s0 ∧ t = o.tok) → ent a s ≠ t := by
          intro h s t hs ht hu he
          have := alone_iff.1 h s (by rw [← ea, hrl, lens_len, F.heads.len]; exact hs) (hA s t hu he).1
          omega
        by_cases hal1 : alone a s0 = true
        · have hcy : (opAt x o s0 c0).cols = P ++ (b.set s0 o.tok :: Q) := by
            show opCols x o s0 c0 = _; rw [e2, if_pos hal1]; rfl
          refine ⟨fun c => if c < c0 then c else c - 1, fun c => c ≠ c0, fun s t c hs ht hc hu => ?_, fun c d _ _ h => ?_, fun _ c d hc hd h => ?_⟩
          · obtain ⟨h1, h2⟩ := at_some hc
            have hne : c ≠ c0 := by
              rintro rfl
              rw [ea] at h2
              exact hal hal1 s t hs ht hu h2
            refine ⟨hne, ?_⟩
            rw [e] at h1
            cases f with
            | true =>
              obtain ⟨hl, _⟩ := hf
              simp only [if_true] at e h1
              simp only [List.length_append, List.length_cons, List.length_nil] at h1
              (try dsimp only)
              apply key s t _ hs ht
              · rw [hcy]; simp only [List.length_append, List.length_cons]; split <;> omega
              · rw [row_app e, hl] at h2
                by_cases q1 : c < c0
                · rw [if_pos q1] at h2
                  rw [if_pos q1, row_app hcy, hl, if_pos q1]; exact h2
                · rw [if_neg q1] at h2
                  rw [if_neg q1, row_app hcy, hl, if_neg (by omega)]
                  by_cases q3 : c = c0 + 1
                  · subst q3
                    rw [show c0 + 1 - c0 = 0 + 1 by omega] at h2
                    rw [show c0 + 1 - 1 - c0 = 0 by omega]
                    exact hB s t ht h2
                  · rw [show c - 1 - c0 = (c - c0 - 2) + 1 by omega, List.getElem?_cons_succ]
                    rw [show c - c0 = (c - c0 - 2) + 1 + 1 by omega] at h2
                    exact h2
            | false =>
              simp only [Bool.false_eq_true, if_false] at e h1 hf
              obtain ⟨hl, _⟩ := hf
              simp only [List.length_append, List.length_cons, List.length_nil] at h1
              (try dsimp only)
              apply key s t _ hs ht
              · rw [hcy]; simp only [List.length_append, List.length_cons]; split <;> omega
              · rw [row_app e] at h2
                by_cases q1 : c < P.length
                · rw [if_pos q1] at h2
                  rw [if_pos (by omega), row_app hcy, if_pos q1]; exact h2
                · rw [if_neg q1] at h2
                  by_cases q3 : c = P.length
                  · subst q3
                    rw [if_pos (by omega), row_app hcy, if_neg q1, Nat.sub_self]
                    rw [Nat.sub_self] at h2
                    exact hB s t ht h2
                  · rw [if_neg (by omega), row_app hcy, if_neg (by omega), show c - 1 - P.length = (c - P.length - 2) + 1 by omega, List.getElem?_cons_succ]
                    rw [show c - P.length = (c - P.length - 2) + 1 + 1 by omega] at h2
                    exact h2
          · simp only; split <;> split <;> omega
          · simp only; split <;> split <;> omega
        · have hcy : (opAt x o s0 c0).cols = P ++ ((if f = true then [a.set s0 (-1), b.set s0 o.tok] else [b.set s0 o.tok, a.set s0 (-1)]) ++ Q) := by
            show opCols x o s0 c0 = _; rw [e2, if_neg hal1]
          refine ⟨fun c => c, fun _ => True, fun s t c hs ht hc hu => ⟨trivial, ?_⟩, fun c d _ _ h => h, fun _ c d hc hd h => h⟩
          obtain ⟨h1, h2⟩ := at_some hc
          rw [e] at h1
          (try dsimp only)
          apply key s t _ hs ht
          · rw [hcy]
            cases f <;> simp only [if_true, Bool.false_eq_true, if_false, List.length_append, List.length_cons, List.length_nil] at h1 ⊢ <;> omega
          · rw [row_app e] at h2
            rw [row_app hcy]
            by_cases q1 : c < P.length
            · rw [if_pos q1] at h2 ⊢; exact h2
            · rw [if_neg q1] at h2 ⊢
              by_cases q2 : c = P.length
              · subst q2
                rw [Nat.sub_self] at h2 ⊢
                cases f with
                | true => exact (hA s t hu h2).2
                | false => exact hB s t ht h2
              · by_cases q3 : c = P.length + 1
                · subst q3
                  rw [show P.length + 1 - P.length = 0 + 1 by omega] at h2 ⊢
                  cases f with
                  | true => exact hB s t ht h2
                  | false => exact (hA s t hu h2).2
                · rw [show c - P.length = (c - P.length - 2) + 1 + 1 by omega] at h2 ⊢
                  cases f with
                  | true => exact h2
                  | false => exact h2
      · have hcy : (opAt x o s0 c0).cols = x.cols := (cols_len F).2.2.2 (by have := F.kind; omega)
        refine ⟨fun c => c, fun _ => True, fun s t c hs ht hc hu => ⟨trivial, ?_⟩, fun c d _ _ h => h, fun _ c d hc hd h => h⟩
        obtain ⟨h1, h2⟩ := at_some hc
        exact key s t c hs ht (by rw [hcy]; exact h1) (by have : (opAt x o s0 c0).row c = x.row c := by unfold Col.row; rw [hcy]
                                                          rw [this]; exact h2)
end Go.Proofs.YtileoimcnhcfcaaDoor

/- Plain: a valid collation has no more columns than tokens; entries are bounded. No program. -/
namespace Go.Proofs.YtileoimcnhcfcaaDoor

def sumTo (f : Nat → Nat) : Nat → Nat
  | 0 => 0
  | n + 1 => sumTo f n + f n
theorem sumTo_add (f g : Nat → Nat) : ∀ n, sumTo (fun i => f i + g i) n = sumTo f n + sumTo g n
  | 0 => rfl
  | n + 1 => by simp only [sumTo]; rw [sumTo_add f g n]; omega
theorem sumTo_pos {f : Nat → Nat} : ∀ {n s : Nat}, s < n → 0 < f s → 0 < sumTo f n
  | n + 1, s, h, h0 => by
    simp only [sumTo]
    by_cases e : s = n
    · subst e; omega
    · have := sumTo_pos (f := f) (n := n) (s := s) (by omega) h0; omega
theorem sumTo_le {f : Nat → Nat} {m : Nat} : ∀ {n : Nat}, (∀ s, s < n → f s ≤ m) → sumTo f n ≤ n * m
  | 0, _ => by simp [sumTo]
  | n + 1, h => by
    simp only [sumTo]
    have h1 := sumTo_le (f := f) (m := m) (n := n) (fun s hs => h s (by omega))
    have h2 := h n (by omega)
    rw [Nat.add_mul, Nat.one_mul]; omega
theorem cols_le {n : Nat} : ∀ (cols : List (List Int)), (∀ c ∈ cols, ∃ s, s < n ∧ ent c s ≠ -1) → cols.length ≤ sumTo (fun s => (seqAt s cols).length) n
  | [], _ => Nat.zero_le _
  | c :: r, h => by
    have h1 := cols_le r (fun c hc => h c (List.mem_cons_of_mem _ hc))
    obtain ⟨s, hs, he⟩ := h c List.mem_cons_self
    have e : (fun s => (seqAt s (c :: r)).length) = fun s => (oneAt s c).length + (seqAt s r).length := by funext s; rw [seqAt_cons, List.length_append]
    rw [e, sumTo_add]
    have := sumTo_pos (f := fun s => (oneAt s c).length) hs (by show 0 < (oneAt s c).length; unfold oneAt; rw [if_neg he]; simp)
    rw [List.length_cons]; omega
theorem cols_bound {x : Col} (hv : x.err = 0) : x.cols.length ≤ 32768 := by
  obtain ⟨hh, hg⟩ := err_iff.1 hv
  have h1 := cols_le x.cols (fun c hc => (hg.1 c hc).2)
  have h2 : sumTo (fun s => (seqAt s x.cols).length) x.lens.length ≤ x.lens.length * 1024 := sumTo_le fun s hs => by
    rw [hg.2 s hs, upFrom_length, lens_get]
    exact (hh.toks _ (tks_mem (by rw [← lens_len]; exact hs))).1
  have h3 : x.lens.length ≤ 32 := by rw [lens_len, hh.len]; exact hh.most
  omega
theorem cols_small {x : Col} (hv : x.err = 0) {c : List Int} (hc : c ∈ x.cols) : c.length ≤ 32 ∧ 0 < c.length ∧ ∀ u ∈ c, -1 ≤ u ∧ u < 1024 := by
  obtain ⟨hh, hg⟩ := err_iff.1 hv
  have h3 : x.lens.length ≤ 32 := by rw [lens_len, hh.len]; exact hh.most
  have h4 : 0 < x.lens.length := by rw [lens_len, hh.len]; exact hh.pos
  have hl := hg.mem hc
  refine ⟨by omega, by omega, fun u hu => ?_⟩
  obtain ⟨i, hi, rfl⟩ := List.getElem_of_mem hu
  have e : c[i] = ent c i := by unfold ent; rw [List.getElem?_eq_getElem hi]; rfl
  rw [e]
  have h5 := (hh.toks _ (tks_mem (s := i) (by rw [← lens_len]; omega))).1
  rcases hg.ent hc (s := i) (by omega) with q | ⟨q1, q2⟩
  · omega
  · rw [lens_get] at q2; omega
end Go.Proofs.YtileoimcnhcfcaaDoor

/- A struct of three, or of four, cells is stored. -/
namespace Go.Proofs.YtileoimcnhcfcaaDoor
open Go.RowKit

theorem heap_set_at {W : World} {b j : Nat} {cs : Array Value} {t : TypeId} {fr : Nat × Nat} (h : W.heap[b]? = some (.cells cs t fr)) (v : Value) : (W.setCell ⟨b, j, none⟩ v).heap[b]? = some (.cells (cs.setIfInBounds j v) t fr) := by
  simp [World.setCell, Array.getElem?_modify, h]
abbrev put3 (W : World) (b : Nat) (d0 d1 d2 : Value) : World := ((W.setCell ⟨b, 0, none⟩ d0).setCell ⟨b, 1, none⟩ d1).setCell ⟨b, 2, none⟩ d2
theorem put3_at {W : World} {b : Nat} {c0 c1 c2 : Value} {t : TypeId} {fr : Nat × Nat} (h : W.heap[b]? = some (.cells #[c0, c1, c2] t fr)) (d0 d1 d2 : Value) : (put3 W b d0 d1 d2).heap[b]? = some (.cells #[d0, d1, d2] t fr) := by
  have h0 := heap_set_at (j := 0) h d0
  have h1 := heap_set_at (j := 1) h0 d1
  have h2 := heap_set_at (j := 2) h1 d2
  rw [h2]; rfl
theorem put3_below {n : Nat} {A W : World} (h : Below n A W) {b : Nat} (hb : n ≤ b) (d0 d1 d2 : Value) : Below n A (put3 W b d0 d1 d2) :=
  ((h.setCell (p := ⟨b, 0, none⟩) hb _).setCell (p := ⟨b, 1, none⟩) hb _).setCell (p := ⟨b, 2, none⟩) hb _
theorem box_cells3 {W : World} {b : Nat} {c0 c1 c2 : Value} {t : TypeId} (h : W.heap[b]? = some (.cells #[c0, c1, c2] t (0, 0))) :
    W.cell? ⟨b, 0, none⟩ = some c0 ∧ W.cell? ⟨b, 1, none⟩ = some c1 ∧ W.cell? ⟨b, 2, none⟩ = some c2 ∧ ∀ j, W.frozen? ⟨b, j, none⟩ = false :=
  ⟨by rw [Lib.cell_of_heap h]; rfl, by rw [Lib.cell_of_heap h]; rfl, by rw [Lib.cell_of_heap h]; rfl, fun j => Lib.frozen_of_heap h j⟩
abbrev put4 (W : World) (b : Nat) (d0 d1 d2 d3 : Value) : World := (((W.setCell ⟨b, 0, none⟩ d0).setCell ⟨b, 1, none⟩ d1).setCell ⟨b, 2, none⟩ d2).setCell ⟨b, 3, none⟩ d3
theorem put4_at {W : World} {b : Nat} {c0 c1 c2 c3 : Value} {t : TypeId} {fr : Nat × Nat} (h : W.heap[b]? = some (.cells #[c0, c1, c2, c3] t fr)) (d0 d1 d2 d3 : Value) : (put4 W b d0 d1 d2 d3).heap[b]? = some (.cells #[d0, d1, d2, d3] t fr) := by
  have h0 := heap_set_at (j := 0) h d0
  have h1 := heap_set_at (j := 1) h0 d1
  have h2 := heap_set_at (j := 2) h1 d2
  have h3 := heap_set_at (j := 3) h2 d3
  rw [h3]; rfl
theorem put4_other {W : World} {b b' : Nat} (hb : b' ≠ b) (d0 d1 d2 d3 : Value) : (put4 W b d0 d1 d2 d3).heap[b']? = W.heap[b']? := by
  have hh : ∀ (W : World) (j : Nat) (v : Value), (W.setCell ⟨b, j, none⟩ v).heap[b']? = W.heap[b']? := fun W j v => Below.heap_setCell _ _ _ _ (by simpa using hb)
  rw [hh, hh, hh, hh]
theorem put4_size (W : World) (b : Nat) (d0 d1 d2 d3 : Value) : (put4 W b d0 d1 d2 d3).heap.size = W.heap.size := by simp [World.setCell]
theorem put4_below {n : Nat} {A W : World} (h : Below n A W) {b : Nat} (hb : n ≤ b) (d0 d1 d2 d3 : Value) : Below n A (put4 W b d0 d1 d2 d3) :=
  (((h.setCell (p := ⟨b, 0, none⟩) hb _).setCell (p := ⟨b, 1, none⟩) hb _).setCell (p := ⟨b, 2, none⟩) hb _).setCell (p := ⟨b, 3, none⟩) hb _
theorem put4_keep {S : Nat → Prop} {W : World} {b : Nat} (hb : ¬ S b) (d0 d1 d2 d3 : Value) : KeepS S W (put4 W b d0 d1 d2 d3) :=
  (((KeepS.setCell W hb d0).trans (KeepS.setCell _ hb d1)).trans (KeepS.setCell _ hb d2)).trans (KeepS.setCell _ hb d3)
theorem box_cells4 {W : World} {b : Nat} {c0 c1 c2 c3 : Value} {t : TypeId} (h : W.heap[b]? = some (.cells #[c0, c1, c2, c3] t (0, 0))) :
    W.cell? ⟨b, 0, none⟩ = some c0 ∧ W.cell? ⟨b, 1, none⟩ = some c1 ∧ W.cell? ⟨b, 2, none⟩ = some c2 ∧ W.cell? ⟨b, 3, none⟩ = some c3 ∧ ∀ j, W.frozen? ⟨b, j, none⟩ = false :=
  ⟨by rw [Lib.cell_of_heap h]; rfl, by rw [Lib.cell_of_heap h]; rfl, by rw [Lib.cell_of_heap h]; rfl, by rw [Lib.cell_of_heap h]; rfl, fun j => Lib.frozen_of_heap h j⟩
end Go.Proofs.YtileoimcnhcfcaaDoor
