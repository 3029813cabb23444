/- Plain: what is wrong with a collation, and with an operation on it; what it makes of it. No program. -/
import Derived.Test.YtileoimcnhcfcaaDoorEDat
set_option linter.unusedVariables false
set_option linter.unusedSimpArgs false
namespace Go.Proofs.YtileoimcnhcfcaaDoor

/-- The first of the numbers from k on, below n, for which p holds. -/
def firstFrom (p : Nat → Bool) (n k : Nat) : Option Nat := if h : k < n then (if p k then some k else firstFrom p n (k + 1)) else none
  termination_by n - k
theorem firstFrom_yes {p : Nat → Bool} {n k : Nat} (h : k < n) (hp : p k = true) : firstFrom p n k = some k := by rw [firstFrom, dif_pos h, if_pos hp]
theorem firstFrom_no {p : Nat → Bool} {n k : Nat} (h : k < n) (hp : p k = false) : firstFrom p n k = firstFrom p n (k + 1) := by rw [firstFrom, dif_pos h, if_neg (by simp [hp])]
theorem firstFrom_end {p : Nat → Bool} {n k : Nat} (h : n ≤ k) : firstFrom p n k = none := by rw [firstFrom, dif_neg (by omega)]
theorem firstFrom_some {p : Nat → Bool} {n k j : Nat} : firstFrom p n k = some j ↔ (k ≤ j ∧ j < n ∧ p j = true ∧ ∀ i, k ≤ i → i < j → p i = false) := by
  induction hm : n - k generalizing k with
  | zero =>
    rw [firstFrom_end (by omega)]
    constructor
    · intro h; cases h
    · rintro ⟨h1, h2, _⟩; omega
  | succ m ih =>
    cases hp : p k with
    | true =>
      rw [firstFrom_yes (by omega) hp]
      constructor
      · intro h; cases h; exact ⟨Nat.le_refl _, by omega, hp, fun i h1 h2 => by omega⟩
      · rintro ⟨h1, h2, h3, h4⟩
        by_cases e : k = j
        · rw [e]
        · have := h4 k (Nat.le_refl _) (by omega); rw [hp] at this; cases this
    | false =>
      rw [firstFrom_no (by omega) hp, ih (by omega)]
      constructor
      · rintro ⟨h1, h2, h3, h4⟩
        refine ⟨by omega, h2, h3, fun i h5 h6 => ?_⟩
        by_cases e : i = k
        · rw [e]; exact hp
        · exact h4 i (by omega) h6
      · rintro ⟨h1, h2, h3, h4⟩
        refine ⟨?_, h2, h3, fun i h5 h6 => h4 i (by omega) h6⟩
        by_cases e : k = j
        · rw [e, h3] at hp; cases hp
        · omega
theorem firstFrom_none {p : Nat → Bool} {n k : Nat} : firstFrom p n k = none ↔ ∀ i, k ≤ i → i < n → p i = false := by
  constructor
  · intro h i h1 h2
    induction hm : i - k generalizing k with
    | zero =>
      obtain rfl : k = i := by omega
      cases hp : p k with
      | true => rw [firstFrom_yes h2 hp] at h; cases h
      | false => rfl
    | succ m ih =>
      cases hp : p k with
      | true => rw [firstFrom_yes (by omega) hp] at h; cases h
      | false => rw [firstFrom_no (by omega) hp] at h; exact ih h (by omega) (by omega)
  · intro h
    cases e : firstFrom p n k with
    | none => rfl
    | some j =>
      obtain ⟨h1, h2, h3, _⟩ := firstFrom_some.1 e
      rw [h j h1 h2] at h3; cases h3

def hasS (p : List ByteArray) (s : ByteArray) : Bool := p.any fun q => decide (q = s)
theorem hasS_iff {p : List ByteArray} {s : ByteArray} : hasS p s = true ↔ s ∈ p := by
  unfold hasS; rw [List.any_eq_true]
  exact ⟨fun ⟨q, h1, h2⟩ => by rw [← of_decide_eq_true h2]; exact h1, fun h => ⟨s, h, decide_eq_true rfl⟩⟩
/-- What is wrong with sigla, behind those before them. -/
def sigErr : List ByteArray → List ByteArray → Int
  | _, [] => 0
  | p, s :: r => if sigP s = false then 14 else if hasS p s = true then 7 else sigErr (p ++ [s]) r
/-- What is wrong with the tokens of the sources. -/
def toksErr : List (List Tok) → Int
  | [] => 0
  | l :: r => if 1024 < l.length then 4 else if l.any (fun t => decide (t.err ≠ 0)) = true then 1 else toksErr r
def headErr (x : Col) : Int :=
  if isNameP x.sec = false then 14 else if x.sigla.length = 0 then 5 else if 32 < x.sigla.length then 4
  else if sigErr [] x.sigla ≠ 0 then sigErr [] x.sigla else if x.toks.length ≠ x.sigla.length then 9 else toksErr x.toks
/-- The entry of a column for a source. -/
def ent (c : List Int) (s : Nat) : Int := c[s]?.getD 0
/-- The counters behind the first entries of a column, and whether there is a token among them. -/
def alRow (lens : List Nat) (c : List Int) (at' : List Int) : Nat → Option (List Int × Bool)
  | 0 => some (at', false)
  | k + 1 => (alRow lens c at' k).bind fun st => if ent c k = -1 then some st else if ent c k ≠ ent st.1 k ∨ ((lens[k]?.getD 0 : Nat) : Int) ≤ ent c k then none else some (st.1.set k (ent c k + 1), true)
def alAll (lens : List Nat) : List (List Int) → List Int → Option (List Int)
  | [], at' => some at'
  | c :: r, at' => if c.length ≠ lens.length then none else (alRow lens c at' lens.length).bind fun st => if st.2 = true then alAll lens r st.1 else none
def aligned (lens : List Nat) (cols : List (List Int)) : Bool := alAll lens cols (List.replicate lens.length 0) == some (lens.map Int.ofNat)
def Col.lens (x : Col) : List Nat := x.toks.map List.length
/-- Check of a collation. -/
def Col.err (x : Col) : Int := if headErr x ≠ 0 then headErr x else if aligned x.lens x.cols = true then 0 else 19
/-- The number of a siglum. -/
def Col.src (x : Col) (s : ByteArray) : Option Nat := firstFrom (fun i => decide (x.sigla[i]?.getD ⟨#[]⟩ = s)) x.sigla.length 0
/-- The row of a column. -/
def Col.row (x : Col) (c : Nat) : List Int := x.cols[c]?.getD []
def Col.tks (x : Col) (s : Nat) : List Tok := x.toks[s]?.getD []
/-- The column of a token. -/
def Col.at_ (x : Col) (s : Nat) (t : Int) : Option Nat := firstFrom (fun c => decide (ent (x.row c) s = t)) x.cols.length 0
instance : Inhabited Tok := ⟨⟨⟨#[]⟩, ⟨#[]⟩, ⟨#[]⟩, 0, 0, ⟨#[]⟩⟩⟩
def Col.tk (x : Col) (s : Nat) (t : Int) : Tok := (x.tks s)[t.toNat]?.getD default
/-- No other source has a token. -/
def alone (c : List Int) (s : Nat) : Bool := (List.range c.length).all fun i => decide (i = s) || decide (ent c i < 0)
/-- Two columns have tokens of one source. -/
def clash (a b : List Int) : Bool := (List.range a.length).any fun i => decide (0 ≤ ent a i) && decide (0 ≤ ent b i)
/-- Why an operation cannot be applied at its place. -/
def kindErr (x : Col) (o : Op) (s c : Nat) : Int :=
  if o.kind = 1 then (if x.cols.length ≤ c + 1 then 2 else if clash (x.row c) (x.row (c + 1)) = true then 19 else 0)
  else if o.kind = 2 then (if alone (x.row c) s = true then 19 else 0)
  else if o.kind = 3 then (if (o.other ≠ -1 ∧ o.other ≠ 1) ∨ (c : Int) + o.other < 0 ∨ (x.cols.length : Int) ≤ c + o.other then 2 else if 0 ≤ ent (x.row ((c : Int) + o.other).toNat) s then 19 else 0)
  else if Tok.err { x.tk s o.tok with norm := o.text } ≠ 0 then 11 else 0
/-- Where an operation is applied. -/
def Col.place (x : Col) (o : Op) : Option (Nat × Nat) :=
  (x.src o.sig).bind fun s => if o.tok < 0 ∨ ((x.tks s).length : Int) ≤ o.tok then none else (x.at_ s o.tok).map fun c => (s, c)
/-- Why an operation cannot be applied. -/
def opErr (x : Col) (o : Op) : Int :=
  if x.err ≠ 0 then 1 else if o.kind < 1 ∨ 4 < o.kind then 8
  else if (o.other ≠ 0 ∧ o.kind ≠ 3) ∨ (o.text.size ≠ 0 ∧ o.kind ≠ 4) then 1
  else match x.place o with
    | none => 6
    | some p => kindErr x o p.1 p.2
/-- The columns behind an operation. -/
def opCols (x : Col) (o : Op) (s c : Nat) : List (List Int) :=
  if o.kind = 1 then (x.cols.set c ((List.range (x.row c).length).map fun i => max (ent (x.row c) i) (ent (x.row (c + 1)) i))).eraseIdx (c + 1)
  else if o.kind = 2 then (x.cols.set c ((x.row c).set s (-1))).insertIdx (c + 1) ((List.replicate (x.row c).length (-1)).set s o.tok)
  else if o.kind = 3 then
    (if alone ((x.row c).set s (-1)) s = true then ((x.cols.set ((c : Int) + o.other).toNat ((x.row ((c : Int) + o.other).toNat).set s o.tok)).set c ((x.row c).set s (-1))).eraseIdx c
     else (x.cols.set ((c : Int) + o.other).toNat ((x.row ((c : Int) + o.other).toNat).set s o.tok)).set c ((x.row c).set s (-1)))
  else x.cols
def opToks (x : Col) (o : Op) (s : Nat) : List (List Tok) :=
  if o.kind = 4 then x.toks.set s ((x.tks s).set o.tok.toNat { x.tk s o.tok with norm := o.text }) else x.toks
/-- The collation behind an operation at its place. -/
def opAt (x : Col) (o : Op) (s c : Nat) : Col := { x with cols := opCols x o s c, toks := opToks x o s }
def Col.none : Col := ⟨⟨#[]⟩, [], [], []⟩
/-- The collation behind an operation; the empty one where it cannot be applied. -/
def opApply (x : Col) (o : Op) : Col :=
  if opErr x o = 0 then (match x.place o with | some p => opAt x o p.1 p.2 | none => Col.none) else Col.none
/-- The four operations at a token. -/
def four (s : ByteArray) (t : Nat) : List Op := [⟨1, s, t, 0, ⟨#[]⟩⟩, ⟨2, s, t, 0, ⟨#[]⟩⟩, ⟨3, s, t, -1, ⟨#[]⟩⟩, ⟨3, s, t, 1, ⟨#[]⟩⟩]
def opsAt (x : Col) (s : ByteArray) (t : Nat) : List Op := (four s t).filter fun o => decide (opErr x o = 0)
def opsOf (x : Col) (i : Nat) : List Op := (List.range (x.tks i).length).flatMap (opsAt x (x.sigla[i]?.getD ⟨#[]⟩))
/-- All operations. -/
def allOps (x : Col) : List Op := (List.range x.sigla.length).flatMap (opsOf x)
end Go.Proofs.YtileoimcnhcfcaaDoor

/- Plain: columns are aligned exactly if they have as many entries as there are sources, none is empty, and each source's tokens stand in them one after the other. No program. -/
namespace Go.Proofs.YtileoimcnhcfcaaDoor

/-- The token of a source in a column, if there is one. -/
def oneAt (s : Nat) (c : List Int) : List Int := if ent c s = -1 then [] else [ent c s]
/-- The tokens of a source in the columns. -/
def seqAt (s : Nat) (cols : List (List Int)) : List Int := cols.flatMap (oneAt s)
theorem seqAt_nil (s : Nat) : seqAt s [] = [] := rfl
theorem seqAt_cons (s : Nat) (c : List Int) (r : List (List Int)) : seqAt s (c :: r) = oneAt s c ++ seqAt s r := by simp [seqAt]
theorem seqAt_append (s : Nat) (a b : List (List Int)) : seqAt s (a ++ b) = seqAt s a ++ seqAt s b := by simp [seqAt]
/-- m numbers from a on. -/
def upFrom (a : Int) : Nat → List Int
  | 0 => []
  | m + 1 => a :: upFrom (a + 1) m
theorem upFrom_length : ∀ (m : Nat) (a : Int), (upFrom a m).length = m
  | 0, _ => rfl
  | m + 1, a => by rw [upFrom, List.length_cons, upFrom_length m]
theorem upFrom_mem : ∀ (m : Nat) (a x : Int), x ∈ upFrom a m ↔ a ≤ x ∧ x < a + m
  | 0, a, x => by
    simp only [upFrom, List.not_mem_nil, false_iff]; omega
  | m + 1, a, x => by rw [upFrom, List.mem_cons, upFrom_mem m]; omega
theorem upFrom_get : ∀ (m : Nat) (a : Int) (i : Nat), i < m → (upFrom a m)[i]? = some (a + i)
  | 0, _, i, h => by omega
  | m + 1, a, 0, _ => by simp [upFrom]
  | m + 1, a, i + 1, h => by
    rw [upFrom, List.getElem?_cons_succ, upFrom_get m _ i (by omega)]
    congr 1; omega
theorem ent_set {l : List Int} {k s : Nat} {v : Int} (hk : k < l.length) : ent (l.set k v) s = if s = k then v else ent l s := by
  unfold ent
  by_cases h : s = k
  · subst h; rw [if_pos rfl, List.getElem?_set_self hk]; rfl
  · rw [if_neg h, List.getElem?_set_ne (by omega)]
/-- A list by its length and entries. -/
theorem ent_ext {a b : List Int} (hl : a.length = b.length) (h : ∀ s, s < a.length → ent a s = ent b s) : a = b := by
  apply List.ext_getElem hl
  intro i h1 h2
  have := h i h1
  unfold ent at this
  rw [List.getElem?_eq_getElem h1, List.getElem?_eq_getElem h2] at this
  exact this

theorem alRow_fwd {lens : List Nat} {c at' : List Int} (ha : at'.length = lens.length) : ∀ (k : Nat) (a2 : List Int) (b : Bool), k ≤ lens.length → alRow lens c at' k = some (a2, b) →
    (∀ s, s < k → ent c s = -1 ∨ (ent c s = ent at' s ∧ ent c s < ((lens[s]?.getD 0 : Nat) : Int))) ∧ a2.length = lens.length ∧ (∀ s, ent a2 s = if s < k ∧ ent c s ≠ -1 then ent c s + 1 else ent at' s) ∧ (b = true ↔ ∃ s, s < k ∧ ent c s ≠ -1)
  | 0, a2, b, _, h => by
    rw [alRow] at h; cases h
    exact ⟨fun s hs => by omega, ha, fun s => by rw [if_neg (by omega)], by simp⟩
  | k + 1, a2, b, hk, h => by
    rw [alRow] at h
    obtain ⟨st, h1, h2⟩ := Option.bind_eq_some_iff.1 h
    obtain ⟨a1, b1⟩ := st
    obtain ⟨i1, i2, i3, i4⟩ := alRow_fwd ha k a1 b1 (by omega) h1
    by_cases e : ent c k = -1
    · rw [if_pos e] at h2; cases h2
      refine ⟨fun s hs => ?_, i2, fun s => ?_, ?_⟩
      · by_cases hs' : s = k
        · subst hs'; exact .inl e
        · exact i1 s (by omega)
      · rw [i3 s]
        by_cases hs' : s = k
        · subst hs'; rw [if_neg (by omega), if_neg (by simp [e])]
        · by_cases hc : s < k ∧ ent c s ≠ -1
          · rw [if_pos hc, if_pos ⟨by omega, hc.2⟩]
          · rw [if_neg hc, if_neg (by intro ⟨q1, q2⟩; exact hc ⟨by omega, q2⟩)]
      · rw [i4]
        constructor
        · rintro ⟨s, h1, h2⟩; exact ⟨s, by omega, h2⟩
        · rintro ⟨s, h1, h2⟩
          refine ⟨s, ?_, h2⟩
          by_cases hs' : s = k
          · subst hs'; exact absurd e h2
          · omega
    · rw [if_neg e] at h2
      split at h2
      · cases h2
      · rename_i hn
        cases h2
        have hak : ent a1 k = ent at' k := by rw [i3 k, if_neg (by omega)]
        have hn1 : ent c k = ent a1 k := by
          by_cases q : ent c k = ent a1 k
          · exact q
          · exact absurd (Or.inl q) hn
        have hn2 : ent c k < ((lens[k]?.getD 0 : Nat) : Int) := by
          by_cases q : ((lens[k]?.getD 0 : Nat) : Int) ≤ ent c k
          · exact absurd (Or.inr q) hn
          · omega
        refine ⟨fun s hs => ?_, by rw [List.length_set]; exact i2, fun s => ?_, ?_⟩
        · by_cases hs' : s = k
          · subst hs'; exact .inr ⟨by omega, hn2⟩
          · exact i1 s (by omega)
        · rw [ent_set (by have : a1.length = lens.length := i2; show k < a1.length; omega)]
          by_cases hs' : s = k
          · subst hs'; rw [if_pos rfl, if_pos ⟨by omega, e⟩]
          · rw [if_neg hs', i3 s]
            by_cases hc : s < k ∧ ent c s ≠ -1
            · rw [if_pos hc, if_pos ⟨by omega, hc.2⟩]
            · rw [if_neg hc, if_neg (by intro ⟨q1, q2⟩; exact hc ⟨by omega, q2⟩)]
        · simp only [true_iff]
          exact ⟨k, by omega, e⟩
theorem alRow_bwd {lens : List Nat} {c at' : List Int} (ha : at'.length = lens.length) : ∀ (k : Nat), k ≤ lens.length → (∀ s, s < k → ent c s = -1 ∨ (ent c s = ent at' s ∧ ent c s < ((lens[s]?.getD 0 : Nat) : Int))) → ∃ st, alRow lens c at' k = some st
  | 0, _, _ => ⟨_, rfl⟩
  | k + 1, hk, h => by
    obtain ⟨⟨a1, b1⟩, h1⟩ := alRow_bwd (c := c) ha k (by omega) (fun s hs => h s (by omega))
    obtain ⟨_, _, i3, _⟩ := alRow_fwd ha k a1 b1 (by omega) h1
    have hak : ent a1 k = ent at' k := by rw [i3 k, if_neg (by omega)]
    rw [alRow, h1]
    simp only [Option.bind_some]
    rcases h k (by omega) with e | ⟨e1, e2⟩
    · rw [if_pos e]; exact ⟨_, rfl⟩
    · by_cases e : ent c k = -1
      · rw [if_pos e]; exact ⟨_, rfl⟩
      · rw [if_neg e, if_neg (by rintro (q | q) <;> omega)]; exact ⟨_, rfl⟩

/-- What columns of sources of these lengths are like. -/
def Good (lens : List Nat) (cols : List (List Int)) : Prop :=
  (∀ c ∈ cols, c.length = lens.length ∧ ∃ s, s < lens.length ∧ ent c s ≠ -1) ∧ ∀ s, s < lens.length → seqAt s cols = upFrom 0 (lens[s]?.getD 0)

theorem alAll_fwd {lens : List Nat} : ∀ (cols : List (List Int)) (at' a2 : List Int), at'.length = lens.length → alAll lens cols at' = some a2 →
    (∀ c ∈ cols, c.length = lens.length ∧ ∃ s, s < lens.length ∧ ent c s ≠ -1) ∧ a2.length = lens.length ∧ ∀ s, s < lens.length → ∃ m : Nat, seqAt s cols = upFrom (ent at' s) m ∧ ent a2 s = ent at' s + m
  | [], at', a2, ha, h => by
    rw [alAll] at h; cases h
    exact ⟨by simp, ha, fun s _ => ⟨0, rfl, by simp⟩⟩
  | c :: r, at', a2, ha, h => by
    rw [alAll] at h
    split at h
    · cases h
    · rename_i hc
      obtain ⟨⟨a1, b⟩, h1, h2⟩ := Option.bind_eq_some_iff.1 h
      split at h2
      · rename_i hb
        obtain ⟨i1, i2, i3, i4⟩ := alRow_fwd ha _ _ _ (Nat.le_refl _) h1
        obtain ⟨j1, j2, j3⟩ := alAll_fwd r a1 a2 i2 h2
        refine ⟨fun q hq => ?_, j2, fun s hs => ?_⟩
        · rcases List.mem_cons.1 hq with rfl | hq
          · exact ⟨by omega, i4.1 hb⟩
          · exact j1 q hq
        · obtain ⟨m, m1, m2⟩ := j3 s hs
          have e3 := i3 s
          rw [seqAt_cons, m1]
          by_cases e : ent c s = -1
          · rw [if_neg (by simp [e])] at e3
            exact ⟨m, by rw [oneAt, if_pos e, e3]; rfl, by rw [m2, e3]⟩
          · rw [if_pos ⟨hs, e⟩] at e3
            have e4 : ent c s = ent at' s := by rcases i1 s hs with q | q; exact absurd q e; exact q.1
            refine ⟨m + 1, ?_, ?_⟩
            · rw [oneAt, if_neg e, upFrom, e3, e4]; rfl
            · rw [m2, e3, e4]; omega
      · cases h2
theorem alAll_bwd {lens : List Nat} : ∀ (cols : List (List Int)) (at' : List Int), at'.length = lens.length → (∀ s, s < lens.length → 0 ≤ ent at' s) →
    (∀ c ∈ cols, c.length = lens.length ∧ ∃ s, s < lens.length ∧ ent c s ≠ -1) → (∀ s, s < lens.length → ∃ m : Nat, seqAt s cols = upFrom (ent at' s) m ∧ (m = 0 ∨ ent at' s + m ≤ ((lens[s]?.getD 0 : Nat) : Int))) → ∃ a2, alAll lens cols at' = some a2
  | [], at', _, _, _, _ => ⟨at', rfl⟩
  | c :: r, at', ha, h0, h1, h2 => by
    obtain ⟨hc, s0, hs0, hs1⟩ := h1 c List.mem_cons_self
    have hrow : ∀ s, s < lens.length → ent c s = -1 ∨ (ent c s = ent at' s ∧ ent c s < ((lens[s]?.getD 0 : Nat) : Int)) := by
      intro s hs
      obtain ⟨m, m1, m2⟩ := h2 s hs
      by_cases e : ent c s = -1
      · exact .inl e
      · rw [seqAt_cons, oneAt, if_neg e] at m1
        cases m with
        | zero => simp [upFrom] at m1
        | succ m =>
          rw [upFrom] at m1
          have := (List.cons.inj m1).1
          exact .inr ⟨this, by omega⟩
    obtain ⟨⟨a1, b⟩, hst⟩ := alRow_bwd (c := c) ha _ (Nat.le_refl _) hrow
    obtain ⟨i1, i2, i3, i4⟩ := alRow_fwd ha _ _ _ (Nat.le_refl _) hst
    have hb : b = true := i4.2 ⟨s0, hs0, hs1⟩
    obtain ⟨a2, h3⟩ := alAll_bwd r a1 i2 (fun s hs => by
      rw [i3 s]
      have := h0 s hs
      split
      · rename_i q
        rcases hrow s hs with e | ⟨e, _⟩
        · exact absurd e q.2
        · omega
      · exact this) (fun q hq => h1 q (List.mem_cons_of_mem _ hq)) (fun s hs => by
      obtain ⟨m, m1, m2⟩ := h2 s hs
      rw [seqAt_cons] at m1
      rw [i3 s]
      by_cases e : ent c s = -1
      · rw [oneAt, if_pos e] at m1
        rw [if_neg (by simp [e])]
        exact ⟨m, m1, m2⟩
      · rw [oneAt, if_neg e] at m1
        rw [if_pos ⟨hs, e⟩]
        cases m with
        | zero => simp [upFrom] at m1
        | succ m =>
          rw [upFrom] at m1
          obtain ⟨q1, q2⟩ := List.cons.inj m1
          refine ⟨m, by rw [q1]; exact q2, ?_⟩
          omega)
    refine ⟨a2, ?_⟩
    rw [alAll, if_neg (by omega), hst]
    simp only [Option.bind_some, hb, if_true]
    exact h3
theorem ent_replicate (n s : Nat) : ent (List.replicate n 0) s = 0 := by
  unfold ent; rw [List.getElem?_replicate]; split <;> rfl
theorem ent_ofNat {lens : List Nat} {s : Nat} (h : s < lens.length) : ent (lens.map Int.ofNat) s = ((lens[s]?.getD 0 : Nat) : Int) := by
  unfold ent; rw [List.getElem?_map, List.getElem?_eq_getElem h]; rfl
/-- THE CHARACTERIZATION -/
theorem aligned_iff {lens : List Nat} {cols : List (List Int)} : aligned lens cols = true ↔ Good lens cols := by
  unfold aligned
  rw [beq_iff_eq]
  constructor
  · intro h
    obtain ⟨h1, h2, h3⟩ := alAll_fwd cols _ _ (by simp) h
    refine ⟨h1, fun s hs => ?_⟩
    obtain ⟨m, m1, m2⟩ := h3 s hs
    rw [ent_replicate] at m1 m2
    rw [ent_ofNat hs] at m2
    rw [m1]; congr 1; omega
  · rintro ⟨h1, h2⟩
    have h4 : ∀ s, s < lens.length → ∃ m : Nat, seqAt s cols = upFrom (ent (List.replicate lens.length 0) s) m ∧ (m = 0 ∨ ent (List.replicate lens.length 0) s + m ≤ ((lens[s]?.getD 0 : Nat) : Int)) :=
      fun s hs => ⟨_, by rw [ent_replicate]; exact h2 s hs, .inr (by rw [ent_replicate]; omega)⟩
    obtain ⟨a2, h3⟩ := alAll_bwd cols (List.replicate lens.length 0) (by simp) (fun s _ => by rw [ent_replicate]; omega) h1 h4
    rw [h3]
    obtain ⟨_, j2, j3⟩ := alAll_fwd cols _ _ (by simp) h3
    congr 1
    apply ent_ext (by simpa using j2)
    intro s hs
    rw [j2] at hs
    obtain ⟨m, m1, m2⟩ := j3 s hs
    rw [ent_replicate] at m1 m2
    rw [m2, ent_ofNat hs]
    have := congrArg List.length (m1.symm.trans (h2 s hs))
    rw [upFrom_length, upFrom_length] at this
    omega
end Go.Proofs.YtileoimcnhcfcaaDoor

/- Plain: what an operation makes of a valid collation is valid. No program. -/
namespace Go.Proofs.YtileoimcnhcfcaaDoor

theorem toksErr_iff : ∀ l : List (List Tok), toksErr l = 0 ↔ ∀ r ∈ l, r.length ≤ 1024 ∧ ∀ t ∈ r, t.err = 0
  | [] => by simp [toksErr]
  | r :: q => by
    rw [toksErr]
    by_cases h1 : 1024 < r.length
    · rw [if_pos h1]
      exact ⟨fun h => absurd h (by decide), fun h => absurd (h r List.mem_cons_self).1 (by omega)⟩
    · rw [if_neg h1]
      by_cases h2 : r.any (fun t => decide (t.err ≠ 0)) = true
      · rw [if_pos h2]
        refine ⟨fun h => absurd h (by decide), fun h => ?_⟩
        obtain ⟨t, ht, hd⟩ := List.any_eq_true.1 h2
        exact absurd ((h r List.mem_cons_self).2 t ht) (by simpa using hd)
      · rw [if_neg h2, toksErr_iff q]
        have h3 : ∀ t ∈ r, t.err = 0 := fun t ht => by
          by_cases e : t.err = 0
          · exact e
          · exact absurd (List.any_eq_true.2 ⟨t, ht, by simpa using e⟩) h2
        constructor
        · intro h a ha
          rcases List.mem_cons.1 ha with rfl | ha
          · exact ⟨by omega, h3⟩
          · exact h a ha
        · exact fun h a ha => h a (List.mem_cons_of_mem _ ha)
theorem sigErr_iff : ∀ (l p : List ByteArray), sigErr p l = 0 ↔ (∀ s ∈ l, sigP s = true) ∧ l.Nodup ∧ ∀ s ∈ l, s ∉ p
  | [], p => by simp [sigErr]
  | s :: r, p => by
    rw [sigErr]
    by_cases h1 : sigP s = false
    · rw [if_pos h1]
      exact ⟨fun h => absurd h (by decide), fun h => absurd (h.1 s List.mem_cons_self) (by simp [h1])⟩
    · rw [if_neg h1]
      by_cases h2 : s ∈ p
      · rw [if_pos (hasS_iff.2 h2)]
        exact ⟨fun h => absurd h (by decide), fun h => absurd h2 (h.2.2 s List.mem_cons_self)⟩
      · rw [if_neg (fun e => h2 (hasS_iff.1 e)), sigErr_iff r]
        have h1' : sigP s = true := by simpa using h1
        constructor
        · rintro ⟨a1, a2, a3⟩
          refine ⟨fun q hq => ?_, List.nodup_cons.2 ⟨fun hs => a3 s hs (by simp), a2⟩, fun q hq => ?_⟩
          · rcases List.mem_cons.1 hq with rfl | hq
            · exact h1'
            · exact a1 q hq
          · rcases List.mem_cons.1 hq with rfl | hq
            · exact h2
            · exact fun hp => a3 q hq (by simp [hp])
        · rintro ⟨a1, a2, a3⟩
          refine ⟨fun q hq => a1 q (List.mem_cons_of_mem _ hq), (List.nodup_cons.1 a2).2, fun q hq hp => ?_⟩
          rcases List.mem_append.1 hp with hp | hp
          · exact a3 q (List.mem_cons_of_mem _ hq) hp
          · obtain rfl : q = s := by simpa using hp
            exact (List.nodup_cons.1 a2).1 hq
structure Heads (x : Col) : Prop where
  sec : isNameP x.sec = true
  pos : 0 < x.sigla.length
  most : x.sigla.length ≤ 32
  sig : ∀ s ∈ x.sigla, sigP s = true
  nodup : x.sigla.Nodup
  len : x.toks.length = x.sigla.length
  toks : ∀ r ∈ x.toks, r.length ≤ 1024 ∧ ∀ t ∈ r, t.err = 0
theorem headErr_iff {x : Col} : headErr x = 0 ↔ Heads x := by
  unfold headErr
  constructor
  · intro h
    split at h
    · exact absurd h (by decide)
    · split at h
      · exact absurd h (by decide)
      · split at h
        · exact absurd h (by decide)
        · split at h
          · exact absurd h (by assumption)
          · split at h
            · exact absurd h (by decide)
            · rename_i h1 h2 h3 h4 h5
              have h4' : sigErr [] x.sigla = 0 := by
                by_cases e : sigErr [] x.sigla = 0
                · exact e
                · exact absurd e h4
              obtain ⟨a1, a2, _⟩ := (sigErr_iff _ _).1 h4'
              exact ⟨by simpa using h1, by omega, by omega, a1, a2, by omega, (toksErr_iff _).1 h⟩
  · intro h
    rw [if_neg (by simp [h.sec]), if_neg (by have := h.pos; omega), if_neg (by have := h.most; omega)]
    have : sigErr [] x.sigla = 0 := (sigErr_iff _ _).2 ⟨h.sig, h.nodup, by simp⟩
    rw [if_neg (by simp [this]), if_neg (by have := h.len; omega)]
    exact (toksErr_iff _).2 h.toks
theorem err_iff {x : Col} : x.err = 0 ↔ Heads x ∧ Good x.lens x.cols := by
  unfold Col.err
  by_cases h : headErr x = 0
  · rw [if_neg (by simp [h]), ← aligned_iff]
    split
    · exact ⟨fun _ => ⟨headErr_iff.1 h, by assumption⟩, fun _ => rfl⟩
    · exact ⟨fun e => absurd e (by decide), fun e => absurd e.2 (by assumption)⟩
  · rw [if_pos h]
    exact ⟨fun e => absurd e h, fun e => absurd (headErr_iff.2 e.1) h⟩

theorem lens_len (x : Col) : x.lens.length = x.toks.length := by simp [Col.lens]
theorem lens_get (x : Col) {s : Nat} : x.lens[s]?.getD 0 = (x.tks s).length := by
  unfold Col.lens Col.tks
  rw [List.getElem?_map]
  cases x.toks[s]? <;> rfl
/-- Entries are -1, or tokens. -/
theorem Good.ent {lens : List Nat} {cols : List (List Int)} (h : Good lens cols) {c : List Int} (hc : c ∈ cols) {s : Nat} (hs : s < lens.length) : ent c s = -1 ∨ (0 ≤ ent c s ∧ ent c s < ((lens[s]?.getD 0 : Nat) : Int)) := by
  by_cases e : Go.Proofs.YtileoimcnhcfcaaDoor.ent c s = -1
  · exact .inl e
  · right
    have : Go.Proofs.YtileoimcnhcfcaaDoor.ent c s ∈ seqAt s cols := List.mem_flatMap.2 ⟨c, hc, by rw [oneAt, if_neg e]; exact List.mem_cons_self⟩
    rw [h.2 s hs, upFrom_mem] at this
    omega
/-- Some columns between others are exchanged for others. -/
theorem Good.swap {lens : List Nat} {P M M' Q : List (List Int)} (h : Good lens (P ++ (M ++ Q))) (h1 : ∀ c ∈ M', c.length = lens.length ∧ ∃ s, s < lens.length ∧ Go.Proofs.YtileoimcnhcfcaaDoor.ent c s ≠ -1) (h2 : ∀ s, s < lens.length → seqAt s M' = seqAt s M) : Good lens (P ++ (M' ++ Q)) := by
  refine ⟨fun c hc => ?_, fun s hs => ?_⟩
  · rcases List.mem_append.1 hc with hc | hc
    · exact h.1 c (by simp [hc])
    · rcases List.mem_append.1 hc with hc | hc
      · exact h1 c hc
      · exact h.1 c (by simp [hc])
  · rw [← h.2 s hs]
    simp only [seqAt_append, h2 s hs]
theorem split_at {α : Type} {l : List α} {c : Nat} (h : c < l.length) (d : α) : ∃ P Q, l = P ++ (l[c]?.getD d :: Q) ∧ P.length = c := by
  refine ⟨l.take c, l.drop (c + 1), ?_, by rw [List.length_take]; omega⟩
  rw [List.getElem?_eq_getElem h]
  simp
theorem split_two {α : Type} {l : List α} {c : Nat} (h : c + 1 < l.length) (d : α) : ∃ P Q, l = P ++ (l[c]?.getD d :: l[c + 1]?.getD d :: Q) ∧ P.length = c := by
  refine ⟨l.take c, l.drop (c + 2), ?_, by rw [List.length_take]; omega⟩
  rw [List.getElem?_eq_getElem h, List.getElem?_eq_getElem (by omega : c < l.length)]
  simp
theorem set_mid {α : Type} (P Q : List α) (a b : α) : (P ++ a :: Q).set P.length b = P ++ b :: Q := by simp [List.set_append]
theorem erase_mid {α : Type} (P Q : List α) (a : α) : (P ++ a :: Q).eraseIdx P.length = P ++ Q := by simp [List.eraseIdx_append]
theorem insert_mid {α : Type} (a : α) (Q : List α) : ∀ P : List α, (P ++ Q).insertIdx P.length a = P ++ a :: Q
  | [] => by simp
  | p :: P => by
    rw [List.cons_append, List.length_cons, List.insertIdx_succ_cons, insert_mid a Q P]; rfl
/-- The joined column. -/
def joined (a b : List Int) : List Int := (List.range a.length).map fun i => max (ent a i) (ent b i)
theorem joined_len (a b : List Int) : (joined a b).length = a.length := by simp [joined]
theorem joined_ent {a b : List Int} {s : Nat} (h : s < a.length) : ent (joined a b) s = max (ent a s) (ent b s) := by
  unfold joined
  conv => lhs; unfold ent
  rw [List.getElem?_map, List.getElem?_range h]; rfl
theorem cols_join {P Q : List (List Int)} {a b m : List Int} : ((P ++ a :: b :: Q).set P.length m).eraseIdx (P.length + 1) = P ++ m :: Q := by
  rw [set_mid]
  have := erase_mid (P ++ [m]) Q b
  simpa using this
theorem cols_split {P Q : List (List Int)} {a a' b : List Int} : ((P ++ a :: Q).set P.length a').insertIdx (P.length + 1) b = P ++ a' :: b :: Q := by
  rw [set_mid]
  have := insert_mid b Q (P ++ [a'])
  simpa using this
theorem cols_right {P Q : List (List Int)} {a b a' b' : List Int} : ((P ++ a :: b :: Q).set (P.length + 1) b').set P.length a' = P ++ a' :: b' :: Q := by
  have := set_mid (P ++ [a]) Q b b'
  simp only [List.append_assoc, List.singleton_append, List.length_append, List.length_cons, List.length_nil, Nat.zero_add] at this
  rw [this, set_mid]
theorem cols_left {P Q : List (List Int)} {a b a' b' : List Int} : ((P ++ b :: a :: Q).set P.length b').set (P.length + 1) a' = P ++ b' :: a' :: Q := by
  rw [set_mid]
  simp
theorem alone_iff {c : List Int} {s : Nat} : alone c s = true ↔ ∀ i, i < c.length → i ≠ s → ent c i < 0 := by
  unfold alone
  rw [List.all_eq_true]
  simp only [List.mem_range, Bool.or_eq_true, decide_eq_true_eq]
  constructor
  · intro h i hi hn
    rcases h i hi with e | e
    · exact absurd e hn
    · exact e
  · intro h i hi
    by_cases e : i = s
    · exact .inl e
    · exact .inr (h i hi e)
theorem clash_iff {a b : List Int} : clash a b = false ↔ ∀ i, i < a.length → ¬ (0 ≤ ent a i ∧ 0 ≤ ent b i) := by
  unfold clash
  rw [List.any_eq_false]
  simp only [List.mem_range, Bool.and_eq_true, decide_eq_true_eq]
end Go.Proofs.YtileoimcnhcfcaaDoor

/- Plain: what an operation makes of a valid collation is valid (2). No program. -/
namespace Go.Proofs.YtileoimcnhcfcaaDoor

theorem two_seq (s : Nat) (a b : List Int) : seqAt s [a, b] = oneAt s a ++ oneAt s b := by simp [seqAt]
theorem one_seq (s : Nat) (a : List Int) : seqAt s [a] = oneAt s a := by simp [seqAt]
theorem Good.mem {lens : List Nat} {cols : List (List Int)} (h : Good lens cols) {c : List Int} (hc : c ∈ cols) : c.length = lens.length := (h.1 c hc).1
/-- JOIN -/
theorem good_join {lens : List Nat} {P Q : List (List Int)} {a b : List Int} (h : Good lens (P ++ a :: b :: Q)) (hc : clash a b = false) : Good lens (P ++ joined a b :: Q) := by
  have ha : a ∈ P ++ a :: b :: Q := by simp
  have hb : b ∈ P ++ a :: b :: Q := by simp
  have la := h.mem ha
  rw [clash_iff] at hc
  have h' : Good lens (P ++ ([a, b] ++ Q)) := by simpa using h
  have key := h'.swap (M' := [joined a b]) (fun c hcm => by
    obtain rfl : c = joined a b := by simpa using hcm
    refine ⟨by rw [joined_len, la], ?_⟩
    obtain ⟨s, hs, hn⟩ := (h.1 a ha).2
    refine ⟨s, hs, ?_⟩
    rw [joined_ent (by omega)]
    rcases h.ent ha hs with e | e
    · exact absurd e hn
    · omega) (fun s hs => by
    rw [one_seq, two_seq]
    have q := hc s (by omega)
    unfold oneAt
    rw [joined_ent (by omega)]
    rcases h.ent ha hs with e | e <;> rcases h.ent hb hs with f | f
    · rw [e, f]; simp
    · rw [e, show max (-1) (ent b s) = ent b s by omega]; simp
    · rw [f, show max (ent a s) (-1) = ent a s by omega]; simp
    · omega)
  simpa using key
theorem ent_set' {l : List Int} {k s : Nat} {v : Int} (hk : k < l.length) : ent (l.set k v) s = if s = k then v else ent l s := ent_set hk
theorem alone_set {lens : List Nat} {a : List Int} {s : Nat} (la : a.length = lens.length) (hs : s < lens.length) : alone (a.set s (-1)) s = alone a s := by
  rw [Bool.eq_iff_iff, alone_iff, alone_iff]
  simp only [List.length_set]
  constructor
  · intro h i hi hn
    have := h i hi hn
    rw [ent_set (by omega), if_neg hn] at this; exact this
  · intro h i hi hn
    rw [ent_set (by omega), if_neg hn]; exact h i hi hn
theorem row_left {lens : List Nat} {a : List Int} {s : Nat} (la : a.length = lens.length) (hs : s < lens.length) (h : alone a s = false) : ∃ i, i < lens.length ∧ ent (a.set s (-1)) i ≠ -1 := by
  have : ¬ ∀ i, i < a.length → i ≠ s → ent a i < 0 := fun h' => by rw [alone_iff.2 h'] at h; cases h
  by_cases q : ∃ i, i < a.length ∧ i ≠ s ∧ ¬ ent a i < 0
  · obtain ⟨i, h1, h2, h3⟩ := q
    exact ⟨i, by omega, by rw [ent_set (by omega), if_neg h2]; omega⟩
  · exact absurd (fun i h1 h2 => by
      by_cases h3 : ent a i < 0
      · exact h3
      · exact absurd ⟨i, h1, h2, h3⟩ q) this
/-- SPLIT -/
theorem good_split {lens : List Nat} {P Q : List (List Int)} {a : List Int} {s : Nat} (h : Good lens (P ++ a :: Q)) (hs : s < lens.length) (h0 : 0 ≤ ent a s) (hc : alone a s = false) :
    Good lens (P ++ a.set s (-1) :: (List.replicate a.length (-1)).set s (ent a s) :: Q) := by
  have ha : a ∈ P ++ a :: Q := by simp
  have la := h.mem ha
  have hr : ∀ i, i < lens.length → ent ((List.replicate a.length (-1)).set s (ent a s)) i = if i = s then ent a s else -1 := fun i hi => by
    rw [ent_set (by simpa using (by omega : s < a.length))]
    split
    · rfl
    · unfold ent; rw [List.getElem?_replicate, if_pos (by omega)]; rfl
  have h' : Good lens (P ++ ([a] ++ Q)) := by simpa using h
  have key := h'.swap (M' := [a.set s (-1), (List.replicate a.length (-1)).set s (ent a s)]) (fun c hcm => by
    rcases List.mem_cons.1 hcm with rfl | hcm
    · exact ⟨by rw [List.length_set, la], row_left la hs hc⟩
    · obtain rfl : c = _ := by simpa using hcm
      exact ⟨by simp [la], s, hs, by rw [hr s hs, if_pos rfl]; omega⟩) (fun i hi => by
    rw [one_seq, two_seq]
    unfold oneAt
    rw [hr i hi, ent_set (by omega)]
    by_cases e : i = s
    · subst e; simp
    · simp [e])
  simpa using key
/-- SHIFT: the two columns, in either order -/
theorem good_shift {lens : List Nat} {P Q : List (List Int)} {a b : List Int} {s : Nat} (f : Bool) (h : Good lens (P ++ ((if f = true then [a, b] else [b, a]) ++ Q))) (hs : s < lens.length) (h0 : 0 ≤ ent a s) (hb : ¬ 0 ≤ ent b s) :
    Good lens (P ++ ((if alone a s = true then [b.set s (ent a s)] else if f = true then [a.set s (-1), b.set s (ent a s)] else [b.set s (ent a s), a.set s (-1)]) ++ Q)) := by
  have ha : a ∈ P ++ ((if f = true then [a, b] else [b, a]) ++ Q) := by cases f <;> simp
  have hbm : b ∈ P ++ ((if f = true then [a, b] else [b, a]) ++ Q) := by cases f <;> simp
  have la := h.mem ha
  have lb := h.mem hbm
  have hb1 : ent b s = -1 := by rcases h.ent hbm hs with e | e; exact e; omega
  have eb : ∀ i, ent (b.set s (ent a s)) i = if i = s then ent a s else ent b i := fun i => ent_set (by omega)
  have ea : ∀ i, ent (a.set s (-1)) i = if i = s then -1 else ent a i := fun i => ent_set (by omega)
  have okb : (b.set s (ent a s)).length = lens.length ∧ ∃ i, i < lens.length ∧ ent (b.set s (ent a s)) i ≠ -1 := ⟨by rw [List.length_set, lb], s, hs, by rw [eb, if_pos rfl]; omega⟩
  refine h.swap (fun c hc => ?_) (fun i hi => ?_)
  · cases hal : alone a s with
    | true =>
      rw [hal] at hc
      obtain rfl : c = _ := by simpa using hc
      exact okb
    | false =>
      have oka : (a.set s (-1)).length = lens.length ∧ ∃ i, i < lens.length ∧ ent (a.set s (-1)) i ≠ -1 := ⟨by rw [List.length_set, la], row_left la hs hal⟩
      rw [hal] at hc
      cases f <;> simp at hc <;> rcases hc with rfl | rfl <;> first | exact oka | exact okb
  · cases hal : alone a s with
    | true =>
      have hA := alone_iff.1 hal
      simp only [if_true]
      rw [one_seq]
      have e1 : ∀ j, j < lens.length → j ≠ s → ent a j = -1 := fun j hj hn => by
        have := hA j (by omega) hn
        rcases h.ent ha hj with e | e
        · exact e
        · omega
      cases f <;> simp only [if_true, if_false, Bool.false_eq_true] <;> rw [two_seq] <;> unfold oneAt <;> rw [eb]
      all_goals
        by_cases e : i = s
        · subst e; rw [if_pos rfl, hb1, if_neg (by omega)]; simp
        · rw [if_neg e, e1 i hi e]; simp
    | false =>
      cases f <;> simp only [if_true, if_false, Bool.false_eq_true] <;> rw [two_seq, two_seq] <;> unfold oneAt <;> rw [eb, ea]
      all_goals
        by_cases e : i = s
        · subst e; rw [hb1]; simp
        · simp [e]
end Go.Proofs.YtileoimcnhcfcaaDoor

/- Plain: what an operation makes of a valid collation is valid (3). No program. -/
namespace Go.Proofs.YtileoimcnhcfcaaDoor

/-- What is known where an operation can be applied. -/
structure Fits (x : Col) (o : Op) (s c : Nat) : Prop where
  valid : x.err = 0
  place : x.place o = some (s, c)
  src : x.src o.sig = some s
  at_ : x.at_ s o.tok = some c
  kind : 1 ≤ o.kind ∧ o.kind ≤ 4
  other : o.other = 0 ∨ o.kind = 3
  text : o.text.size = 0 ∨ o.kind = 4
  ks : s < x.sigla.length
  sig : x.sigla[s]?.getD ⟨#[]⟩ = o.sig
  t0 : 0 ≤ o.tok
  t1 : o.tok < ((x.tks s).length : Int)
  kc : c < x.cols.length
  ent : ent (x.row c) s = o.tok
  err : kindErr x o s c = 0
theorem place_some {x : Col} {o : Op} {s c : Nat} : x.place o = some (s, c) ↔ x.src o.sig = some s ∧ 0 ≤ o.tok ∧ o.tok < ((x.tks s).length : Int) ∧ x.at_ s o.tok = some c := by
  unfold Col.place
  rw [Option.bind_eq_some_iff]
  constructor
  · rintro ⟨s', h1, h2⟩
    split at h2
    · cases h2
    · obtain ⟨c', h3, h4⟩ := Option.map_eq_some_iff.1 h2
      cases h4
      exact ⟨h1, by omega, by omega, h3⟩
  · rintro ⟨h1, h2, h3, h4⟩
    exact ⟨s, h1, by rw [if_neg (by omega), h4]; rfl⟩
theorem fits_of {x : Col} {o : Op} (h : opErr x o = 0) : ∃ s c, Fits x o s c := by
  unfold opErr at h
  split at h
  · exact absurd h (by decide)
  · rename_i hv
    split at h
    · exact absurd h (by decide)
    · rename_i hk
      split at h
      · exact absurd h (by decide)
      · rename_i ho
        split at h
        · exact absurd h (by decide)
        · rename_i p hp
          obtain ⟨s, c⟩ := p
          obtain ⟨h1, h2, h3, h4⟩ := place_some.1 hp
          obtain ⟨_, s1, s2, _⟩ := firstFrom_some.1 h1
          obtain ⟨_, c1, c2, _⟩ := firstFrom_some.1 h4
          exact ⟨s, c, by
            by_cases e : x.err = 0
            · exact e
            · exact absurd e hv, hp, h1, h4, by omega, by
            by_cases e : o.other = 0
            · exact .inl e
            · by_cases e2 : o.kind = 3
              · exact .inr e2
              · exact absurd (.inl ⟨e, e2⟩) ho, by
            by_cases e : o.text.size = 0
            · exact .inl e
            · by_cases e2 : o.kind = 4
              · exact .inr e2
              · exact absurd (.inr ⟨e, e2⟩) ho, s1, by simpa using s2, h2, h3, c1, by simpa using c2, h⟩
theorem Fits.zero {x : Col} {o : Op} {s c : Nat} (h : Fits x o s c) : opErr x o = 0 := by
  unfold opErr
  have := h.kind
  rw [if_neg (by simp [h.valid]), if_neg (by omega), if_neg (by rintro (⟨a, b⟩ | ⟨a, b⟩) <;> rcases h.other with e | e <;> rcases h.text with f | f <;> omega), h.place]
  exact h.err
theorem Fits.apply {x : Col} {o : Op} {s c : Nat} (h : Fits x o s c) : opApply x o = opAt x o s c := by
  unfold opApply; rw [if_pos h.zero, h.place]
theorem Fits.heads {x : Col} {o : Op} {s c : Nat} (h : Fits x o s c) : Heads x := (err_iff.1 h.valid).1
theorem Fits.good {x : Col} {o : Op} {s c : Nat} (h : Fits x o s c) : Good x.lens x.cols := (err_iff.1 h.valid).2
theorem Fits.ksl {x : Col} {o : Op} {s c : Nat} (h : Fits x o s c) : s < x.lens.length := by rw [lens_len, h.heads.len]; exact h.ks
theorem Fits.row_mem {x : Col} {o : Op} {s c : Nat} (h : Fits x o s c) : x.row c ∈ x.cols := by
  unfold Col.row; rw [List.getElem?_eq_getElem h.kc]; exact List.getElem_mem h.kc
theorem Fits.row_len {x : Col} {o : Op} {s c : Nat} (h : Fits x o s c) : (x.row c).length = x.lens.length := h.good.mem h.row_mem

/-- The columns behind each kind of operation, spelled out. -/
theorem form_join {x : Col} {o : Op} {s c : Nat} (h : Fits x o s c) (hk : o.kind = 1) : ∃ P Q a b, x.cols = P ++ a :: b :: Q ∧ P.length = c ∧ x.row c = a ∧ x.row (c + 1) = b ∧ clash a b = false ∧ opCols x o s c = P ++ joined a b :: Q := by
  have he := h.err
  unfold kindErr at he
  rw [if_pos hk] at he
  split at he
  · exact absurd he (by decide)
  · rename_i h1
    obtain ⟨P, Q, e, hl⟩ := split_two (l := x.cols) (c := c) (by omega) []
    refine ⟨P, Q, x.row c, x.row (c + 1), e, hl, rfl, rfl, ?_, ?_⟩
    · by_cases hc : clash (x.row c) (x.row (c + 1)) = true
      · rw [if_pos hc] at he; exact absurd he (by decide)
      · simpa using hc
    · unfold opCols
      rw [if_pos hk]
      have e' : x.cols = P ++ x.row c :: x.row (c + 1) :: Q := e
      have := cols_join (P := P) (Q := Q) (a := x.row c) (b := x.row (c + 1)) (m := joined (x.row c) (x.row (c + 1)))
      rw [← e', hl] at this
      exact this
theorem form_split {x : Col} {o : Op} {s c : Nat} (h : Fits x o s c) (hk : o.kind = 2) : ∃ P Q a, x.cols = P ++ a :: Q ∧ P.length = c ∧ x.row c = a ∧ alone a s = false ∧ opCols x o s c = P ++ a.set s (-1) :: (List.replicate a.length (-1)).set s o.tok :: Q := by
  have he := h.err
  unfold kindErr at he
  rw [if_neg (by omega), if_pos hk] at he
  obtain ⟨P, Q, e, hl⟩ := split_at (l := x.cols) (c := c) h.kc []
  refine ⟨P, Q, x.row c, e, hl, rfl, ?_, ?_⟩
  · by_cases hc : alone (x.row c) s = true
    · rw [if_pos hc] at he; exact absurd he (by decide)
    · simpa using hc
  · unfold opCols
    rw [if_neg (by omega), if_pos hk]
    have e' : x.cols = P ++ x.row c :: Q := e
    have := cols_split (P := P) (Q := Q) (a := x.row c) (a' := (x.row c).set s (-1)) (b := (List.replicate (x.row c).length (-1)).set s o.tok)
    rw [← e', hl] at this
    exact this
/-- The second column of a shift. -/
def other (o : Op) (c : Nat) : Nat := ((c : Int) + o.other).toNat
theorem form_shift {x : Col} {o : Op} {s c : Nat} (h : Fits x o s c) (hk : o.kind = 3) : ∃ P Q a b f, x.cols = P ++ ((if f = true then [a, b] else [b, a]) ++ Q) ∧ (if f = true then P.length = c ∧ o.other = 1 else P.length + 1 = c ∧ o.other = -1) ∧ x.row c = a ∧ x.row (other o c) = b ∧ ¬ 0 ≤ ent b s ∧
    opCols x o s c = P ++ ((if alone a s = true then [b.set s o.tok] else if f = true then [a.set s (-1), b.set s o.tok] else [b.set s o.tok, a.set s (-1)]) ++ Q) := by
  have he := h.err
  unfold kindErr at he
  rw [if_neg (by omega), if_neg (by omega), if_pos hk] at he
  split at he
  · exact absurd he (by decide)
  · rename_i h1
    have hb : ¬ 0 ≤ ent (x.row (other o c)) s := by
      intro q; unfold other at q; rw [if_pos q] at he; exact absurd he (by decide)
    have hO : opCols x o s c = (if alone ((x.row c).set s (-1)) s = true then ((x.cols.set (other o c) ((x.row (other o c)).set s o.tok)).set c ((x.row c).set s (-1))).eraseIdx c else (x.cols.set (other o c) ((x.row (other o c)).set s o.tok)).set c ((x.row c).set s (-1))) := by
      unfold opCols; rw [if_neg (by omega), if_neg (by omega), if_pos hk]; rfl
    rw [alone_set h.row_len h.ksl] at hO
    have ho : o.other = 1 ∨ o.other = -1 := by
      by_cases e : o.other = 1
      · exact .inl e
      · by_cases e2 : o.other = -1
        · exact .inr e2
        · exact absurd (.inl ⟨e2, e⟩) h1
    rcases ho with ho | ho
    · have hoc : other o c = c + 1 := by unfold other; omega
      rw [hoc] at hb hO
      obtain ⟨P, Q, e, hl⟩ := split_two (l := x.cols) (c := c) (by
        by_cases q : c + 1 < x.cols.length
        · exact q
        · exact absurd (.inr (.inr (by omega))) h1) []
      have e' : x.cols = P ++ x.row c :: x.row (c + 1) :: Q := e
      refine ⟨P, Q, x.row c, x.row (c + 1), true, by rw [if_pos rfl]; exact e', by rw [if_pos rfl]; exact ⟨hl, ho⟩, rfl, by rw [hoc], hb, ?_⟩
      have hr := cols_right (P := P) (Q := Q) (a := x.row c) (b := x.row (c + 1)) (a' := (x.row c).set s (-1)) (b' := (x.row (c + 1)).set s o.tok)
      rw [← e', hl] at hr
      rw [hO, hr]
      split
      · have := erase_mid P ((x.row (c + 1)).set s o.tok :: Q) ((x.row c).set s (-1))
        rw [hl] at this
        rw [this]; simp
      · simp
    · have h0 : 0 < c := by
        by_cases q : 0 < c
        · exact q
        · exact absurd (.inr (.inl (by omega))) h1
      have hoc : other o c = c - 1 := by unfold other; omega
      obtain ⟨P, Q, e, hl⟩ := split_two (l := x.cols) (c := c - 1) (by have := h.kc; omega) []
      have hc1 : c - 1 + 1 = c := by omega
      rw [hc1] at e
      rw [hoc] at hb hO
      have e' : x.cols = P ++ x.row (c - 1) :: x.row c :: Q := e
      refine ⟨P, Q, x.row c, x.row (c - 1), false, by simpa using e', by rw [if_neg (by simp)]; exact ⟨by omega, ho⟩, rfl, by rw [hoc], hb, ?_⟩
      have hr := cols_left (P := P) (Q := Q) (a := x.row c) (b := x.row (c - 1)) (a' := (x.row c).set s (-1)) (b' := (x.row (c - 1)).set s o.tok)
      rw [← e', hl, hc1] at hr
      rw [hO, hr]
      split
      · have := erase_mid (P ++ [(x.row (c - 1)).set s o.tok]) Q ((x.row c).set s (-1))
        rw [List.length_append, hl, show c - 1 + [(x.row (c - 1)).set s o.tok].length = c by simp; omega] at this
        simp only [List.append_assoc, List.singleton_append] at this
        rw [this]; simp
      · simp
theorem lens_op (x : Col) (o : Op) (s c : Nat) : (opAt x o s c).lens = x.lens := by
  unfold Col.lens opAt opToks
  simp only
  split
  · rw [List.map_set, List.length_set]
    apply List.ext_getElem?
    intro i
    by_cases e : i = s
    · subst e
      unfold Col.tks
      rw [List.getElem?_set]
      simp only [List.length_map, if_true]
      split
      · rename_i h; rw [List.getElem?_map, List.getElem?_eq_getElem h]; rfl
      · rename_i h; rw [List.getElem?_eq_none (by simpa using h)]
    · rw [List.getElem?_set_ne (by omega)]
  · rfl
theorem good_op {x : Col} {o : Op} {s c : Nat} (h : Fits x o s c) : Good x.lens (opCols x o s c) := by
  have hg := h.good
  have hs := h.ksl
  have he := h.ent
  have h0 := h.t0
  by_cases k1 : o.kind = 1
  · obtain ⟨P, Q, a, b, e, _, _, _, hc, e2⟩ := form_join h k1
    rw [e] at hg
    rw [e2]
    exact good_join hg hc
  · by_cases k2 : o.kind = 2
    · obtain ⟨P, Q, a, e, _, ea, hc, e2⟩ := form_split h k2
      rw [e] at hg
      rw [ea] at he
      rw [e2, ← he]
      exact good_split hg hs (by omega) hc
    · by_cases k3 : o.kind = 3
      · obtain ⟨P, Q, a, b, f, e, _, ea, _, hb, e2⟩ := form_shift h k3
        rw [e] at hg
        rw [ea] at he
        rw [e2, ← he]
        exact good_shift f hg hs (by omega) hb
      · unfold opCols
        rw [if_neg k1, if_neg k2, if_neg k3]
        exact hg
theorem tk_mem {x : Col} {s : Nat} {t : Int} (h0 : 0 ≤ t) (h1 : t < ((x.tks s).length : Int)) : x.tk s t ∈ x.tks s := by
  unfold Col.tk; rw [List.getElem?_eq_getElem (by omega)]; exact List.getElem_mem _
theorem tks_mem {x : Col} {s : Nat} (h : s < x.toks.length) : x.tks s ∈ x.toks := by
  unfold Col.tks; rw [List.getElem?_eq_getElem h]; exact List.getElem_mem _
/-- VALIDITY -/
theorem valid_op {x : Col} {o : Op} {s c : Nat} (h : Fits x o s c) : (opAt x o s c).err = 0 := by
  refine err_iff.2 ⟨?_, by rw [lens_op]; exact good_op h⟩
  have H := h.heads
  refine ⟨H.sec, H.pos, H.most, H.sig, H.nodup, ?_, ?_⟩
  · have := congrArg List.length (lens_op x o s c)
    rw [lens_len, lens_len] at this
    rw [this]; exact H.len
  · show ∀ r ∈ opToks x o s, _
    unfold opToks
    split
    · rename_i k4
      have he := h.err
      unfold kindErr at he
      rw [if_neg (by omega), if_neg (by omega), if_neg (by omega)] at he
      intro r hr
      rcases List.mem_or_eq_of_mem_set hr with hr | rfl
      · exact H.toks r hr
      · obtain ⟨q1, q2⟩ := H.toks _ (tks_mem (by rw [H.len]; exact h.ks) : x.tks s ∈ x.toks)
        refine ⟨by rw [List.length_set]; exact q1, fun t ht => ?_⟩
        rcases List.mem_or_eq_of_mem_set ht with ht | rfl
        · exact q2 t ht
        · by_cases e : Tok.err { x.tk s o.tok with norm := o.text } = 0
          · exact e
          · rw [if_pos e] at he; exact absurd he (by decide)
    · exact H.toks
end Go.Proofs.YtileoimcnhcfcaaDoor
