/- Decoding, plain. -/
import Derived.Test.YtancjkaoocgeeaaDoorCNum
import Derived.Test.YtancjkaoocgeeaaDoorCEncR
namespace Go.Proofs.YtancjkaoocgeeaaDoor

/-- One item at the head of a string, onto the list on top. -/
def leafStep (top : List V) (below : List (List V)) (s : List UInt8) : Option (V × List UInt8) ⊕ (List V × List (List V) × List UInt8) :=
  match scalP s with
  | none => .inl none
  | some p => .inr (top ++ [p.1], below, p.2)
/-- One step of the reading; below: the lists below the top one, the innermost first. -/
def decStep (top : List V) (below : List (List V)) (s : List UInt8) : Option (V × List UInt8) ⊕ (List V × List (List V) × List UInt8) :=
  match below, top, s with
  | [], [x], s => .inl (some (x, s))
  | below, top, [] => leafStep top below []
  | below, top, c :: r =>
    if c = 108 then .inr ([], top :: below, r)
    else if c = 101 then
      match below with
      | [] => leafStep top [] (c :: r)
      | b :: bs => .inr (b ++ [.mk 3 0 ⟨#[]⟩ top], bs, r)
    else leafStep top below (c :: r)
def decS : Nat → List V → List (List V) → List UInt8 → Option (V × List UInt8)
  | 0, _, _, _ => none
  | f + 1, top, below, s =>
    match decStep top below s with
    | .inl x => x
    | .inr y => decS f y.1 y.2.1 y.2.2
theorem scalP_lt {s r : List UInt8} {v : V} (h : scalP s = some (v, r)) : r.length < s.length := by
  cases s with
  | nil => cases h
  | cons c s =>
    rw [scalP] at h
    split at h
    · cases hn : numP 59 s with
      | none => rw [hn] at h; cases h
      | some p =>
        rw [hn] at h
        obtain ⟨n, r'⟩ := p
        cases h
        obtain ⟨_, rfl⟩ := (numP_iff 59 (by decide) _ _ _).1 hn
        simp; omega
    · split at h
      · cases hn : numP 58 s with
        | none => rw [hn] at h; cases h
        | some p =>
          rw [hn] at h
          obtain ⟨n, r'⟩ := p
          simp only [] at h
          split at h
          · cases h
          · cases h
            obtain ⟨_, rfl⟩ := (numP_iff 58 (by decide) _ _ _).1 hn
            simp; omega
      · cases h
theorem leafStep_lt {top : List V} {below : List (List V)} {s : List UInt8} {y : List V × List (List V) × List UInt8} (h : leafStep top below s = .inr y) : y.2.2.length < s.length := by
  unfold leafStep at h
  cases hp : scalP s with
  | none => rw [hp] at h; cases h
  | some p => rw [hp] at h; cases h; exact scalP_lt hp
theorem decStep_lt {top : List V} {below : List (List V)} {s : List UInt8} {y : List V × List (List V) × List UInt8} (h : decStep top below s = .inr y) : y.2.2.length < s.length := by
  unfold decStep at h
  split at h
  · cases h
  · exact leafStep_lt h
  · split at h
    · cases h; simp
    · split at h
      · split at h
        · exact leafStep_lt h
        · cases h; simp
      · exact leafStep_lt h
theorem decS_more : ∀ (f : Nat) (top : List V) (below : List (List V)) (s : List UInt8), s.length < f → decS (f + 1) top below s = decS f top below s
  | 0, _, _, _, h => absurd h (Nat.not_lt_zero _)
  | f + 1, top, below, s, h => by
    rw [decS, decS]
    cases hs : decStep top below s with
    | inl x => rfl
    | inr y =>
      simp only []
      exact decS_more f _ _ _ (by have := decStep_lt hs; omega)
theorem decS_enough {f : Nat} {top : List V} {below : List (List V)} {s : List UInt8} (h : s.length < f) : decS f top below s = decS (s.length + 1) top below s := by
  induction f with
  | zero => omega
  | succ f ih =>
    rcases Nat.lt_or_ge s.length f with e | e
    · rw [decS_more f _ _ _ e, ih e]
    · rw [show f = s.length by omega]
/-- The reading, from a state. -/
def decR (top : List V) (below : List (List V)) (s : List UInt8) : Option (V × List UInt8) := decS (s.length + 1) top below s
theorem decR_step (top : List V) (below : List (List V)) (s : List UInt8) : decR top below s = match decStep top below s with | .inl x => x | .inr y => decR y.1 y.2.1 y.2.2 := by
  rw [decR, decS]
  cases hs : decStep top below s with
  | inl x => rfl
  | inr y =>
    simp only []
    exact decS_enough (decStep_lt hs)
def zeroV : V := .mk 0 0 ⟨#[]⟩ []
/-- What Decode answers. -/
def decode (s : List UInt8) : V × Int :=
  if 1048576 < s.length then (zeroV, 4)
  else match decR [] [] s with
    | none => (zeroV, 3)
    | some p => if p.2 = [] then (if chkV p.1 = 0 then (p.1, 0) else (zeroV, 4)) else (zeroV, 3)
end Go.Proofs.YtancjkaoocgeeaaDoor
