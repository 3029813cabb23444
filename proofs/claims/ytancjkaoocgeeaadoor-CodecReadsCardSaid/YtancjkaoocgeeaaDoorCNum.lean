/- Numerals: what Itoa writes Atoi reads; the number and the leaf at the head of a string. Plain. -/
import Derived.Test.YtancjkaoocgeeaaDoorCPure3
import Derived.Test.YtancjkaoocgeeaaDoorCEnv
namespace Go.Proofs.YtancjkaoocgeeaaDoor
open Go.RowKit

theorem parseUint10_snoc : ∀ (l : List UInt8) (acc a : Nat) (c : UInt8), Lib.parseUint10 acc l = .ok a → Lib.parseUint10 acc (l ++ [c]) = Lib.parseUint10 a [c]
  | [], acc, a, c, h => by simp only [Lib.parseUint10] at h; injection h with h; subst h; rfl
  | b :: l, acc, a, c, h => by
    rw [Lib.parseUint10] at h
    rw [List.cons_append, Lib.parseUint10]
    split
    · rename_i h1
      rw [if_pos h1] at h
      split
      · rename_i h2; rw [if_pos h2] at h; cases h
      · rename_i h2
        rw [if_neg h2] at h
        split
        · rename_i h3; rw [if_pos h3] at h; cases h
        · rename_i h3; rw [if_neg h3] at h; exact parseUint10_snoc l _ a c h
    · rename_i h1; rw [if_neg h1] at h; cases h
theorem digit_nat {d : Nat} (h : d < 10) : (UInt8.ofNat (48 + d)).toNat = 48 + d := by
  show (48 + d) % 256 = _; omega
theorem parse_dec (u : Nat) : u < 18446744073709551616 → Lib.parseUint10 0 (Lib.decDigits u) = .ok u := by
  induction u using Nat.strongRecOn with
  | _ u ih =>
    intro hu
    by_cases h : u < 10
    · rw [Lib.decDigits_one h, Lib.parseUint10, digit_nat h, if_pos (by omega), if_neg (by omega), if_neg (by omega), Lib.parseUint10]
      congr 1; omega
    · rw [Lib.decDigits, dif_neg h, parseUint10_snoc _ _ _ _ (ih (u / 10) (by omega) (by omega)), Lib.parseUint10, digit_nat (by omega), if_pos (by omega), if_neg (by omega), if_neg (by omega), Lib.parseUint10]
      congr 1; omega
theorem dec_digits (u : Nat) : ∀ c ∈ Lib.decDigits u, 48 ≤ c.toNat ∧ c.toNat ≤ 57 := by
  induction u using Nat.strongRecOn with
  | _ u ih =>
    intro c hc
    by_cases h : u < 10
    · rw [Lib.decDigits_one h] at hc
      obtain rfl := List.mem_singleton.1 hc; rw [digit_nat h]; omega
    · rw [Lib.decDigits, dif_neg h] at hc
      rcases List.mem_append.1 hc with hc | hc
      · exact ih (u / 10) (by omega) c hc
      · obtain rfl := List.mem_singleton.1 hc; rw [digit_nat (Nat.mod_lt _ (by omega))]; omega
theorem dec_ne (u : Nat) : Lib.decDigits u ≠ [] := fun h => by
  have := Lib.decDigits_length u
  rw [h] at this
  have := Lib.nDigits_pos u
  simp at *; omega
theorem atoi_itoa (n : Int) (h : I64 n) : Lib.atoiAll (Lib.itoa n) = .ok n := by
  have h1 := h.1
  have h2 := h.2
  unfold Lib.itoa
  split
  · rw [Lib.atoiAll_minus, Lib.parseMag, if_neg (dec_ne _), parse_dec _ (by omega), Lib.signed]
    rw [if_neg (by omega)]
    congr 1; omega
  · have hd := dec_digits n.toNat
    have hp := parse_dec n.toNat (by omega)
    have hn := dec_ne n.toNat
    generalize Lib.decDigits n.toNat = l at *
    cases l with
    | nil => exact absurd rfl hn
    | cons c r =>
      have := hd c (by simp)
      rw [Lib.atoiAll_plain c r (by omega) (by omega), Lib.parseMag, if_neg hn, hp, Lib.signless]
      rw [if_neg (by omega)]
      congr 1; omega
theorem atoiN_itoa (n : Int) (h : I64 n) : atoiN (Lib.itoa n) = n := by rw [atoiN, atoi_itoa n h]
theorem atoiOk_itoa (n : Int) (h : I64 n) : atoiOk (Lib.itoa n) = true := by rw [atoiOk, atoi_itoa n h]
theorem atoiN_i64 (l : List UInt8) : I64 (atoiN l) := by
  unfold atoiN
  rcases h : Lib.atoiAll l with v | _ | _
  · exact Lib.atoiAll_bounds h
  · exact I64.zero
  · simp only [Lib.atoiSat]
    split
    · exact ⟨by decide, by decide⟩
    · exact ⟨by decide, by decide⟩
/-- Where a numeral is its number's own, Atoi reads it. -/
theorem atoiOk_of {l : List UInt8} (h : Lib.itoa (atoiN l) = l) : atoiOk l = true := by
  rw [← h]; exact atoiOk_itoa _ (atoiN_i64 l)
theorem itoa_bytes (n : Int) : ∀ c ∈ Lib.itoa n, c = 45 ∨ (48 ≤ c.toNat ∧ c.toNat ≤ 57) := by
  intro c hc
  unfold Lib.itoa at hc
  split at hc
  · rcases List.mem_cons.1 hc with rfl | hc
    · exact .inl rfl
    · exact .inr (dec_digits _ c hc)
  · exact .inr (dec_digits _ c hc)
theorem itoa_inj {a b : Int} (ha : I64 a) (hb : I64 b) (h : Lib.itoa a = Lib.itoa b) : a = b := by rw [← atoiN_itoa a ha, ← atoiN_itoa b hb, h]

theorem indexByte_no : ∀ (l : List UInt8) (c : UInt8), c ∉ l → Lib.indexByte l c = -1
  | [], _, _ => rfl
  | b :: l, c, h => by
    have h1 : (b == c) = false := by
      simp only [beq_eq_false_iff_ne]; intro e; exact h (by simp [e])
    rw [Lib.indexByte, h1, indexByte_no l c (fun hm => h (List.mem_cons_of_mem _ hm))]
    rfl
theorem indexByte_at : ∀ (l r : List UInt8) (c : UInt8), c ∉ l → Lib.indexByte (l ++ c :: r) c = l.length
  | [], r, c, _ => by simp [Lib.indexByte]
  | b :: l, r, c, h => by
    have h1 : (b == c) = false := by
      simp only [beq_eq_false_iff_ne]; intro e; exact h (by simp [e])
    rw [List.cons_append, Lib.indexByte, h1, indexByte_at l r c (fun hm => h (List.mem_cons_of_mem _ hm))]
    have : ((l.length : Int) == -1) = false := by rw [beq_eq_false_iff_ne]; omega
    simp [this]
theorem indexByte_spec : ∀ (l : List UInt8) (c : UInt8), (Lib.indexByte l c = -1 ∧ c ∉ l) ∨ ∃ i : Nat, Lib.indexByte l c = i ∧ i < l.length ∧ l[i]? = some c ∧ c ∉ l.take i
  | [], c => .inl ⟨rfl, by simp⟩
  | b :: l, c => by
    by_cases h : b = c
    · subst h
      exact .inr ⟨0, by simp [Lib.indexByte], by simp, by simp, by simp⟩
    · have h1 : (b == c) = false := by simp [h]
      rw [Lib.indexByte, h1]
      rcases indexByte_spec l c with ⟨e, hn⟩ | ⟨i, e, hi, hl, hn⟩
      · refine .inl ⟨by rw [e]; rfl, ?_⟩
        simp only [List.mem_cons, not_or]; exact ⟨fun e => h e.symm, hn⟩
      · refine .inr ⟨i + 1, ?_, by simp; omega, by simpa using hl, ?_⟩
        · have : ((i : Int) == -1) = false := by rw [beq_eq_false_iff_ne]; omega
          rw [e, this]; simp
        · rw [List.take_succ_cons]; simp only [List.mem_cons, not_or]; exact ⟨fun e => h e.symm, hn⟩

/-- The number at the head of a string, up to a byte, and the rest. -/
def numP (e : UInt8) (s : List UInt8) : Option (Int × List UInt8) :=
  if Lib.indexByte (s.take 24) e < 0 then none
  else if Lib.itoa (atoiN (s.take (Lib.indexByte (s.take 24) e).toNat)) = s.take (Lib.indexByte (s.take 24) e).toNat then
    some (atoiN (s.take (Lib.indexByte (s.take 24) e).toNat), s.drop ((Lib.indexByte (s.take 24) e).toNat + 1)) else none
theorem numP_iff (e : UInt8) (he : e ≠ 45 ∧ (e.toNat < 48 ∨ 57 < e.toNat)) (s r : List UInt8) (n : Int) : numP e s = some (n, r) ↔ I64 n ∧ s = Lib.itoa n ++ e :: r := by
  have hno : ∀ m, e ∉ Lib.itoa m := fun m hm => by
    rcases itoa_bytes m e hm with h | h
    · exact he.1 h
    · omega
  constructor
  · intro h
    unfold numP at h
    split at h
    · cases h
    · rename_i h0
      rcases indexByte_spec (s.take 24) e with ⟨h1, _⟩ | ⟨i, h1, h2, h3, h4⟩
      · rw [h1] at h0; omega
      · rw [h1] at h
        simp only [Int.toNat_natCast] at h
        split at h
        · rename_i h5
          injection h with h
          injection h with hn hr
          subst hn
          refine ⟨atoiN_i64 _, ?_⟩
          rw [h5, ← hr]
          rw [List.length_take] at h2
          have hi : i < s.length := by omega
          have : s[i]? = some e := by rw [List.getElem?_take_of_lt (by omega)] at h3; exact h3
          have h6 : s.drop i = e :: s.drop (i + 1) := by
            rw [List.drop_eq_getElem_cons hi]
            rw [List.getElem?_eq_getElem hi] at this
            injection this with this
            rw [this]
          rw [← h6, List.take_append_drop]
        · cases h
  · rintro ⟨hn, rfl⟩
    have hl := Lib.itoa_length_le n hn.1 hn.2
    have h1 : Lib.indexByte ((Lib.itoa n ++ e :: r).take 24) e = (Lib.itoa n).length := by
      rw [List.take_append, List.take_of_length_le (by omega), show 24 - (Lib.itoa n).length = (23 - (Lib.itoa n).length) + 1 by omega, List.take_succ_cons]
      exact indexByte_at _ _ _ (hno n)
    unfold numP
    rw [h1, if_neg (by omega)]
    simp only [Int.toNat_natCast, List.take_left]
    rw [atoiN_itoa n hn, if_pos rfl]
    simp
/-- The integer or the text at the head of a string, and the rest. -/
def scalP (s : List UInt8) : Option (V × List UInt8) :=
  match s with
  | [] => none
  | c :: s =>
    if c = 105 then (numP 59 s).map fun p => (V.mk 1 p.1 ⟨#[]⟩ [], p.2)
    else if c = 115 then
      match numP 58 s with
      | none => none
      | some (n, r) => if n < 0 ∨ (r.length : Int) < n then none else some (V.mk 2 0 ⟨(r.take n.toNat).toArray⟩ [], r.drop n.toNat)
    else none
end Go.Proofs.YtancjkaoocgeeaaDoor
