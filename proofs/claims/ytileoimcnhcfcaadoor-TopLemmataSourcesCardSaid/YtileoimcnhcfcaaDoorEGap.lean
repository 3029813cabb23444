/- What the library's variables hold; strconv.Itoa and Atoi in these words; numerals. -/
import Derived.Test.YtileoimcnhcfcaaDoorEDat
import Derived.Test.YtileoimcnhcfcaaDoorShelf
import Derived.Lib.AtoiErrMem
import Derived.Lib.AtoiAllCases
import Derived.Lib.ItoaLen
import Derived.Lib.LaidTab
import Derived.Test.YtileoimcnhcfcaaDoorERef02
set_option linter.unusedVariables false
set_option linter.unusedSimpArgs false
namespace Go.Proofs.YtileoimcnhcfcaaDoor
open Go.RowKit Go.Shelf Go.Sort

/-- The tables and the errors of the library are what they are. -/
structure Env (w : World) : Prop where
  tab : Lib.TabIs Tryd.prog w "internal/strconv.uint64pow10" .u64 Lib.pow10Tab
  syn : ∃ tp p, w.var? Tryd.prog "strconv.ErrSyntax" = some #[.iface tp p]
  rng : ∃ tp p, w.var? Tryd.prog "strconv.ErrRange" = some #[.iface tp p]
theorem var_below {P : Program} {w w' : World} (hb : Below w.heap.size w w') {name : String} {x : Array Value} (h : w.var? P name = some x) : w'.var? P name = some x := by
  unfold World.var? at h ⊢
  cases hg : P.globalNamed name with
  | none => rw [hg] at h; cases h
  | some g =>
    rw [hg] at h
    simp only [Option.bind_some] at h ⊢
    cases ho : w.heap[g]? with
    | none => rw [ho] at h; cases h
    | some o => rw [hb.block g (Array.getElem?_eq_some_iff.1 ho).1, ho]; rw [ho] at h; exact h
theorem Env.below {w w' : World} (h : Env w) (hb : Below w.heap.size w w') : Env w' := by
  obtain ⟨h1, ⟨t, p, h2⟩, ⟨t', p', h3⟩⟩ := h
  exact ⟨var_below hb h1, ⟨t, p, var_below hb h2⟩, ⟨t', p', var_below hb h3⟩⟩
theorem below_grow {n : Nat} {A : World} : ∀ (l : List Obj) (W : World), Below n A W → n ≤ W.heap.size → Below n A (grow W ⟨l⟩)
  | [], W, h, _ => by simpa using h
  | o :: l, W, h, hn => by
    have := below_grow l (W.alloc o) (h.alloc hn o) (by simp; omega)
    rw [alloc_eq_grow, grow_grow] at this
    simpa using this
theorem itoa_any (n : Int) (hn : I64 n) (w : World) (hE : Env w) : Calls Tryd.prog 28 #[.int .i64 n] w fun e w' => e = .returned (.string ⟨(Lib.itoa n).toArray⟩) ∧ Below w.heap.size w w' := by
  refine (Tryd.strconv_Itoa n hn.1 hn.2 w hE.tab).mono ?_
  rintro e w' ⟨rfl, k, os, rfl⟩
  exact ⟨rfl, below_grow os.toList _ (below_drewN (Below.refl _ _) k) (Nat.le_refl _)⟩
/-- What Atoi answers: the number, and whether there is an error. -/
def atoiN (l : List UInt8) : Int := match Lib.atoiAll l with | .ok v => v | .range => Lib.atoiSat l | _ => 0
def atoiOk (l : List UInt8) : Bool := match Lib.atoiAll l with | .ok _ => true | _ => false
theorem atoi_any (s : ByteArray) (hs : s.size ≤ 281474976710656) (w : World) (hE : Env w) : Calls Tryd.prog 54 #[.string s] w fun e w' => ∃ err : Value, e = .returned (.tuple #[.int .i64 (atoiN s.data.toList), err]) ∧
    ((atoiOk s.data.toList = true ∧ err = .nilIface) ∨ (atoiOk s.data.toList = false ∧ ∃ p, err = .iface 108 p)) ∧ Below w.heap.size w w' := by
  have hbw : ∀ w', (w' = w ∨ ∃ t, w' = Lib.bytesWorld w 5 t) → Below w.heap.size w w' := by
    rintro w' (rfl | ⟨t, rfl⟩)
    · exact Below.refl _ _
    · exact Lib.bytesWorld_below w _ t
  unfold atoiN atoiOk
  rcases h : Lib.atoiAll s.data.toList with v | _ | _
  · skip
    refine (Tryd.strconv_Atoi_ok s (by omega) v h w).mono ?_
    rintro e w' ⟨rfl, hw⟩
    exact ⟨_, rfl, .inl ⟨rfl, rfl⟩, hbw w' hw⟩
  · skip
    obtain ⟨tp, p, hv⟩ := hE.syn
    refine (Tryd.strconv_Atoi_syntax_var s hs h tp p w hv).mono ?_
    rintro e w' ⟨N, rfl, _, _, hb⟩
    exact ⟨_, rfl, .inr ⟨rfl, _, rfl⟩, hb⟩
  · skip
    obtain ⟨tp, p, hv⟩ := hE.rng
    refine (Tryd.strconv_Atoi_range_var s hs h tp p w hv).mono ?_
    rintro e w' ⟨N, rfl, _, _, hb⟩
    exact ⟨_, rfl, .inr ⟨rfl, _, rfl⟩, hb⟩

theorem parseUint10_snoc : ∀ (l : List UInt8) (acc a : Nat) (c : UInt8), Lib.parseUint10 acc l = .ok a → Lib.parseUint10 acc (l ++ [c]) = Lib.parseUint10 a [c]
  | [], acc, a, c, h => by simp only [Lib.parseUint10] at h; injection h with h; subst h; rfl
  | b :: l, acc, a, c, h => by
    rw [Lib.parseUint10] at h
    rw [List.cons_append, Lib.parseUint10]
    split
    · rename_i h1
      rw [if_pos h1] at h
      split
      · rename_i h2; rw [if_pos h2] at h; cases h
      · rename_i h2
        rw [if_neg h2] at h
        split
        · rename_i h3; rw [if_pos h3] at h; cases h
        · rename_i h3; rw [if_neg h3] at h; exact parseUint10_snoc l _ a c h
    · rename_i h1; rw [if_neg h1] at h; cases h
theorem digit_nat {d : Nat} (h : d < 10) : (UInt8.ofNat (48 + d)).toNat = 48 + d := by
  show (48 + d) % 256 = _; omega
theorem parse_dec (u : Nat) : u < 18446744073709551616 → Lib.parseUint10 0 (Lib.decDigits u) = .ok u := by
  induction u using Nat.strongRecOn with
  | _ u ih =>
    intro hu
    by_cases h : u < 10
    · rw [Lib.decDigits_one h, Lib.parseUint10, digit_nat h, if_pos (by omega), if_neg (by omega), if_neg (by omega), Lib.parseUint10]
      congr 1; omega
    · rw [Lib.decDigits, dif_neg h, parseUint10_snoc _ _ _ _ (ih (u / 10) (by omega) (by omega)), Lib.parseUint10, digit_nat (by omega), if_pos (by omega), if_neg (by omega), if_neg (by omega), Lib.parseUint10]
      congr 1; omega
theorem dec_digits (u : Nat) : ∀ c ∈ Lib.decDigits u, 48 ≤ c.toNat ∧ c.toNat ≤ 57 := by
  induction u using Nat.strongRecOn with
  | _ u ih =>
    intro c hc
    by_cases h : u < 10
    · rw [Lib.decDigits_one h] at hc
      obtain rfl := List.mem_singleton.1 hc; rw [digit_nat h]; omega
    · rw [Lib.decDigits, dif_neg h] at hc
      rcases List.mem_append.1 hc with hc | hc
      · exact ih (u / 10) (by omega) c hc
      · obtain rfl := List.mem_singleton.1 hc; rw [digit_nat (Nat.mod_lt _ (by omega))]; omega
theorem dec_ne (u : Nat) : Lib.decDigits u ≠ [] := fun h => by
  have := Lib.decDigits_length u
  rw [h] at this
  have := Lib.nDigits_pos u
  simp at *; omega
theorem atoi_itoa (n : Int) (h : I64 n) : Lib.atoiAll (Lib.itoa n) = .ok n := by
  have h1 := h.1
  have h2 := h.2
  unfold Lib.itoa
  split
  · rw [Lib.atoiAll_minus, Lib.parseMag, if_neg (dec_ne _), parse_dec _ (by omega), Lib.signed]
    rw [if_neg (by omega)]
    congr 1; omega
  · have hd := dec_digits n.toNat
    have hp := parse_dec n.toNat (by omega)
    have hn := dec_ne n.toNat
    generalize Lib.decDigits n.toNat = l at *
    cases l with
    | nil => exact absurd rfl hn
    | cons c r =>
      have := hd c (by simp)
      rw [Lib.atoiAll_plain c r (by omega) (by omega), Lib.parseMag, if_neg hn, hp, Lib.signless]
      rw [if_neg (by omega)]
      congr 1; omega
theorem atoiN_itoa (n : Int) (h : I64 n) : atoiN (Lib.itoa n) = n := by rw [atoiN, atoi_itoa n h]
theorem atoiOk_itoa (n : Int) (h : I64 n) : atoiOk (Lib.itoa n) = true := by rw [atoiOk, atoi_itoa n h]
theorem atoiN_i64 (l : List UInt8) : I64 (atoiN l) := by
  unfold atoiN
  rcases h : Lib.atoiAll l with v | _ | _
  · exact Lib.atoiAll_bounds h
  · exact I64.zero
  · simp only [Lib.atoiSat]
    split
    · exact ⟨by decide, by decide⟩
    · exact ⟨by decide, by decide⟩
/-- Where a numeral is its number's own, Atoi reads it. -/
theorem atoiOk_of {l : List UInt8} (h : Lib.itoa (atoiN l) = l) : atoiOk l = true := by
  rw [← h]; exact atoiOk_itoa _ (atoiN_i64 l)
theorem itoa_bytes (n : Int) : ∀ c ∈ Lib.itoa n, c = 45 ∨ (48 ≤ c.toNat ∧ c.toNat ≤ 57) := by
  intro c hc
  unfold Lib.itoa at hc
  split at hc
  · rcases List.mem_cons.1 hc with rfl | hc
    · exact .inl rfl
    · exact .inr (dec_digits _ c hc)
  · exact .inr (dec_digits _ c hc)
theorem itoa_inj {a b : Int} (ha : I64 a) (hb : I64 b) (h : Lib.itoa a = Lib.itoa b) : a = b := by rw [← atoiN_itoa a ha, ← atoiN_itoa b hb, h]
end Go.Proofs.YtileoimcnhcfcaaDoor

/- Names of the reference, sigla and gaps of both sides. -/
namespace Go.Proofs.YtileoimcnhcfcaaDoor
open Go.RowKit

theorem ext_list (s : ByteArray) (a b : Nat) : (s.extract a b).data.toList = (s.data.toList.drop a).take (b - a) := by
  have := Lib.extract_toList s a b
  rw [ByteArray.toList_eq] at this
  exact this
theorem ba_ext {s t : ByteArray} (h : s.data.toList = t.data.toList) : s = t := by
  cases s; cases t; congr 1; exact Array.toList_inj.1 h
theorem last_at {s : ByteArray} (h : s.size - 1 < s.size) : s.data.toList.getLast? = some s[s.size - 1] := by
  have e : s.data.toList.length = s.size := Array.length_toList
  rw [List.getLast?_eq_getElem?, e]
  rw [List.getElem?_eq_getElem (by omega)]; rfl
theorem suffix_star (l : List UInt8) : Lib.hasSuffix l [42] = decide (l.getLast? = some 42) := by
  unfold Lib.hasSuffix
  rw [Bool.eq_iff_iff, List.isSuffixOf_iff_suffix, decide_eq_true_eq]
  constructor
  · rintro ⟨r, rfl⟩; simp
  · intro h
    obtain ⟨r, hr⟩ := List.getLast?_eq_some_iff.1 h
    exact ⟨r, hr.symm⟩
theorem siglum_any (s : ByteArray) (w : World) (hs : s.size ≤ 1000000) : Calls Tryd.prog 21 #[.string s] w fun e w' => e = .returned (.bool (sigP s)) ∧ w = w' := by
  have hF := Tryd.strings_CutSuffix s ⟨#[42]⟩ w (by omega)
  have h42 : (⟨#[42]⟩ : ByteArray).data.toList = [42] := rfl
  rw [h42] at hF
  have hsx := suffix_star s.data.toList
  by_cases hl : s.data.toList.getLast? = some 42
  · have e1 : Lib.hasSuffix s.data.toList [42] = true := by rw [hsx]; simpa using hl
    have e2 : (⟨(Lib.trimSuffix s.data.toList [42]).toArray⟩ : ByteArray) = s.extract 0 (s.size - 1) := by
      apply ba_ext
      rw [ext_list, Lib.trimSuffix, if_pos e1]
      simp
    rw [e1, e2] at hF
    have HF := Lib.hid hF
    have HG := Lib.hid (isName_any (s.extract 0 (s.size - 1)) w)
    have HR : Hid (sigP s = (decide (s.size ≤ 16) && isNameP (s.extract 0 (s.size - 1)))) := by show _ = _; unfold sigP; rw [if_pos hl]
    generalize isNameP (s.extract 0 (s.size - 1)) = Q at *
    generalize s.extract 0 (s.size - 1) = u at *
    clear hF hsx hl h42 e1 e2
    cases Q with
    | false =>
      go_enter Tryd.func21, Tryd.ntmps21
      go_wp2_with (first | (go_at_call 34; refine HF.out.mono ?_; rintro e w' ⟨rfl, rfl⟩) | (go_at_call 20; refine HG.out.mono ?_; rintro e w' ⟨rfl, rfl⟩))
      go_ret
      exact ⟨ret_bool (by rw [HR.out]; simp), rfl⟩
    | true =>
      go_enter Tryd.func21, Tryd.ntmps21
      go_wp2_with (first | (go_at_call 34; refine HF.out.mono ?_; rintro e w' ⟨rfl, rfl⟩) | (go_at_call 20; refine HG.out.mono ?_; rintro e w' ⟨rfl, rfl⟩))
      all_goals
        go_ret
        exact ⟨ret_bool (by rw [HR.out]; first | (simp; done) | (simp; omega)), rfl⟩
  · have e1 : Lib.hasSuffix s.data.toList [42] = false := by rw [hsx]; simpa using hl
    have e2 : (⟨(Lib.trimSuffix s.data.toList [42]).toArray⟩ : ByteArray) = s := by
      apply ba_ext
      rw [Lib.trimSuffix, if_neg (by rw [e1]; simp)]
    rw [e1, e2] at hF
    have HF := Lib.hid hF
    have HG := Lib.hid (isName_any s w)
    have HR : Hid (sigP s = isNameP s) := by show _ = _; unfold sigP; rw [if_neg hl]
    generalize isNameP s = Q at *
    clear hF hsx hl h42 e1 e2
    cases Q with
    | false =>
      go_enter Tryd.func21, Tryd.ntmps21
      go_wp2_with (first | (go_at_call 34; refine HF.out.mono ?_; rintro e w' ⟨rfl, rfl⟩) | (go_at_call 20; refine HG.out.mono ?_; rintro e w' ⟨rfl, rfl⟩))
      go_ret
      exact ⟨ret_bool (by rw [HR.out]), rfl⟩
    | true =>
      go_enter Tryd.func21, Tryd.ntmps21
      go_wp2_with (first | (go_at_call 34; refine HF.out.mono ?_; rintro e w' ⟨rfl, rfl⟩) | (go_at_call 20; refine HG.out.mono ?_; rintro e w' ⟨rfl, rfl⟩))
      go_ret
      exact ⟨ret_bool (by rw [HR.out]), rfl⟩
theorem gapT_list (n : Nat) : (gapT n).data.toList = 91 :: (Lib.decDigits n ++ [93]) := by simp [gapT]
theorem gapP_iff {s : ByteArray} : gapP s = true ↔ ∃ n, 1 ≤ n ∧ n ≤ 64 ∧ s = gapT n := by
  unfold gapP
  rw [List.any_eq_true]
  constructor
  · rintro ⟨i, hi, h⟩
    rw [List.mem_range] at hi
    exact ⟨i + 1, by omega, by omega, of_decide_eq_true h⟩
  · rintro ⟨n, h1, h2, h3⟩
    exact ⟨n - 1, List.mem_range.2 (by omega), by rw [show n - 1 + 1 = n by omega]; exact decide_eq_true h3⟩
theorem add_gap (d : List UInt8) : (⟨#[91]⟩ : ByteArray) ++ (⟨d.toArray⟩ : ByteArray) ++ (⟨#[93]⟩ : ByteArray) = ⟨(91 :: (d ++ [93])).toArray⟩ := by
  apply ba_ext
  simp [ByteArray.data_append]
theorem str_yes {s t : ByteArray} (h : s = t) : (s.toList == t.toList) = true := by rw [h]; simp
theorem str_no {s t : ByteArray} (h : s ≠ t) : (s.toList == t.toList) = false := by
  rw [beq_eq_false_iff_ne]
  intro e
  rw [ByteArray.toList_eq, ByteArray.toList_eq] at e
  exact h (ba_ext e)
end Go.Proofs.YtileoimcnhcfcaaDoor
