/- What the library's variables hold; strconv.Itoa and Atoi in these words; numerals. -/
import Derived.Test.YtaelfjlmkgimhaaGreatDoorEDat
import Derived.Test.YtaelfjlmkgimhaaGreatDoorShelf
import Derived.Lib.AtoiErrMem
import Derived.Lib.AtoiAllCases
import Derived.Lib.ItoaLen
import Derived.Lib.LaidTab
import Derived.Test.YtaelfjlmkgimhaaGreatDoorERef02
set_option linter.unusedVariables false
set_option linter.unusedSimpArgs false
namespace Go.Proofs.YtaelfjlmkgimhaaGreatDoor
open Go.RowKit Go.Shelf Go.Sort

/-- The tables and the errors of the library are what they are. -/
structure Env (w : World) : Prop where
  tab : Lib.TabIs Tryz.prog w "internal/strconv.uint64pow10" .u64 Lib.pow10Tab
  syn : ∃ tp p, w.var? Tryz.prog "strconv.ErrSyntax" = some #[.iface tp p]
  rng : ∃ tp p, w.var? Tryz.prog "strconv.ErrRange" = some #[.iface tp p]
theorem var_below {P : Program} {w w' : World} (hb : Below w.heap.size w w') {name : String} {x : Array Value} (h : w.var? P name = some x) : w'.var? P name = some x := by
  unfold World.var? at h ⊢
  cases hg : P.globalNamed name with
  | none => rw [hg] at h; cases h
  | some g =>
    rw [hg] at h
    simp only [Option.bind_some] at h ⊢
    cases ho : w.heap[g]? with
    | none => rw [ho] at h; cases h
    | some o => rw [hb.block g (Array.getElem?_eq_some_iff.1 ho).1, ho]; rw [ho] at h; exact h
theorem Env.below {w w' : World} (h : Env w) (hb : Below w.heap.size w w') : Env w' := by
  obtain ⟨h1, ⟨t, p, h2⟩, ⟨t', p', h3⟩⟩ := h
  exact ⟨var_below hb h1, ⟨t, p, var_below hb h2⟩, ⟨t', p', var_below hb h3⟩⟩
theorem below_grow {n : Nat} {A : World} : ∀ (l : List Obj) (W : World), Below n A W → n ≤ W.heap.size → Below n A (grow W ⟨l⟩)
  | [], W, h, _ => by simpa using h
  | o :: l, W, h, hn => by
    have := below_grow l (W.alloc o) (h.alloc hn o) (by simp; omega)
    rw [alloc_eq_grow, grow_grow] at this
    simpa using this
theorem itoa_any (n : Int) (hn : I64 n) (w : World) (hE : Env w) : Calls Tryz.prog 59 #[.int .i64 n] w fun e w' => e = .returned (.string ⟨(Lib.itoa n).toArray⟩) ∧ Below w.heap.size w w' := by
  refine (Tryz.strconv_Itoa n hn.1 hn.2 w hE.tab).mono ?_
  rintro e w' ⟨rfl, k, os, rfl⟩
  exact ⟨rfl, below_grow os.toList _ (below_drewN (Below.refl _ _) k) (Nat.le_refl _)⟩
/-- What Atoi answers: the number, and whether there is an error. -/
def atoiN (l : List UInt8) : Int := match Lib.atoiAll l with | .ok v => v | .range => Lib.atoiSat l | _ => 0
def atoiOk (l : List UInt8) : Bool := match Lib.atoiAll l with | .ok _ => true | _ => false
theorem atoi_any (s : ByteArray) (hs : s.size ≤ 281474976710656) (w : World) (hE : Env w) : Calls Tryz.prog 96 #[.string s] w fun e w' => ∃ err : Value, e = .returned (.tuple #[.int .i64 (atoiN s.data.toList), err]) ∧
    ((atoiOk s.data.toList = true ∧ err = .nilIface) ∨ (atoiOk s.data.toList = false ∧ ∃ p, err = .iface 153 p)) ∧ Below w.heap.size w w' := by
  have hbw : ∀ w', (w' = w ∨ ∃ t, w' = Lib.bytesWorld w 5 t) → Below w.heap.size w w' := by
    rintro w' (rfl | ⟨t, rfl⟩)
    · exact Below.refl _ _
    · exact Lib.bytesWorld_below w _ t
  unfold atoiN atoiOk
  rcases h : Lib.atoiAll s.data.toList with v | _ | _
  · skip
    refine (Tryz.strconv_Atoi_ok s (by omega) v h w).mono ?_
    rintro e w' ⟨rfl, hw⟩
    exact ⟨_, rfl, .inl ⟨rfl, rfl⟩, hbw w' hw⟩
  · skip
    obtain ⟨tp, p, hv⟩ := hE.syn
    refine (Tryz.strconv_Atoi_syntax_var s hs h tp p w hv).mono ?_
    rintro e w' ⟨N, rfl, _, _, hb⟩
    exact ⟨_, rfl, .inr ⟨rfl, _, rfl⟩, hb⟩
  · skip
    obtain ⟨tp, p, hv⟩ := hE.rng
    refine (Tryz.strconv_Atoi_range_var s hs h tp p w hv).mono ?_
    rintro e w' ⟨N, rfl, _, _, hb⟩
    exact ⟨_, rfl, .inr ⟨rfl, _, rfl⟩, hb⟩

theorem parseUint10_snoc : ∀ (l : List UInt8) (acc a : Nat) (c : UInt8), Lib.parseUint10 acc l = .ok a → Lib.parseUint10 acc (l ++ [c]) = Lib.parseUint10 a [c]
  | [], acc, a, c, h => by simp only [Lib.parseUint10] at h; injection h with h; subst h; rfl
  | b :: l, acc, a, c, h => by
    rw [Lib.parseUint10] at h
    rw [List.cons_append, Lib.parseUint10]
    split
    · rename_i h1
      rw [if_pos h1] at h
      split
      · rename_i h2; rw [if_pos h2] at h; cases h
      · rename_i h2
        rw [if_neg h2] at h
        split
        · rename_i h3; rw [if_pos h3] at h; cases h
        · rename_i h3; rw [if_neg h3] at h; exact parseUint10_snoc l _ a c h
    · rename_i h1; rw [if_neg h1] at h; cases h
theorem digit_nat {d : Nat} (h : d < 10) : (UInt8.ofNat (48 + d)).toNat = 48 + d := by
  show (48 + d) % 256 = _; omega
theorem parse_dec (u : Nat) : u < 18446744073709551616 → Lib.parseUint10 0 (Lib.decDigits u) = .ok u := by
  induction u using Nat.strongRecOn with
  | _ u ih =>
    intro hu
    by_cases h : u < 10
    · rw [Lib.decDigits_one h, Lib.parseUint10, digit_nat h, if_pos (by omega), if_neg (by omega), if_neg (by omega), Lib.parseUint10]
      congr 1; omega
    · rw [Lib.decDigits, dif_neg h, parseUint10_snoc _ _ _ _ (ih (u / 10) (by omega) (by omega)), Lib.parseUint10, digit_nat (by omega), if_pos (by omega), if_neg (by omega), if_neg (by omega), Lib.parseUint10]
      congr 1; omega
theorem dec_digits (u : Nat) : ∀ c ∈ Lib.decDigits u, 48 ≤ c.toNat ∧ c.toNat ≤ 57 := by
  induction u using Nat.strongRecOn with
  | _ u ih =>
    intro c hc
    by_cases h : u < 10
    · rw [Lib.decDigits_one h] at hc
      obtain rfl := List.mem_singleton.1 hc; rw [digit_nat h]; omega
    · rw [Lib.decDigits, dif_neg h] at hc
      rcases List.mem_append.1 hc with hc | hc
      · exact ih (u / 10) (by omega) c hc
      · obtain rfl := List.mem_singleton.1 hc; rw [digit_nat (Nat.mod_lt _ (by omega))]; omega
theorem dec_ne (u : Nat) : Lib.decDigits u ≠ [] := fun h => by
  have := Lib.decDigits_length u
  rw [h] at this
  have := Lib.nDigits_pos u
  simp at *; omega
theorem atoi_itoa (n : Int) (h : I64 n) : Lib.atoiAll (Lib.itoa n) = .ok n := by
  have h1 := h.1
  have h2 := h.2
  unfold Lib.itoa
  split
  · rw [Lib.atoiAll_minus, Lib.parseMag, if_neg (dec_ne _), parse_dec _ (by omega), Lib.signed]
    rw [if_neg (by omega)]
    congr 1; omega
  · have hd := dec_digits n.toNat
    have hp := parse_dec n.toNat (by omega)
    have hn := dec_ne n.toNat
    generalize Lib.decDigits n.toNat = l at *
    cases l with
    | nil => exact absurd rfl hn
    | cons c r =>
      have := hd c (by simp)
      rw [Lib.atoiAll_plain c r (by omega) (by omega), Lib.parseMag, if_neg hn, hp, Lib.signless]
      rw [if_neg (by omega)]
      congr 1; omega
theorem atoiN_itoa (n : Int) (h : I64 n) : atoiN (Lib.itoa n) = n := by rw [atoiN, atoi_itoa n h]
theorem atoiOk_itoa (n : Int) (h : I64 n) : atoiOk (Lib.itoa n) = true := by rw [atoiOk, atoi_itoa n h]
theorem atoiN_i64 (l : List UInt8) : I64 (atoiN l) := by
  unfold atoiN
  rcases h : Lib.atoiAll l with v | _ | _
  · exact Lib.atoiAll_bounds h
  · exact I64.zero
  · simp only [Lib.atoiSat]
    split
    · exact ⟨by decide, by decide⟩
    · exact ⟨by decide, by decide⟩
/-- Where a numeral is its number's own, Atoi reads it. -/
theorem atoiOk_of {l : List UInt8} (h : Lib.itoa (atoiN l) = l) : atoiOk l = true := by
  rw [← h]; exact atoiOk_itoa _ (atoiN_i64 l)
theorem itoa_bytes (n : Int) : ∀ c ∈ Lib.itoa n, c = 45 ∨ (48 ≤ c.toNat ∧ c.toNat ≤ 57) := by
  intro c hc
  unfold Lib.itoa at hc
  split at hc
  · rcases List.mem_cons.1 hc with rfl | hc
    · exact .inl rfl
    · exact .inr (dec_digits _ c hc)
  · exact .inr (dec_digits _ c hc)
theorem itoa_inj {a b : Int} (ha : I64 a) (hb : I64 b) (h : Lib.itoa a = Lib.itoa b) : a = b := by rw [← atoiN_itoa a ha, ← atoiN_itoa b hb, h]
end Go.Proofs.YtaelfjlmkgimhaaGreatDoor

/- Names of the reference, sigla and gaps of both sides. -/
namespace Go.Proofs.YtaelfjlmkgimhaaGreatDoor
open Go.RowKit

set_option maxHeartbeats 400000 in
theorem isName_ref (s : ByteArray) (w : World) : Calls Tryz.prog 61 #[.string s] w fun e w' => e = .returned (.bool (isNameP s)) ∧ Below w.heap.size w w' := by
  have HE := Lib.hid (isName_word s)
  have HF := Lib.hid (isWord_ref s w)
  have hA := lets_all s.data.toList
  rw [Array.length_toList, show s.data.size = s.size from rfl] at hA
  generalize isNameP s = R at *
  generalize hw : isWordP s = W at *
  clear hw
  by_cases h16 : s.size ≤ 16
  · cases W with
    | false =>
      have HR : Hid (R = false) := by show _ = _; rw [HE.out]; simp
      clear hA
      go_enter Tryz.func61, Tryz.ntmps61
      go_wp2_with (go_at_call 38; refine HF.out.mono ?_; rintro e w1 ⟨rfl, hb1⟩)
      go_ret
      exact ⟨ret_bool HR.out.symm, hb1⟩
    | true =>
      have HR : Hid (R = s.data.toList.all letB) := by show _ = _; rw [HE.out, decide_eq_true h16]; simp
      have HL : Hid (∀ w, Calls Tryz.prog 86 #[.string s] w fun e w' => e = .returned (.int .i64 (lets s.data.toList)) ∧ w = w') := fun w => letters_ref s w (by omega)
      generalize lets s.data.toList = L at *
      generalize s.data.toList.all letB = Q at *
      by_cases hL : L = (s.size : Int)
      · have hq : Q = true := hA.1 hL
        have b1 : (L == (s.size : Int)) = true := by simp [hL]
        have HQ := Lib.hid hq
        clear hA hq
        go_enter Tryz.func61, Tryz.ntmps61
        go_wp2_with (first | (go_at_call 38; refine HF.out.mono ?_; rintro e w1 ⟨rfl, hb1⟩) | (go_at_call 86; refine (HL.out _).mono ?_; rintro e w' ⟨rfl, rfl⟩))
        go_ret
        exact ⟨ret_bool (by rw [HR.out, HQ.out]), hb1⟩
      · have hq : Q = false := by
          cases Q with
          | false => rfl
          | true => exact absurd (hA.2 rfl) hL
        have b1 : (L == (s.size : Int)) = false := by simp [hL]
        have HQ := Lib.hid hq
        clear hA hq
        go_enter Tryz.func61, Tryz.ntmps61
        go_wp2_with (first | (go_at_call 38; refine HF.out.mono ?_; rintro e w1 ⟨rfl, hb1⟩) | (go_at_call 86; refine (HL.out _).mono ?_; rintro e w' ⟨rfl, rfl⟩))
        go_ret
        exact ⟨ret_bool (by rw [HR.out, HQ.out]), hb1⟩
  · have HR : Hid (R = false) := by show _ = _; rw [HE.out, decide_eq_false h16]; rfl
    have b1 : decide (s.size ≤ 16) = false := by simpa using h16
    clear hA
    go_enter Tryz.func61, Tryz.ntmps61
    go_wp2
    go_ret
    exact ⟨ret_bool HR.out.symm, Below.refl _ _⟩
theorem named_ref (s : ByteArray) (w : World) : Calls Tryz.prog 40 #[.string s] w fun e w' => e = .returned (.bool (namedP s)) ∧ Below w.heap.size w w' := by
  have HF := Lib.hid (isName_ref s w)
  have HE : Hid (namedP s = (decide (s.size = 0) || isNameP s)) := rfl
  generalize namedP s = R at *
  generalize isNameP s = Q at *
  by_cases h0 : s.size = 0
  · have d0 := isEmpty_yes h0
    have d1 := toList_nil.2 h0
    have hR : Hid (R = true) := by show _ = _; rw [HE.out, decide_eq_true h0]; rfl
    clear h0
    go_enter Tryz.func40, Tryz.ntmps40
    go_wp2
    go_ret
    exact ⟨ret_bool hR.out.symm, Below.refl _ _⟩
  · have d0 := isEmpty_no h0
    have d1 : ¬ s.toList = [] := fun h => h0 (toList_nil.1 h)
    have hR : Hid (R = Q) := by show _ = _; rw [HE.out, decide_eq_false h0]; rfl
    clear h0
    go_enter Tryz.func40, Tryz.ntmps40
    go_wp2_with (go_at_call 61; refine HF.out.mono ?_; rintro e w1 ⟨rfl, hb1⟩)
    go_ret
    exact ⟨ret_bool hR.out.symm, hb1⟩

theorem ext_list (s : ByteArray) (a b : Nat) : (s.extract a b).data.toList = (s.data.toList.drop a).take (b - a) := by
  have := Lib.extract_toList s a b
  rw [ByteArray.toList_eq] at this
  exact this
theorem ba_ext {s t : ByteArray} (h : s.data.toList = t.data.toList) : s = t := by
  cases s; cases t; congr 1; exact Array.toList_inj.1 h
theorem last_at {s : ByteArray} (h : s.size - 1 < s.size) : s.data.toList.getLast? = some s[s.size - 1] := by
  have e : s.data.toList.length = s.size := Array.length_toList
  rw [List.getLast?_eq_getElem?, e]
  rw [List.getElem?_eq_getElem (by omega)]; rfl
theorem suffix_star (l : List UInt8) : Lib.hasSuffix l [42] = decide (l.getLast? = some 42) := by
  unfold Lib.hasSuffix
  rw [Bool.eq_iff_iff, List.isSuffixOf_iff_suffix, decide_eq_true_eq]
  constructor
  · rintro ⟨r, rfl⟩; simp
  · intro h
    obtain ⟨r, hr⟩ := List.getLast?_eq_some_iff.1 h
    exact ⟨r, hr.symm⟩
theorem gapT_list (n : Nat) : (gapT n).data.toList = 91 :: (Lib.decDigits n ++ [93]) := by simp [gapT]
theorem gapP_iff {s : ByteArray} : gapP s = true ↔ ∃ n, 1 ≤ n ∧ n ≤ 64 ∧ s = gapT n := by
  unfold gapP
  rw [List.any_eq_true]
  constructor
  · rintro ⟨i, hi, h⟩
    rw [List.mem_range] at hi
    exact ⟨i + 1, by omega, by omega, of_decide_eq_true h⟩
  · rintro ⟨n, h1, h2, h3⟩
    exact ⟨n - 1, List.mem_range.2 (by omega), by rw [show n - 1 + 1 = n by omega]; exact decide_eq_true h3⟩
theorem add_gap (d : List UInt8) : (⟨#[91]⟩ : ByteArray) ++ (⟨d.toArray⟩ : ByteArray) ++ (⟨#[93]⟩ : ByteArray) = ⟨(91 :: (d ++ [93])).toArray⟩ := by
  apply ba_ext
  simp [ByteArray.data_append]
theorem str_yes {s t : ByteArray} (h : s = t) : (s.toList == t.toList) = true := by rw [h]; simp
theorem str_no {s t : ByteArray} (h : s ≠ t) : (s.toList == t.toList) = false := by
  rw [beq_eq_false_iff_ne]
  intro e
  rw [ByteArray.toList_eq, ByteArray.toList_eq] at e
  exact h (ba_ext e)
set_option maxHeartbeats 400000 in
theorem gapped_ref (s : ByteArray) (w : World) : Calls Tryz.prog 36 #[.string s] w fun e w' => e = .returned (.bool (gapP s)) ∧ w = w' := by
  have HP : Hid (∀ n, 1 ≤ n → n ≤ 64 → s = gapT n → gapP s = true) := fun n h1 h2 h3 => gapP_iff.2 ⟨n, h1, h2, h3⟩
  have HN : Hid ((∀ n, 1 ≤ n → n < 65 → s ≠ gapT n) → gapP s = false) := fun h => by
    cases e : gapP s with
    | false => rfl
    | true => obtain ⟨n, h1, h2, h3⟩ := gapP_iff.1 e; exact absurd h3 (h n h1 (by omega))
  generalize gapP s = R at *
  go_enter Tryz.func36, Tryz.ntmps36
  go_wp2
  go_loop [3] (fun i => ∃ k : Nat, 1 ≤ k ∧ k ≤ 65 ∧ i = .int .i64 k ∧ Hid (∀ n, 1 ≤ n → n < k → s ≠ gapT n)) (fun i => 65 - (intOf i).toNat)
  case atStart => exact ⟨1, by omega, by omega, rfl, fun n h1 h2 => by omega⟩
  case round =>
    obtain ⟨k, hk1, hk, rfl, hx⟩ := hrel
    by_cases hlt : k ≤ 64
    · have HF : Hid (∀ w, Calls Tryz.prog 59 #[.int .i64 (k : Int)] w fun e w' => e = .returned (.string ⟨(Lib.decDigits k).toArray⟩) ∧ w' = w) := fun w => Tryz.strconv_Itoa_small k (by omega) w
      have hsum : (⟨#[91]⟩ : ByteArray) ++ (⟨(Lib.decDigits k).toArray⟩ : ByteArray) ++ (⟨#[93]⟩ : ByteArray) = gapT k := add_gap _
      have HSUM := Lib.hid hsum
      have hd : (Lib.decDigits k).length ≤ 20 := by
        rw [Lib.decDigits_length]; exact Lib.nDigits_le20 k (by omega)
      clear hsum
      by_cases he : s = gapT k
      · have b1 : (s.toList == ((⟨#[91]⟩ : ByteArray) ++ (⟨(Lib.decDigits k).toArray⟩ : ByteArray) ++ (⟨#[93]⟩ : ByteArray)).toList) = true := str_yes (he.trans HSUM.out.symm)
        have HR := Lib.hid (HP.out k hk1 hlt he)
        clear he
        go_wp2_with (go_at_call 59; refine (HF.out _).mono ?_; rintro e w' ⟨rfl, rfl⟩)
        go_ret
        exact ⟨ret_bool HR.out.symm, rfl⟩
      · have b1 : (s.toList == ((⟨#[91]⟩ : ByteArray) ++ (⟨(Lib.decDigits k).toArray⟩ : ByteArray) ++ (⟨#[93]⟩ : ByteArray)).toList) = false := str_no (fun e => he (e.trans HSUM.out))
        have HX2 : Hid (∀ n, 1 ≤ n → n < k + 1 → s ≠ gapT n) := fun n h1 h2 => by
          by_cases e : n = k
          · rw [e]; exact he
          · exact hx.out n h1 (by omega)
        clear he
        go_wp2_with (go_at_call 59; refine (HF.out _).mono ?_; rintro e w' ⟨rfl, rfl⟩)
        go_round
        case rel => exact ⟨k + 1, by omega, by omega, by go_num, HX2.out⟩
        case measure => simp [intOf]; omega
    · obtain rfl : k = 65 := by omega
      have HR := Lib.hid (HN.out hx.out)
      go_wp2
      go_ret
      exact ⟨ret_bool HR.out.symm, rfl⟩
end Go.Proofs.YtaelfjlmkgimhaaGreatDoor
