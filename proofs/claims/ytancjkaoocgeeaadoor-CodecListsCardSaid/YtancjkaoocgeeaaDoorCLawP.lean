/- Plain: what is decoded is the encoding; what is encoded can be decoded; encodings are no prefixes of each other; lists. No program. -/
import Derived.Test.YtancjkaoocgeeaaDoorCDec
import Derived.Test.YtancjkaoocgeeaaDoorCSame
namespace Go.Proofs.YtancjkaoocgeeaaDoor

theorem leaf_sound {s r : List UInt8} {v : V} (h : scalP s = some (v, r)) : s = encV v ++ r := by
  cases s with
  | nil => cases h
  | cons c s =>
    rw [scalP] at h
    split at h
    · rename_i hc
      cases hn : numP 59 s with
      | none => rw [hn] at h; cases h
      | some p =>
        rw [hn] at h
        obtain ⟨n, r'⟩ := p
        cases h
        obtain ⟨_, rfl⟩ := (numP_iff 59 (by decide) _ _ _).1 hn
        subst hc
        rw [encV_leaf (v := .mk 1 n ⟨#[]⟩ []) (.inl rfl)]
        show _ = (105 :: (Lib.itoa n ++ [59])) ++ r'
        simp
    · split at h
      · rename_i hc
        cases hn : numP 58 s with
        | none => rw [hn] at h; cases h
        | some p =>
          rw [hn] at h
          obtain ⟨n, r'⟩ := p
          simp only [] at h
          split at h
          · cases h
          · rename_i hb
            cases h
            obtain ⟨_, rfl⟩ := (numP_iff 58 (by decide) _ _ _).1 hn
            subst hc
            rw [encV_leaf (v := .mk 2 0 ⟨(r'.take n.toNat).toArray⟩ []) (.inr rfl)]
            have hsz : (ByteArray.size ⟨(r'.take n.toNat).toArray⟩ : Int) = n := by
              show (((r'.take n.toNat).toArray.size : Nat) : Int) = n
              rw [List.size_toArray, List.length_take]; omega
            show _ = (115 :: (Lib.itoa (ByteArray.size ⟨(r'.take n.toNat).toArray⟩ : Int) ++ 58 :: (r'.take n.toNat))) ++ r'.drop n.toNat
            rw [hsz]
            simp
      · cases h
/-- What has been read, in a state. -/
def stk : List V → List (List V) → List UInt8
  | top, [] => encL top
  | top, b :: bs => stk b bs ++ 108 :: encL top
theorem stk_snoc (top : List V) (bs : List (List V)) (v : V) : stk (top ++ [v]) bs = stk top bs ++ encV v := by
  have e : encL [v] = encV v := by rw [encL, encL, List.append_nil]
  cases bs with
  | nil => rw [stk, stk, encL_append, e]
  | cons b bs => rw [stk, stk, encL_append, e]; simp
theorem leafStep_sound {top : List V} {below : List (List V)} {s : List UInt8} {y : List V × List (List V) × List UInt8} (h : leafStep top below s = .inr y) : stk top below ++ s = stk y.1 y.2.1 ++ y.2.2 := by
  unfold leafStep at h
  cases hp : scalP s with
  | none => rw [hp] at h; cases h
  | some p =>
    rw [hp] at h; cases h
    show _ = stk (top ++ [p.1]) below ++ p.2
    rw [stk_snoc, List.append_assoc, ← leaf_sound (v := p.1) (r := p.2) hp]
theorem decStep_sound {top : List V} {below : List (List V)} {s : List UInt8} {y : List V × List (List V) × List UInt8} (h : decStep top below s = .inr y) : stk top below ++ s = stk y.1 y.2.1 ++ y.2.2 := by
  unfold decStep at h
  split at h
  · cases h
  · exact leafStep_sound h
  · split at h
    · rename_i hc
      cases h
      subst hc
      show _ = stk [] (_ :: _) ++ _
      rw [stk, encL]; simp
    · split at h
      · rename_i hc
        split at h
        · exact leafStep_sound h
        · cases h
          subst hc
          show _ = stk (_ ++ [V.mk 3 0 ⟨#[]⟩ _]) _ ++ _
          rw [stk_snoc, encV_list (by simp [V.kind]), stk]
          simp [V.items]
      · exact leafStep_sound h
theorem decStep_end {top : List V} {below : List (List V)} {s : List UInt8} {x : V × List UInt8} (h : decStep top below s = .inl (some x)) : below = [] ∧ top = [x.1] ∧ x.2 = s := by
  have hl : ∀ (t : List V) (b : List (List V)) (s : List UInt8), leafStep t b s ≠ .inl (some x) := fun t b s e => by
    unfold leafStep at e
    cases hp : scalP s with
    | none => rw [hp] at e; cases e
    | some p => rw [hp] at e; cases e
  unfold decStep at h
  split at h
  · cases h; exact ⟨rfl, rfl, rfl⟩
  · exact absurd h (hl _ _ _)
  · split at h
    · cases h
    · split at h
      · split at h
        · exact absurd h (hl _ _ _)
        · cases h
      · exact absurd h (hl _ _ _)
theorem decS_sound : ∀ (f : Nat) (top : List V) (below : List (List V)) (s : List UInt8) (v : V) (r : List UInt8), decS f top below s = some (v, r) → stk top below ++ s = encV v ++ r
  | 0, _, _, _, _, _, h => by cases h
  | f + 1, top, below, s, v, r, h => by
    rw [decS] at h
    cases hs : decStep top below s with
    | inl x =>
      rw [hs] at h
      simp only [] at h
      subst h
      obtain ⟨rfl, rfl, rfl⟩ := decStep_end hs
      rw [stk, encL, encL, List.append_nil]
    | inr y =>
      rw [hs] at h
      rw [decStep_sound hs]
      exact decS_sound f _ _ _ v r h
/-- What is decoded is the encoding of the result. -/
theorem decode_sound {s : List UInt8} {v : V} (h : decode s = (v, 0)) : encB v = s ∧ encE v = 0 := by
  unfold decode at h
  split at h
  · cases h
  · rename_i hl
    cases hd : decR [] [] s with
    | none => rw [hd] at h; cases h
    | some p =>
      rw [hd] at h
      obtain ⟨v', r⟩ := p
      simp only [] at h
      split at h
      · rename_i hr
        subst hr
        split at h
        · rename_i hc
          cases h
          have e := decS_sound _ _ _ _ _ _ hd
          rw [stk, encL, List.nil_append, List.append_nil] at e
          rw [encB, encE, if_pos ⟨hc, by rw [← e]; omega⟩, if_neg (by simpa using hc), if_neg (by rw [← e]; exact hl)]
          exact ⟨e.symm, rfl⟩
        · cases h
      · cases h
theorem decode_err {s : List UInt8} (h : (decode s).2 ≠ 0) : ((decode s).2 = 3 ∨ (decode s).2 = 4) ∧ (decode s).1 = zeroV := by
  unfold decode at h ⊢
  split
  · exact ⟨.inr rfl, rfl⟩
  · rename_i hl
    rw [if_neg hl] at h
    cases hd : decR [] [] s with
    | none => exact ⟨.inl rfl, rfl⟩
    | some p =>
      rw [hd] at h
      obtain ⟨v', r⟩ := p
      simp only [] at h ⊢
      split
      · rename_i hr
        rw [if_pos hr] at h
        split
        · rename_i hc
          rw [if_pos hc] at h
          exact absurd rfl h
        · exact ⟨.inr rfl, rfl⟩
      · exact ⟨.inl rfl, rfl⟩
theorem toArray_bytes (t : ByteArray) : (⟨t.data.toList.toArray⟩ : ByteArray) = t := by cases t; simp
theorem leaf_dec {v : V} (hs : singV v = 0) (hn : NumOk v) (hk : v.kind = 1 ∨ v.kind = 2) (r : List UInt8) : scalP (leafV v ++ r) = some (v, r) := by
  obtain ⟨k, n, t, l⟩ := v
  obtain ⟨h1, h2, h3, h4, h5, h6⟩ := singV_ok hs
  simp only [V.kind, V.num, V.text, V.items] at h1 h2 h3 h4 h5 h6 hk
  have hi := hn.num
  simp only [V.num] at hi
  obtain rfl : l = [] := h4 (by omega)
  rcases hk with rfl | rfl
  · have ht : t = ⟨#[]⟩ := by
      have := h6 (by omega)
      obtain ⟨d⟩ := t
      have : d.size = 0 := this
      rw [Array.eq_empty_of_size_eq_zero this]
    subst ht
    show scalP (105 :: (Lib.itoa n ++ [59]) ++ r) = _
    rw [List.cons_append, scalP, if_pos rfl, (numP_iff 59 (by decide) _ r n).2 ⟨hi, by simp⟩]
    rfl
  · obtain rfl : n = 0 := h5 (by omega)
    show scalP (115 :: (Lib.itoa t.size ++ 58 :: t.data.toList) ++ r) = _
    have hl : t.data.toList.length = t.size := Array.length_toList
    rw [List.cons_append, scalP, if_neg (by decide), if_pos rfl, (numP_iff 58 (by decide) _ (t.data.toList ++ r) t.size).2 ⟨⟨by omega, by omega⟩, by simp⟩]
    simp only [List.length_append]
    rw [if_neg (by omega)]
    simp only [Int.toNat_natCast]
    rw [← hl, List.take_left, List.drop_left, toArray_bytes]
theorem encV_head (v : V) : ∃ c r, leafV v = c :: r ∧ (c = 105 ∨ c = 115) := by
  unfold leafV
  split
  · exact ⟨_, _, rfl, .inl rfl⟩
  · exact ⟨_, _, rfl, .inr rfl⟩
theorem decStep_leaf' {top : List V} {below : List (List V)} {s : List UInt8} (h : ¬ (below = [] ∧ top.length = 1)) (hs : ∀ c r, s = c :: r → c ≠ 108 ∧ c ≠ 101) : decStep top below s = leafStep top below s := by
  unfold decStep
  split
  · exact absurd ⟨rfl, rfl⟩ h
  · rfl
  · obtain ⟨h1, h2⟩ := hs _ _ rfl
    rw [if_neg h1, if_neg h2]
theorem decStep_list' {top b : List V} {bs : List (List V)} {r : List UInt8} : decStep top (b :: bs) (101 :: r) = .inr (b ++ [.mk 3 0 ⟨#[]⟩ top], bs, r) := by
  unfold decStep; simp
/-- Reading the encoding of a value lays it on the list on top. -/
theorem dec_enc (v : V) : ∀ (top : List V) (below : List (List V)) (r : List UInt8), allV v = 0 → NumOk v → ¬ (below = [] ∧ top.length = 1) → decR top below (encV v ++ r) = decR (top ++ [v]) below r := by
  induction v using V.ind with
  | h v ih =>
    intro top below r ha hn ht
    obtain ⟨hs, hi⟩ := allV_items ha
    by_cases hk : v.kind = 1 ∨ v.kind = 2
    · rw [encV_leaf hk, decR_step, decStep_leaf' ht (fun c r' e => by
        obtain ⟨c0, r0, h0, h1⟩ := encV_head v
        rw [h0, List.cons_append] at e
        cases e
        rcases h1 with rfl | rfl <;> exact ⟨by decide, by decide⟩), leafStep, leaf_dec hs hn hk]
    · have h3 : v.kind = 3 := by have := (singV_ok hs).1; omega
      rw [encV_list hk, decR_step, List.cons_append]
      have e1 : decStep top below (108 :: (encL v.items ++ [101] ++ r)) = .inr ([], top :: below, encL v.items ++ [101] ++ r) := by
        unfold decStep
        split
        · exact absurd ⟨rfl, rfl⟩ ht
        · rename_i e; cases e
        · rename_i e; cases e; rw [if_pos rfl]
      rw [e1]
      simp only []
      have key : ∀ (l acc : List V) (r' : List UInt8), (∀ u ∈ l, u ∈ v.items) → decR acc (top :: below) (encL l ++ r') = decR (acc ++ l) (top :: below) r' := by
        intro l
        induction l with
        | nil => intro acc r' _; rw [encL, List.nil_append, List.append_nil]
        | cons u l ihl =>
          intro acc r' hm
          have hu := hm u (by simp)
          rw [encL, List.append_assoc, ih u hu acc (top :: below) _ (hi u hu) (hn.items u hu) (fun e => by cases e.1), ihl _ _ (fun x hx => hm x (by simp [hx]))]
          simp
      rw [List.append_assoc, key v.items [] _ (fun u hu => hu), List.nil_append, decR_step]
      have e2 : decStep v.items (top :: below) ([101] ++ r) = .inr (top ++ [v], below, r) := by
        show decStep v.items (top :: below) (101 :: r) = _
        rw [decStep_list']
        obtain ⟨k, n, t, l⟩ := v
        obtain ⟨_, _, _, _, h5, h6⟩ := singV_ok hs
        simp only [V.kind, V.num, V.text] at h3 h5 h6
        subst h3
        obtain rfl := h5 (by omega)
        have ht : t = ⟨#[]⟩ := by
          have := h6 (by omega)
          obtain ⟨d⟩ := t
          have : d.size = 0 := this
          rw [Array.eq_empty_of_size_eq_zero this]
        subst ht
        rfl
      rw [e2]
theorem dec_one (v : V) (r : List UInt8) (ha : allV v = 0) (hn : NumOk v) : decR [] [] (encV v ++ r) = some (v, r) := by
  rw [dec_enc v [] [] r ha hn (by simp), List.nil_append, decR_step]
  rfl
theorem chkV_all {v : V} (h : chkV v = 0) : allV v = 0 := (chkV_good h).2
/-- No encoding begins with that of another value. -/
theorem enc_prefix {a b : V} {r : List UInt8} (ha : allV a = 0) (hb : allV b = 0) (na : NumOk a) (nb : NumOk b) (h : encV b = encV a ++ r) : a = b ∧ r = [] := by
  have h1 := dec_one b [] hb nb
  rw [List.append_nil, h, dec_one a r ha na] at h1
  cases h1
  exact ⟨rfl, rfl⟩
theorem enc_inj {a b : V} (ha : allV a = 0) (hb : allV b = 0) (na : NumOk a) (nb : NumOk b) : encV a = encV b ↔ a = b :=
  ⟨fun h => (enc_prefix ha hb na nb (r := []) (by rw [List.append_nil, h])).1, fun h => by rw [h]⟩
theorem decode_enc {v : V} (h : chkV v = 0) (hn : NumOk v) (hl : (encV v).length ≤ 1048576) : decode (encV v) = (v, 0) := by
  have := dec_one v [] (chkV_all h) hn
  rw [List.append_nil] at this
  unfold decode
  rw [if_neg (by omega), this]
  simp only []
  rw [if_pos trivial, if_pos h]
theorem decode_two {a : V} {t : List UInt8} (h : chkV a = 0) (hn : NumOk a) (ht : t ≠ []) (hl : (encV a ++ t).length ≤ 1048576) : decode (encV a ++ t) = (zeroV, 3) := by
  unfold decode
  rw [if_neg (by omega), dec_one a t (chkV_all h) hn]
  simp only []
  rw [if_neg ht]
theorem encV_ne (v : V) : encV v ≠ [] := by
  cases v with
  | mk k n t l => rw [encV]; split <;> (try unfold leafV) <;> (try split) <;> simp
end Go.Proofs.YtancjkaoocgeeaaDoor
