/- Joined: CDec, CSame, CLawP, IPln, IFit, COwnV. -/
import Derived.Test.YtlbcmeebcfalpaaGreatDoorR02
import Derived.Test.YtlbcmeebcfalpaaGreatDoorR01
import Derived.Maps.AppendAt
import Derived.Laws.AppendOwnNone
set_option linter.unusedVariables false
set_option linter.unusedSimpArgs false
set_option maxRecDepth 100000
set_option maxHeartbeats 16000000
namespace Go.Proofs.YtlbcmeebcfalpaaGreatDoor

/-- One item at the head of a string, onto the list on top. -/
def leafStep (top : List V) (below : List (List V)) (s : List UInt8) : Option (V × List UInt8) ⊕ (List V × List (List V) × List UInt8) :=
  match scalP s with
  | none => .inl none
  | some p => .inr (top ++ [p.1], below, p.2)
/-- One step of the reading; below: the lists below the top one, the innermost first. -/
def decStep (top : List V) (below : List (List V)) (s : List UInt8) : Option (V × List UInt8) ⊕ (List V × List (List V) × List UInt8) :=
  match below, top, s with
  | [], [x], s => .inl (some (x, s))
  | below, top, [] => leafStep top below []
  | below, top, c :: r =>
    if c = 108 then .inr ([], top :: below, r)
    else if c = 101 then
      match below with
      | [] => leafStep top [] (c :: r)
      | b :: bs => .inr (b ++ [.mk 3 0 ⟨#[]⟩ top], bs, r)
    else leafStep top below (c :: r)
def decS : Nat -> List V -> List (List V) -> List UInt8 -> Option (V × List UInt8)
  | 0, _, _, _ => none
  | f + 1, top, below, s =>
    match decStep top below s with
    | .inl x => x
    | .inr y => decS f y.1 y.2.1 y.2.2
theorem scalP_lt {s r : List UInt8} {v : V} (h : scalP s = some (v, r)) : r.length < s.length := by
  cases s with
  | nil => cases h
  | cons c s =>
    rw [scalP] at h
    split at h
    · cases hn : numP 59 s with
      | none => rw [hn] at h; cases h
      | some p =>
        rw [hn] at h
        obtain ⟨n, r'⟩ := p
        cases h
        obtain ⟨_, rfl⟩ := (numP_iff 59 (by decide) _ _ _).1 hn
        simp; omega
    · split at h
      · cases hn : numP 58 s with
        | none => rw [hn] at h; cases h
        | some p =>
          rw [hn] at h
          obtain ⟨n, r'⟩ := p
          simp only [] at h
          split at h
          · cases h
          · cases h
            obtain ⟨_, rfl⟩ := (numP_iff 58 (by decide) _ _ _).1 hn
            simp; omega
      · cases h
theorem leafStep_lt {top : List V} {below : List (List V)} {s : List UInt8} {y : List V × List (List V) × List UInt8} (h : leafStep top below s = .inr y) : y.2.2.length < s.length := by
  unfold leafStep at h
  cases hp : scalP s with
  | none => rw [hp] at h; cases h
  | some p => rw [hp] at h; cases h; exact scalP_lt hp
theorem decStep_lt {top : List V} {below : List (List V)} {s : List UInt8} {y : List V × List (List V) × List UInt8} (h : decStep top below s = .inr y) : y.2.2.length < s.length := by
  unfold decStep at h
  split at h
  · cases h
  · exact leafStep_lt h
  · split at h
    · cases h; simp
    · split at h
      · split at h
        · exact leafStep_lt h
        · cases h; simp
      · exact leafStep_lt h
theorem decS_more : ∀ (f : Nat) (top : List V) (below : List (List V)) (s : List UInt8), s.length < f -> decS (f + 1) top below s = decS f top below s
  | 0, _, _, _, h => absurd h (Nat.not_lt_zero _)
  | f + 1, top, below, s, h => by
    rw [decS, decS]
    cases hs : decStep top below s with
    | inl x => rfl
    | inr y =>
      simp only []
      exact decS_more f _ _ _ (by have := decStep_lt hs; omega)
theorem decS_enough {f : Nat} {top : List V} {below : List (List V)} {s : List UInt8} (h : s.length < f) : decS f top below s = decS (s.length + 1) top below s := by
  induction f with
  | zero => omega
  | succ f ih =>
    rcases Nat.lt_or_ge s.length f with e | e
    · rw [decS_more f _ _ _ e, ih e]
    · rw [show f = s.length by omega]
/-- The reading, from a state. -/
def decR (top : List V) (below : List (List V)) (s : List UInt8) : Option (V × List UInt8) := decS (s.length + 1) top below s
theorem decR_step (top : List V) (below : List (List V)) (s : List UInt8) : decR top below s = match decStep top below s with | .inl x => x | .inr y => decR y.1 y.2.1 y.2.2 := by
  rw [decR, decS]
  cases hs : decStep top below s with
  | inl x => rfl
  | inr y =>
    simp only []
    exact decS_enough (decStep_lt hs)
def zeroV : V := .mk 0 0 ⟨#[]⟩ []
/-- What Decode answers. -/
def decode (s : List UInt8) : V × Int :=
  if 1048576 < s.length then (zeroV, 4)
  else match decR [] [] s with
    | none => (zeroV, 3)
    | some p => if p.2 = [] then (if chkV p.1 = 0 then (p.1, 0) else (zeroV, 4)) else (zeroV, 3)
end Go.Proofs.YtlbcmeebcfalpaaGreatDoor
namespace Go.Proofs.YtlbcmeebcfalpaaGreatDoor
open Go.RowKit

mutual
/-- Whether two values are equal. -/
def sameV : V -> V -> Bool | .mk k n t l, .mk k' n' t' l' => decide (k = k') && (decide (n = n') && (decide (t = t') && sameL l l'))
def sameL : List V -> List V -> Bool | [], [] => true | u :: r, u' :: r' => sameV u u' && sameL r r' | [], _ :: _ => false | _ :: _, [] => false
end
theorem sameV_iff (a : V) : ∀ b, sameV a b = true ↔ a = b := by
  induction a using V.ind with
  | h a ih =>
    intro b
    obtain ⟨k, n, t, l⟩ := a
    obtain ⟨k', n', t', l'⟩ := b
    change ∀ u ∈ l, _ at ih
    have key : ∀ (l l' : List V), (∀ u ∈ l, ∀ b, sameV u b = true ↔ u = b) -> (sameL l l' = true ↔ l = l') := by
      intro l
      induction l with
      | nil => intro l' _; cases l' <;> simp [sameL]
      | cons u r ihr =>
        intro l' h
        cases l' with
        | nil => simp [sameL]
        | cons u' r' =>
          rw [sameL, Bool.and_eq_true, h u (by simp), ihr r' (fun y hy => h y (by simp [hy]))]
          simp
    rw [sameV]
    simp only [Bool.and_eq_true, decide_eq_true_eq, key l l' ih, V.mk.injEq]
theorem sameL_take {l m : List Vl} {j : Nat} {u v : Vl} (hu : l[j]? = some u) (hv : m[j]? = some v) : sameL ((l.map Vl.er).drop j) ((m.map Vl.er).drop j) = (sameV u.er v.er && sameL ((l.map Vl.er).drop (j + 1)) ((m.map Vl.er).drop (j + 1))) := by
  have key : ∀ {l : List Vl} {u : Vl}, l[j]? = some u -> (l.map Vl.er).drop j = u.er :: (l.map Vl.er).drop (j + 1) := fun {l u} hu => by
    obtain ⟨h1, e1⟩ := List.getElem?_eq_some_iff.1 hu
    have := List.drop_eq_getElem_cons (l := l.map Vl.er) (i := j) (by simpa using h1)
    rw [this]; simp [e1]
  rw [key hu, key hv, sameL]
theorem sameL_end {l m : List Vl} {j : Nat} (h1 : l.length <= j) (h2 : m.length <= j) : sameL ((l.map Vl.er).drop j) ((m.map Vl.er).drop j) = true := by
  rw [List.drop_of_length_le (by simpa using h1), List.drop_of_length_le (by simpa using h2)]; rfl
theorem sameL_len {l m : List V} (h : l.length ≠ m.length) : sameL l m = false := by
  cases hs : sameL l m with
  | false => rfl
  | true =>
    exfalso
    have key : ∀ (l m : List V), sameL l m = true -> l.length = m.length := by
      intro l
      induction l with
      | nil => intro m h; cases m with | nil => rfl | cons _ _ => simp [sameL] at h
      | cons u r ih => intro m h; cases m with | nil => simp [sameL] at h | cons u' r' => rw [sameL, Bool.and_eq_true] at h; simp [ih r' h.2]
    exact h (key l m hs)
theorem equalFunc_of (S S' : Nat -> Prop) (a b : Option Addr) (c d : Nat) (l m : List Vl) (w : World) (h : Vals S w a l.length c l) (h' : Vals S' w b m.length d m)
    (ih : ∀ u ∈ l, ∀ (v : Vl) (W : World), Rd S W u -> Rd S' W v -> Calls Tryz.prog 43 #[u.val, v.val] W fun e W' => e = .returned (.bool (sameV u.er v.er)) /\ Below W.heap.size W W') :
    Calls Tryz.prog 123 #[.slice a l.length c, .slice b m.length d, .func (.func 43) #[] #[]] w fun e w' => e = .returned (.bool (sameL (l.map Vl.er) (m.map Vl.er))) /\ Below w.heap.size w w' := by
  have IH := hiq ih
  clear ih
  have hL := h.2.2.1
  have hL' := h'.2.2.1
  by_cases hlen : l.length = m.length
  · have hd : ((l.length : Int) != m.length) = false := by simp [hlen]
    have HLEN := hiq hlen
    have hE0 : Hid (sameL (l.map Vl.er) (m.map Vl.er) = sameL ((l.map Vl.er).drop 0) ((m.map Vl.er).drop 0)) := rfl
    generalize hM : m.length = ML at *
    have HM := hiq hM
    generalize hN : l.length = NL at *
    have HN := hiq hN
    clear hM hN hlen
    generalize sameL (l.map Vl.er) (m.map Vl.er) = R at *
    go_enter Tryz.func123, Tryz.ntmps123
    go_wp2
    go_loopw [17] (fun i wr => ∃ (j : Nat), i = .int .i64 j /\ j <= NL /\ Hid (R = sameL ((l.map Vl.er).drop j) ((m.map Vl.er).drop j)) /\ Below w.heap.size w wr) (fun i _ => NL - (intOf i).toNat)
    case atStart => exact ⟨0, rfl, Nat.zero_le _, hE0.out, Below.refl _ _⟩
    case round =>
      obtain ⟨j, rfl, hj, hx, hb⟩ := hrel
      by_cases hlj : j < NL
      · obtain ⟨u, bb, off, hu, hmem, rfl, -, hbl, ⟨c1, c2, c3, c4⟩, hru⟩ := (h.below hb).get hlj
        obtain ⟨v, bb', off', hv, -, rfl, -, hbl', ⟨d1, d2, d3, d4⟩, hrv⟩ := (h'.below hb).get (j := j) (by have := HLEN.out; omega)
        have hlj' : j < ML := by have := HLEN.out; omega
        have hst := sameL_take hu hv
        rw [<- hx.out] at hst
        have hb1 : Below wr.heap.size wr (wr.alloc (.cells u.cells 24)) := (Below.refl _ _).alloc (Nat.le_refl _) _
        have hb2 : Below wr.heap.size wr ((wr.alloc (.cells u.cells 24)).alloc (.cells v.cells 24)) := hb1.alloc hb1.size _
        have F := IH.out u hmem v ((wr.alloc (.cells u.cells 24)).alloc (.cells v.cells 24)) (hru.below hb2) (hrv.below hb2)
        have e1 := clq hb1 d1
        have e2 := clq hb1 d2
        have e3 := clq hb1 d3
        have e4 := clq hb1 d4
        generalize hG : sameV u.er v.er = G at *
        clear hG
        have HST := hiq hst
        obtain ⟨uk, un, ut, ua, uc, ul⟩ := u
        obtain ⟨vk, vn, vt, va, vc, vl⟩ := v
        dsimp only [Vl.val, Vl.cells, Vl.kind, Vl.num, Vl.text, Vl.sl, Vl.addr, Vl.items, Vl.cap] at c1 c2 c3 c4 d1 d2 d3 d4 e1 e2 e3 e4 F hb2
        have HF := hiq F
        clear F hst hx hru hrv hu hv hmem hb1
        cases G with
        | true =>
          have HST2 : Hid (R = sameL ((l.map Vl.er).drop (j + 1)) ((m.map Vl.er).drop (j + 1))) := by show _ = _; rw [HST.out]; rfl
          clear HST
          go_wp2_with (go_at_call 43; refine HF.out.mono ?_; rintro e w' ⟨rfl, hb'⟩)
          go_roundw
          case rel => exact ⟨j + 1, by go_num, by omega, HST2.out, hb.trans ((hb2.trans (hb'.mono hb2.size)).mono hb.size)⟩
          case measure => simp [intOf]; omega
        | false =>
          have HST2 : Hid (R = false) := by show _ = _; rw [HST.out]; rfl
          clear HST
          go_wp2_with (go_at_call 43; refine HF.out.mono ?_; rintro e w' ⟨rfl, hb'⟩)
          go_ret
          exact ⟨by rw [HST2.out]; rfl, hb.trans ((hb2.trans (hb'.mono hb2.size)).mono hb.size)⟩
      · obtain rfl : j = NL := by omega
        have HST2 : Hid (R = true) := by show _ = _; rw [hx.out]; exact sameL_end (by rw [HN.out]; exact Nat.le_refl _) (by rw [HM.out, HLEN.out]; exact Nat.le_refl _)
        go_wp2
        go_ret
        exact ⟨by rw [HST2.out]; rfl, hb⟩
  · have hd : ((l.length : Int) != m.length) = true := by simp; omega
    have HX : Hid (sameL (l.map Vl.er) (m.map Vl.er) = false) := sameL_len (by simpa using hlen)
    go_enter Tryz.func123, Tryz.ntmps123
    go_wp2
    go_ret
    exact ⟨by rw [HX.out]; rfl, Below.refl _ _⟩
end Go.Proofs.YtlbcmeebcfalpaaGreatDoor

namespace Go.Proofs.YtlbcmeebcfalpaaGreatDoor
open Go.RowKit
theorem same_any (S S' : Nat -> Prop) (a : Vl) : ∀ (b : Vl) (w : World), Rd S w a -> Rd S' w b ->
    Calls Tryz.prog 43 #[a.val, b.val] w fun e w' => e = .returned (.bool (sameV a.er b.er)) /\ Below w.heap.size w w' := by
  induction a using Vl.ind with
  | h a ih =>
    intro b w ha hb
    obtain ⟨k, nn, t, a, c, l⟩ := a
    obtain ⟨k', nn', t', a', c', l'⟩ := b
    change ∀ u ∈ l, _ at ih
    have hb1 : Below w.heap.size w (w.alloc (.cells #[.int .i64 k, .int .i64 nn, .string t, .slice a l.length c] 24)) := (Below.refl _ _).alloc (Nat.le_refl _) _
    have hb2 : Below w.heap.size w ((w.alloc (.cells #[.int .i64 k, .int .i64 nn, .string t, .slice a l.length c] 24)).alloc (.cells #[.int .i64 k', .int .i64 nn', .string t', .slice a' l'.length c'] 24)) := hb1.alloc hb1.size _
    have F := equalFunc_of S S' a a' c c' l l' _ ((ha.below hb2).vals) ((hb.below hb2).vals) ih
    have hE : Hid (sameV (Vl.mk k nn t a c l).er (Vl.mk k' nn' t' a' c' l').er = (decide (k = k') && (decide (nn = nn') && (decide (t = t') && sameL (l.map Vl.er) (l'.map Vl.er))))) := by
      show _ = _; rw [Vl.er, Vl.er, sameV, Vl.erL_map, Vl.erL_map]
    change Calls _ _ #[.agg #[.int .i64 k, .int .i64 nn, .string t, .slice a l.length c], .agg #[.int .i64 k', .int .i64 nn', .string t', .slice a' l'.length c']] _ _
    generalize sameV (Vl.mk k nn t a c l).er (Vl.mk k' nn' t' a' c' l').er = R at *
    generalize sameL (l.map Vl.er) (l'.map Vl.er) = Q at *
    have HF := hiq F
    clear F ih ha hb hb1
    by_cases h1 : k = k'
    · subst h1
      have d1 : ((k : Int) == k) = true := by simp
      by_cases h2 : nn = nn'
      · subst h2
        have d2 : ((nn : Int) == nn) = true := by simp
        by_cases h3 : t = t'
        · subst h3
          have HX : Hid (R = Q) := by show _ = _; rw [hE.out]; simp
          clear hE
          go_enter Tryz.func43, Tryz.ntmps43
          go_wp2_with (go_at_call 123; refine HF.out.mono ?_; rintro e W2 ⟨rfl, hb3⟩)
          go_ret
          exact ⟨by rw [HX.out]; rfl, hb2.trans (hb3.mono hb2.size)⟩
        · have HX : Hid (R = false) := by show _ = _; rw [hE.out]; simp [h3]
          clear hE HF
          have d3 : (t.toList == t'.toList) = false := by
            rw [beq_eq_false_iff_ne, ByteArray.toList_eq, ByteArray.toList_eq]
            intro h; apply h3; cases t; cases t'; simp at h; rw [ByteArray.mk.injEq]; exact h
          go_enter Tryz.func43, Tryz.ntmps43
          go_wp2
          go_ret
          exact ⟨by rw [HX.out]; rfl, hb2⟩
      · have HX : Hid (R = false) := by show _ = _; rw [hE.out]; simp [h2]
        have d2 : ((nn : Int) == nn') = false := by simp [h2]
        clear hE HF
        go_enter Tryz.func43, Tryz.ntmps43
        go_wp2
        go_ret
        exact ⟨by rw [HX.out]; rfl, hb2⟩
    · have HX : Hid (R = false) := by show _ = _; rw [hE.out]; simp [h1]
      have d1 : ((k : Int) == k') = false := by simp [h1]
      clear hE HF
      go_enter Tryz.func43, Tryz.ntmps43
      go_wp2
      go_ret
      exact ⟨by rw [HX.out]; rfl, hb2⟩
end Go.Proofs.YtlbcmeebcfalpaaGreatDoor
namespace Go.Proofs.YtlbcmeebcfalpaaGreatDoor

theorem leaf_sound {s r : List UInt8} {v : V} (h : scalP s = some (v, r)) : s = encV v ++ r := by
  cases s with
  | nil => cases h
  | cons c s =>
    rw [scalP] at h
    split at h
    · rename_i hc
      cases hn : numP 59 s with
      | none => rw [hn] at h; cases h
      | some p =>
        rw [hn] at h
        obtain ⟨n, r'⟩ := p
        cases h
        obtain ⟨_, rfl⟩ := (numP_iff 59 (by decide) _ _ _).1 hn
        subst hc
        rw [encV_leaf (v := .mk 1 n ⟨#[]⟩ []) (.inl rfl)]
        show _ = (105 :: (Lib.itoa n ++ [59])) ++ r'
        simp
    · split at h
      · rename_i hc
        cases hn : numP 58 s with
        | none => rw [hn] at h; cases h
        | some p =>
          rw [hn] at h
          obtain ⟨n, r'⟩ := p
          simp only [] at h
          split at h
          · cases h
          · rename_i hb
            cases h
            obtain ⟨_, rfl⟩ := (numP_iff 58 (by decide) _ _ _).1 hn
            subst hc
            rw [encV_leaf (v := .mk 2 0 ⟨(r'.take n.toNat).toArray⟩ []) (.inr rfl)]
            have hsz : (ByteArray.size ⟨(r'.take n.toNat).toArray⟩ : Int) = n := by
              show (((r'.take n.toNat).toArray.size : Nat) : Int) = n
              rw [List.size_toArray, List.length_take]; omega
            show _ = (115 :: (Lib.itoa (ByteArray.size ⟨(r'.take n.toNat).toArray⟩ : Int) ++ 58 :: (r'.take n.toNat))) ++ r'.drop n.toNat
            rw [hsz]
            simp
      · cases h
/-- What has been read, in a state. -/
def stk : List V -> List (List V) -> List UInt8
  | top, [] => encL top
  | top, b :: bs => stk b bs ++ 108 :: encL top
theorem stk_snoc (top : List V) (bs : List (List V)) (v : V) : stk (top ++ [v]) bs = stk top bs ++ encV v := by
  have e : encL [v] = encV v := by rw [encL, encL, List.append_nil]
  cases bs with
  | nil => rw [stk, stk, encL_append, e]
  | cons b bs => rw [stk, stk, encL_append, e]; simp
theorem leafStep_sound {top : List V} {below : List (List V)} {s : List UInt8} {y : List V × List (List V) × List UInt8} (h : leafStep top below s = .inr y) : stk top below ++ s = stk y.1 y.2.1 ++ y.2.2 := by
  unfold leafStep at h
  cases hp : scalP s with
  | none => rw [hp] at h; cases h
  | some p =>
    rw [hp] at h; cases h
    show _ = stk (top ++ [p.1]) below ++ p.2
    rw [stk_snoc, List.append_assoc, <- leaf_sound (v := p.1) (r := p.2) hp]
theorem decStep_sound {top : List V} {below : List (List V)} {s : List UInt8} {y : List V × List (List V) × List UInt8} (h : decStep top below s = .inr y) : stk top below ++ s = stk y.1 y.2.1 ++ y.2.2 := by
  unfold decStep at h
  split at h
  · cases h
  · exact leafStep_sound h
  · split at h
    · rename_i hc
      cases h
      subst hc
      show _ = stk [] (_ :: _) ++ _
      rw [stk, encL]; simp
    · split at h
      · rename_i hc
        split at h
        · exact leafStep_sound h
        · cases h
          subst hc
          show _ = stk (_ ++ [V.mk 3 0 ⟨#[]⟩ _]) _ ++ _
          rw [stk_snoc, encV_list (by simp [V.kind]), stk]
          simp [V.items]
      · exact leafStep_sound h
theorem decStep_end {top : List V} {below : List (List V)} {s : List UInt8} {x : V × List UInt8} (h : decStep top below s = .inl (some x)) : below = [] /\ top = [x.1] /\ x.2 = s := by
  have hl : ∀ (t : List V) (b : List (List V)) (s : List UInt8), leafStep t b s ≠ .inl (some x) := fun t b s e => by
    unfold leafStep at e
    cases hp : scalP s with
    | none => rw [hp] at e; cases e
    | some p => rw [hp] at e; cases e
  unfold decStep at h
  split at h
  · cases h; exact ⟨rfl, rfl, rfl⟩
  · exact absurd h (hl _ _ _)
  · split at h
    · cases h
    · split at h
      · split at h
        · exact absurd h (hl _ _ _)
        · cases h
      · exact absurd h (hl _ _ _)
theorem decS_sound : ∀ (f : Nat) (top : List V) (below : List (List V)) (s : List UInt8) (v : V) (r : List UInt8), decS f top below s = some (v, r) -> stk top below ++ s = encV v ++ r
  | 0, _, _, _, _, _, h => by cases h
  | f + 1, top, below, s, v, r, h => by
    rw [decS] at h
    cases hs : decStep top below s with
    | inl x =>
      rw [hs] at h
      simp only [] at h
      subst h
      obtain ⟨rfl, rfl, rfl⟩ := decStep_end hs
      rw [stk, encL, encL, List.append_nil]
    | inr y =>
      rw [hs] at h
      rw [decStep_sound hs]
      exact decS_sound f _ _ _ v r h
/-- What is decoded is the encoding of the result. -/
theorem decode_sound {s : List UInt8} {v : V} (h : decode s = (v, 0)) : encB v = s /\ encE v = 0 := by
  unfold decode at h
  split at h
  · cases h
  · rename_i hl
    cases hd : decR [] [] s with
    | none => rw [hd] at h; cases h
    | some p =>
      rw [hd] at h
      obtain ⟨v', r⟩ := p
      simp only [] at h
      split at h
      · rename_i hr
        subst hr
        split at h
        · rename_i hc
          cases h
          have e := decS_sound _ _ _ _ _ _ hd
          rw [stk, encL, List.nil_append, List.append_nil] at e
          rw [encB, encE, if_pos ⟨hc, by rw [<- e]; omega⟩, if_neg (by simpa using hc), if_neg (by rw [<- e]; exact hl)]
          exact ⟨e.symm, rfl⟩
        · cases h
      · cases h
theorem toArray_bytes (t : ByteArray) : (⟨t.data.toList.toArray⟩ : ByteArray) = t := by cases t; simp
theorem leaf_dec {v : V} (hs : singV v = 0) (hn : NumOk v) (hk : v.kind = 1 \/ v.kind = 2) (r : List UInt8) : scalP (leafV v ++ r) = some (v, r) := by
  obtain ⟨k, n, t, l⟩ := v
  obtain ⟨h1, h2, h3, h4, h5, h6⟩ := singV_ok hs
  simp only [V.kind, V.num, V.text, V.items] at h1 h2 h3 h4 h5 h6 hk
  have hi := hn.num
  simp only [V.num] at hi
  obtain rfl : l = [] := h4 (by omega)
  rcases hk with rfl | rfl
  · have ht : t = ⟨#[]⟩ := by
      have := h6 (by omega)
      obtain ⟨d⟩ := t
      have : d.size = 0 := this
      rw [Array.eq_empty_of_size_eq_zero this]
    subst ht
    show scalP (105 :: (Lib.itoa n ++ [59]) ++ r) = _
    rw [List.cons_append, scalP, if_pos rfl, (numP_iff 59 (by decide) _ r n).2 ⟨hi, by simp⟩]
    rfl
  · obtain rfl : n = 0 := h5 (by omega)
    show scalP (115 :: (Lib.itoa t.size ++ 58 :: t.data.toList) ++ r) = _
    have hl : t.data.toList.length = t.size := Array.length_toList
    rw [List.cons_append, scalP, if_neg (by decide), if_pos rfl, (numP_iff 58 (by decide) _ (t.data.toList ++ r) t.size).2 ⟨⟨by omega, by omega⟩, by simp⟩]
    simp only [List.length_append]
    rw [if_neg (by omega)]
    simp only [Int.toNat_natCast]
    rw [<- hl, List.take_left, List.drop_left, toArray_bytes]
theorem encV_head (v : V) : ∃ c r, leafV v = c :: r /\ (c = 105 \/ c = 115) := by
  unfold leafV
  split
  · exact ⟨_, _, rfl, .inl rfl⟩
  · exact ⟨_, _, rfl, .inr rfl⟩
theorem decStep_leaf' {top : List V} {below : List (List V)} {s : List UInt8} (h : ¬ (below = [] /\ top.length = 1)) (hs : ∀ c r, s = c :: r -> c ≠ 108 /\ c ≠ 101) : decStep top below s = leafStep top below s := by
  unfold decStep
  split
  · exact absurd ⟨rfl, rfl⟩ h
  · rfl
  · obtain ⟨h1, h2⟩ := hs _ _ rfl
    rw [if_neg h1, if_neg h2]
theorem decStep_list' {top b : List V} {bs : List (List V)} {r : List UInt8} : decStep top (b :: bs) (101 :: r) = .inr (b ++ [.mk 3 0 ⟨#[]⟩ top], bs, r) := by
  unfold decStep; simp
/-- Reading the encoding of a value lays it on the list on top. -/
theorem dec_enc (v : V) : ∀ (top : List V) (below : List (List V)) (r : List UInt8), allV v = 0 -> NumOk v -> ¬ (below = [] /\ top.length = 1) -> decR top below (encV v ++ r) = decR (top ++ [v]) below r := by
  induction v using V.ind with
  | h v ih =>
    intro top below r ha hn ht
    obtain ⟨hs, hi⟩ := allV_items ha
    by_cases hk : v.kind = 1 \/ v.kind = 2
    · rw [encV_leaf hk, decR_step, decStep_leaf' ht (fun c r' e => by
        obtain ⟨c0, r0, h0, h1⟩ := encV_head v
        rw [h0, List.cons_append] at e
        cases e
        rcases h1 with rfl | rfl <;> exact ⟨by decide, by decide⟩), leafStep, leaf_dec hs hn hk]
    · have h3 : v.kind = 3 := by have := (singV_ok hs).1; omega
      rw [encV_list hk, decR_step, List.cons_append]
      have e1 : decStep top below (108 :: (encL v.items ++ [101] ++ r)) = .inr ([], top :: below, encL v.items ++ [101] ++ r) := by
        unfold decStep
        split
        · exact absurd ⟨rfl, rfl⟩ ht
        · rename_i e; cases e
        · rename_i e; cases e; rw [if_pos rfl]
      rw [e1]
      simp only []
      have key : ∀ (l acc : List V) (r' : List UInt8), (∀ u ∈ l, u ∈ v.items) -> decR acc (top :: below) (encL l ++ r') = decR (acc ++ l) (top :: below) r' := by
        intro l
        induction l with
        | nil => intro acc r' _; rw [encL, List.nil_append, List.append_nil]
        | cons u l ihl =>
          intro acc r' hm
          have hu := hm u (by simp)
          rw [encL, List.append_assoc, ih u hu acc (top :: below) _ (hi u hu) (hn.items u hu) (fun e => by cases e.1), ihl _ _ (fun x hx => hm x (by simp [hx]))]
          simp
      rw [List.append_assoc, key v.items [] _ (fun u hu => hu), List.nil_append, decR_step]
      have e2 : decStep v.items (top :: below) ([101] ++ r) = .inr (top ++ [v], below, r) := by
        show decStep v.items (top :: below) (101 :: r) = _
        rw [decStep_list']
        obtain ⟨k, n, t, l⟩ := v
        obtain ⟨_, _, _, _, h5, h6⟩ := singV_ok hs
        simp only [V.kind, V.num, V.text] at h3 h5 h6
        subst h3
        obtain rfl := h5 (by omega)
        have ht : t = ⟨#[]⟩ := by
          have := h6 (by omega)
          obtain ⟨d⟩ := t
          have : d.size = 0 := this
          rw [Array.eq_empty_of_size_eq_zero this]
        subst ht
        rfl
      rw [e2]
theorem dec_one (v : V) (r : List UInt8) (ha : allV v = 0) (hn : NumOk v) : decR [] [] (encV v ++ r) = some (v, r) := by
  rw [dec_enc v [] [] r ha hn (by simp), List.nil_append, decR_step]
  rfl
theorem chkV_all {v : V} (h : chkV v = 0) : allV v = 0 := (chkV_good h).2
theorem decode_enc {v : V} (h : chkV v = 0) (hn : NumOk v) (hl : (encV v).length <= 1048576) : decode (encV v) = (v, 0) := by
  have := dec_one v [] (chkV_all h) hn
  rw [List.append_nil] at this
  unfold decode
  rw [if_neg (by omega), this]
  simp only []
  rw [if_pos trivial, if_pos h]
end Go.Proofs.YtlbcmeebcfalpaaGreatDoor
namespace Go.Proofs.YtlbcmeebcfalpaaGreatDoor
open Go.RowKit

theorem cnt_fold {n : Nat} : ∀ (l : List V) (s k : Nat), l.foldl (fun s u => s.bind fun size => (cntD n u).bind fun k => some (size + k)) (some s) = some k -> s + l.length <= k /\ ∀ u ∈ l, ∃ j, cntD n u = some j /\ j <= k
  | [], s, k, h => by cases h; exact ⟨by simp, fun u hu => by cases hu⟩
  | u :: l, s, k, h => by
    rw [List.foldl_cons] at h
    cases hc : cntD n u with
    | none => rw [hc] at h; simp only [Option.bind_some, Option.bind_none] at h; rw [foldl_none (fun size u => (cntD n u).bind fun k => some (size + k))] at h; cases h
    | some c =>
      rw [hc] at h
      have hp := cntD_pos n u c hc
      obtain ⟨h1, h2⟩ := cnt_fold l (s + c) k h
      refine ⟨by rw [List.length_cons]; omega, fun x hx => ?_⟩
      rcases List.mem_cons.1 hx with rfl | hx
      · exact ⟨c, hc, by omega⟩
      · exact h2 x hx
theorem cnt_items {n k : Nat} {l : List V} (h : cntD (n + 1) (.mk 3 0 ⟨#[]⟩ l) = some k) : l.length + 1 <= k /\ ∀ u ∈ l, ∃ j, cntD n u = some j /\ j <= k := by
  unfold cntD at h
  rw [if_pos (show (V.mk 3 0 ⟨#[]⟩ l).kind = 3 from rfl)] at h
  obtain ⟨h1, h2⟩ := cnt_fold l 1 k h
  exact ⟨by omega, h2⟩
theorem sm_cnt (d : Dv) : ∀ n k, cntD n d.toV = some k -> k <= 65536 -> Sm d := by
  induction d using Dv.ind with
  | hi n => intro n k _ _; rw [Sm]; exact trivial
  | hb b => intro n k _ _; rw [Sm]; exact trivial
  | ht t => intro n k _ _; rw [Sm]; exact trivial
  | hs l ih =>
    intro n k h hk
    rw [Dv.toV, Dv.toVL_map] at h
    cases n with
    | zero => cases h
    | succ n =>
      obtain ⟨h1, h2⟩ := cnt_items h
      refine sm_struc.2 fun d hd => ?_
      obtain ⟨j, hj, hjk⟩ := h2 d.toV (List.mem_map_of_mem hd)
      exact ih d hd n j hj (by omega)
  | hl k s a c l ih =>
    intro n k h hk
    rw [Dv.toV, Dv.toVL_map] at h
    cases n with
    | zero => cases h
    | succ n =>
      obtain ⟨h1, h2⟩ := cnt_items h
      rw [List.length_map] at h1
      refine sm_list.2 ⟨by omega, fun d hd => ?_⟩
      obtain ⟨j, hj, hjk⟩ := h2 d.toV (List.mem_map_of_mem hd)
      exact ih d hd n j hj (by omega)
theorem chkV_cnt {v : V} (h : chkV v = 0) : ∃ k, cntD 64 v = some k /\ k <= 65536 := by
  unfold chkV at h
  split at h
  · cases h
  · rename_i hn
    rw [measR_eq] at hn
    cases hc : cntD 64 v with
    | none => rw [hc] at hn; exact absurd rfl hn
    | some k =>
      rw [hc] at hn
      simp only at hn
      split at hn
      · exact ⟨k, rfl, by omega⟩
      · exact absurd rfl hn
/-- Data whose value is valid has short lists. -/
theorem sm_chk {d : Dv} (h : chkV d.toV = 0) : Sm d := by
  obtain ⟨k, h1, h2⟩ := chkV_cnt h
  exact sm_cnt d 64 k h1 h2
theorem encE_ok {x : V} (h : encE x = 0) : chkV x = 0 /\ (encV x).length <= 1048576 /\ encB x = encV x := by
  unfold encE at h
  split at h
  · rename_i hn; exact absurd h hn
  · rename_i hn
    have h0 : chkV x = 0 := Decidable.not_not.1 hn
    split at h
    · cases h
    · rename_i hl
      exact ⟨h0, by omega, if_pos ⟨h0, by omega⟩⟩
end Go.Proofs.YtlbcmeebcfalpaaGreatDoor
namespace Go.Proofs.YtlbcmeebcfalpaaGreatDoor
open Go.RowKit

mutual
/-- The value, without what its kind does not use. -/
def nrm : V -> V
  | .mk k n t l => if k = 1 then .mk 1 n ⟨#[]⟩ [] else if k = 2 then .mk 2 0 t [] else .mk 3 0 ⟨#[]⟩ (nrmL l)
def nrmL : List V -> List V
  | [] => []
  | v :: r => nrm v :: nrmL r
end
theorem nrmL_map : ∀ l : List V, nrmL l = l.map nrm
  | [] => rfl
  | v :: r => by rw [nrmL, nrmL_map r]; rfl
theorem nrm_int {v : V} (h : v.kind = 1) : nrm v = .mk 1 v.num ⟨#[]⟩ [] := by
  cases v with | mk k n t l => subst h; rfl
theorem nrm_text {v : V} (h : v.kind = 2) : nrm v = .mk 2 0 v.text [] := by
  cases v with | mk k n t l => subst h; rfl
theorem nrm_list {v : V} (h : v.kind = 3) : nrm v = .mk 3 0 ⟨#[]⟩ (v.items.map nrm) := by
  cases v with | mk k n t l => subst h; rw [nrm, nrmL_map]; rfl
theorem nrm_ok (v : V) : allV v = 0 -> nrm v = v := by
  induction v using V.ind with
  | h v ih =>
    intro h
    obtain ⟨hs, hi⟩ := allV_items h
    obtain ⟨hk, -, -, h3, h1, h2⟩ := singV_ok hs
    have ht : v.kind ≠ 2 -> v.text = ⟨#[]⟩ := fun e => by
      have := h2 e
      cases ht : v.text with | mk a => rw [ht] at this; congr; exact Array.eq_empty_of_size_eq_zero this
    rcases hk with hk | hk | hk
    · rw [nrm_int hk]
      conv => rhs; rw [V.eta v, hk, h3 (by omega), ht (by omega)]
    · rw [nrm_text hk]
      conv => rhs; rw [V.eta v, hk, h3 (by omega), h1 (by omega)]
    · rw [nrm_list hk, List.map_congr_left (fun u hu => ih u hu (hi u hu)), List.map_id']
      conv => rhs; rw [V.eta v, hk, h1 (by omega), ht (by omega)]
mutual
/-- It can be read as data of the type. -/
inductive Fit : Ty -> V -> Prop
  | int {v : V} : v.kind = 1 -> Fit .int v
  | bool {v : V} : v.kind = 1 -> (v.num = 0 \/ v.num = 1) -> Fit .bool v
  | text {v : V} : v.kind = 2 -> Fit .text v
  | struc {ts : List Ty} {v : V} : v.kind = 3 -> FitL ts v.items -> Fit (.struc ts) v
  | list {k s : Nat} {t : Ty} {v : V} : v.kind = 3 -> (∀ u ∈ v.items, Fit t u) -> Fit (.list k s t) v
  | node {v : V} : Fit nodeTy v -> Fit .node v
  | expr {v : V} : Fit exprTy v -> Fit .expr v
inductive FitL : List Ty -> List V -> Prop
  | nil : FitL [] []
  | cons {t : Ty} {ts : List Ty} {v : V} {l : List V} : Fit t v -> FitL ts l -> FitL (t :: ts) (v :: l)
end
theorem fit_int {v : V} : Fit .int v ↔ v.kind = 1 := ⟨fun h => by cases h; assumption, .int⟩
theorem fit_bool {v : V} : Fit .bool v ↔ v.kind = 1 /\ (v.num = 0 \/ v.num = 1) := ⟨fun h => by cases h; exact ⟨by assumption, by assumption⟩, fun h => .bool h.1 h.2⟩
theorem fit_text {v : V} : Fit .text v ↔ v.kind = 2 := ⟨fun h => by cases h; assumption, .text⟩
theorem fit_struc {ts : List Ty} {v : V} : Fit (.struc ts) v ↔ v.kind = 3 /\ FitL ts v.items := ⟨fun h => by cases h; exact ⟨by assumption, by assumption⟩, fun h => .struc h.1 h.2⟩
theorem fit_list {k s : Nat} {t : Ty} {v : V} : Fit (.list k s t) v ↔ v.kind = 3 /\ ∀ u ∈ v.items, Fit t u := ⟨fun h => by cases h; exact ⟨by assumption, by assumption⟩, fun h => .list h.1 h.2⟩
theorem fit_node {v : V} : Fit .node v ↔ Fit nodeTy v := ⟨fun h => by cases h; assumption, .node⟩
theorem fit_expr {v : V} : Fit .expr v ↔ Fit exprTy v := ⟨fun h => by cases h; assumption, .expr⟩
theorem fitL_nil {l : List V} : FitL [] l ↔ l = [] := ⟨fun h => by cases h; rfl, fun h => by subst h; exact .nil⟩
theorem fitL_cons {t : Ty} {ts : List Ty} {v : V} {l : List V} : FitL (t :: ts) (v :: l) ↔ Fit t v /\ FitL ts l := ⟨fun h => by cases h; exact ⟨by assumption, by assumption⟩, fun h => .cons h.1 h.2⟩
theorem fitL_len : ∀ {ts : List Ty} {l : List V}, FitL ts l -> l.length = ts.length
  | [], _, h => by cases h; rfl
  | t :: ts, _, h => by cases h with | cons _ h => simp [fitL_len h]
theorem fitL_iff : ∀ {ts : List Ty} {l : List V}, FitL ts l ↔ l.length = ts.length /\ ∀ (i : Nat) (t : Ty) (v : V), ts[i]? = some t -> l[i]? = some v -> Fit t v
  | [], l => by rw [fitL_nil]; simp
  | t :: ts, [] => ⟨fun h => (by cases h), fun h => by simp at h⟩
  | t :: ts, v :: l => by
    rw [fitL_cons, fitL_iff]
    constructor
    · rintro ⟨h1, h2, h3⟩
      refine ⟨by simp [h2], fun i t' v' ht hv => ?_⟩
      cases i with
      | zero => simp at ht hv; subst ht; subst hv; exact h1
      | succ i => exact h3 i t' v' (by simpa using ht) (by simpa using hv)
    · rintro ⟨h1, h2⟩
      exact ⟨h2 0 t v rfl rfl, by simpa using h1, fun i t' v' ht hv => h2 (i + 1) t' v' (by simpa using ht) (by simpa using hv)⟩
/-- Data written down is read again. -/
theorem has_fit (d : Dv) : (∀ T, Has T d -> Fit T d.toV) /\ (∀ l, d = .struc l -> ∀ ts, HasL ts l -> FitL ts (Dv.toVL l)) := by
  have key : ∀ (T : Ty) (d : Dv), Has T d -> (∀ l, d = .struc l -> ∀ ts, HasL ts l -> FitL ts (Dv.toVL l)) -> (∀ k s a c l, d = .list k s a c l -> ∀ x ∈ l, ∀ T, Has T x -> Fit T x.toV) -> Fit T d.toV := by
    intro T d h h1 h2
    cases h with
    | int n => exact .int rfl
    | bool b => exact .bool rfl (by cases b <;> simp [Dv.toV, V.num])
    | text t => exact .text rfl
    | struc h => exact .struc rfl (by rw [Dv.toV]; exact h1 _ rfl _ h)
    | list h => exact .list rfl (by
        rw [Dv.toV, Dv.toVL_map]
        intro u hu
        obtain ⟨x, hx, rfl⟩ := List.mem_map.1 hu
        exact h2 _ _ _ _ _ rfl x hx _ (h x hx))
    | node h => cases h with | struc h => exact .node (.struc rfl (by rw [Dv.toV]; exact h1 _ rfl _ h))
    | expr h => cases h with | struc h => exact .expr (.struc rfl (by rw [Dv.toV]; exact h1 _ rfl _ h))
  have keyL : ∀ (l : List Dv), (∀ d ∈ l, ∀ T, Has T d -> Fit T d.toV) -> ∀ ts, HasL ts l -> FitL ts (Dv.toVL l) := by
    intro l
    induction l with
    | nil => intro _ ts h; cases h; exact .nil
    | cons d l ih =>
      intro hd ts h
      cases h with
      | cons h1 h2 => exact .cons (hd d (List.mem_cons_self ..) _ h1) (ih (fun d hd' => hd d (List.mem_cons_of_mem _ hd')) _ h2)
  induction d using Dv.ind with
  | hi n => exact ⟨fun T h => key T _ h (fun l e => by cases e) (fun k s a c l e => by cases e), fun l e => by cases e⟩
  | hb b => exact ⟨fun T h => key T _ h (fun l e => by cases e) (fun k s a c l e => by cases e), fun l e => by cases e⟩
  | ht t => exact ⟨fun T h => key T _ h (fun l e => by cases e) (fun k s a c l e => by cases e), fun l e => by cases e⟩
  | hs L ih =>
    have h0 : ∀ l, Dv.struc L = .struc l -> ∀ ts, HasL ts l -> FitL ts (Dv.toVL l) := fun l e ts h => by
      cases e
      exact keyL L (fun d hd => (ih d hd).1) ts h
    exact ⟨fun T h => key T _ h h0 (fun k s a c l e => by cases e), h0⟩
  | hl k s a c L ih =>
    exact ⟨fun T h => key T _ h (fun l e => by cases e) (fun k s a c l e x hx T hT => by cases e; exact (ih x hx).1 T hT), fun l e => by cases e⟩
theorem fit_toV {T : Ty} {d : Dv} (h : Has T d) : Fit T d.toV := (has_fit d).1 T h
end Go.Proofs.YtlbcmeebcfalpaaGreatDoor
namespace Go.Proofs.YtlbcmeebcfalpaaGreatDoor
open Go.RowKit

theorem Tryz.infoVal : (Tryz.prog.info? 24).map (fun i => (i.zero, i.size, i.bytes)) = some (some (.agg #[.int .i64 0, .int .i64 0, .string ⟨#[]⟩, .slice none 0 0]), 4, 56) := by kernel_rfl
/-- The cells of values, one behind the other. -/
def flat (l : List Vl) : List Value := l.flatMap fun v => v.cells.toList
theorem flat_cons (v : Vl) (l : List Vl) : flat (v :: l) = v.cells.toList ++ flat l := rfl
theorem flat_append (l m : List Vl) : flat (l ++ m) = flat l ++ flat m := by simp [flat]
theorem flat_length : ∀ l : List Vl, (flat l).length = l.length * 4
  | [] => rfl
  | v :: l => by rw [flat_cons, List.length_append, flat_length l, List.length_cons]; show 4 + _ = _; omega
theorem flat_at : ∀ (l : List Vl) (j i : Nat) (v : Vl), l[j]? = some v -> i < 4 -> (flat l)[j * 4 + i]? = v.cells[i]?
  | [], j, i, v, h, _ => by cases h
  | u :: l, 0, i, v, h, hi => by
    simp at h; subst h
    rw [flat_cons, Nat.zero_mul, Nat.zero_add, List.getElem?_append_left (by show i < 4; exact hi)]
    simp
  | u :: l, j + 1, i, v, h, hi => by
    rw [flat_cons, List.getElem?_append_right (by show 4 <= _; omega)]
    have := flat_at l j i v (by simpa using h) hi
    rw [show (j + 1) * 4 + i - u.cells.toList.length = j * 4 + i by show (j + 1) * 4 + i - 4 = _; omega]
    exact this
theorem flat_one : ∀ l : List Vl, ∀ x ∈ flat l, x.oneCell' = true
  | [], x, h => by cases h
  | v :: l, x, h => by
    rw [flat_cons] at h
    rcases List.mem_append.1 h with h | h
    · simp [Vl.cells, Vl.sl] at h
      rcases h with rfl | rfl | rfl | rfl <;> rfl
    · exact flat_one l x h
/-- The slice value is the call's own (from block B on), and reads as l. -/
def OwnV (S : Nat -> Prop) (w : World) (B : Nat) (a : Option Addr) (n cap : Nat) (l : List Vl) : Prop :=
  n = l.length /\ w.ownsRow B 24 4 (.slice a n cap) n (flat l) /\ ∀ u ∈ l, Rd S w u
namespace OwnV
variable {S S' : Nat -> Prop} {w w' : World} {B : Nat} {a : Option Addr} {n cap : Nat} {l : List Vl}
theorem nil (S : Nat -> Prop) (w : World) (B : Nat) : OwnV S w B none 0 0 [] := ⟨rfl, World.ownsRow_nil _ _ _ _, by simp⟩
theorem len (h : OwnV S w B a n cap l) : n = l.length := h.1
theorem cap_le (h : OwnV S w B a n cap l) : n <= cap := by
  rcases h.2.1.2 with ⟨hv, h0⟩ | ⟨g, cap', cur, hv, _, _, hc, _⟩
  · omega
  · cases hv; exact hc
theorem lt (h : OwnV S w B a n cap l) : ∀ q, (Value.slice a n cap).ownBlock = some q -> B <= q /\ q < w.heap.size := h.2.1.lt
theorem vals (h : OwnV S w B a n cap l) (hn : n * 56 <= 140737488355328) (hS : ∀ b, S b -> S' b) (ha : ∀ x, a = some x -> S' x.block) : Vals S' w a n cap l := by
  refine ⟨h.1, h.cap_le, hn, fun j v hj => ⟨?_, (h.2.2 v (List.mem_of_getElem? hj)).mono (fun b hb _ => hS b hb)⟩⟩
  have hjl : j < l.length := (List.getElem?_eq_some_iff.1 hj).1
  have hn' := h.1
  rcases h.2.1.2 with ⟨_, h0⟩ | ⟨g, cap', cur, hv, hB, hg, hc, hm, hs, ht⟩
  · omega
  · cases hv
    refine ⟨g, 0, rfl, ha _ rfl, ?_⟩
    have key : ∀ i, i < 4 -> w.cell? ⟨g, 0 + j * 4 + i, none⟩ = v.cells[i]? := fun i hi => by
      rw [cell_row hg, Nat.zero_add, <- flat_at l j i v hj hi, <- ht, List.getElem?_take, if_pos (by omega)]
      simp
    exact ⟨key 0 (by omega), key 1 (by omega), key 2 (by omega), key 3 (by omega)⟩
theorem below (h : OwnV S w B a n cap l) (hb : Below w.heap.size w w') : OwnV S w' B a n cap l := ⟨h.1, ownsRow_below h.2.1 hb, fun u hu => (h.2.2 u hu).below hb⟩
theorem mono {B' : Nat} (h : OwnV S w B a n cap l) (hB : B' <= B) : OwnV S w B' a n cap l := by
  refine ⟨h.1, ⟨h.2.1.1, ?_⟩, h.2.2⟩
  rcases h.2.1.2 with h0 | ⟨g, cap', cur, hv, hb, hrest⟩
  · exact .inl h0
  · exact .inr ⟨g, cap', cur, hv, Nat.le_trans hB hb, hrest⟩
theorem monoS (h : OwnV S w B a n cap l) (hS : ∀ b, S b -> b < w.heap.size -> S' b) : OwnV S' w B a n cap l := ⟨h.1, h.2.1, fun u hu => (h.2.2 u hu).mono hS⟩
end OwnV
theorem vals_news {S : Nat -> Prop} {w : World} {b off n c : Nat} {l : List Vl} (h : Vals S w (some ⟨b, off, none⟩) n c l) : ∀ j u, (flat l)[j]? = some u -> w.cell? ((⟨b, off, none⟩ : Addr).add j) = some u := by
  intro j u hj
  have hjl : j < l.length * 4 := by rw [<- flat_length]; exact (List.getElem?_eq_some_iff.1 hj).1
  obtain ⟨v, hv⟩ : ∃ v, l[j / 4]? = some v := ⟨_, List.getElem?_eq_getElem (by omega)⟩
  obtain ⟨⟨b', off', e, _, c1, c2, c3, c4⟩, _⟩ := h.2.2.2 _ _ hv
  cases e
  have := flat_at l (j / 4) (j % 4) v hv (Nat.mod_lt _ (by omega))
  rw [show j / 4 * 4 + j % 4 = j by omega, hj] at this
  rw [Addr.add_lit]
  rcases (show j % 4 = 0 \/ j % 4 = 1 \/ j % 4 = 2 \/ j % 4 = 3 by omega) with e | e | e | e <;> rw [e] at this
  · rw [show off + j = off + j / 4 * 4 by omega, c1, this]; rfl
  · rw [show off + j = off + j / 4 * 4 + 1 by omega, c2, this]; rfl
  · rw [show off + j = off + j / 4 * 4 + 2 by omega, c3, this]; rfl
  · rw [show off + j = off + j / 4 * 4 + 3 by omega, c4, this]; rfl

section
variable {ops : Array Oper} {rest : List Oper} {o : Oper} {act : Act} {Q : Exit -> Act -> World -> Prop} {w w0 : World} {B : Nat} {a b : Option Addr} {n cap m c : Nat} {l s : List Vl} {S : Nat -> Prop}
/-- append(x, y...): y is read. -/
theorem wpList_appVals (hgd : o.guard = none) (os ox : Operand) (ho : o.op = .call { callee := .builtin .append, args := #[os, ox], argTypes := #[22, 22] })
    (hs : act.eval os = .slice a n cap) (hx : act.eval ox = .slice b m c) (hown : OwnV S w B a n cap l) (hy : Vals S w b m c s) (hb0 : b = none -> m = 0 /\ c = 0) (hnm : (n + m) * 56 <= 140737488355328) (hB : B <= w.heap.size) (hb : Below B w0 w) (hSo : ∀ q, (Value.slice a n cap).ownBlock = some q -> ¬ S q)
    (h : ∀ a' c' w', OwnV S w' B a' (n + m) c' (l ++ s) -> Below B w0 w' -> w.grownBy w' (Value.slice a n cap).ownBlock -> ((Value.slice a' (n + m) c').ownBlock = (Value.slice a n cap).ownBlock \/ (Value.slice a' (n + m) c').ownBlock = some w.heap.size) -> wpList Tryz.prog ops Q rest (act.put o.dst (.slice a' (n + m) c')) w') :
    wpList Tryz.prog ops Q (o :: rest) act w := by
  obtain ⟨i0, hi, hz0, hz1, hz2⟩ := info_parts Tryz.infoVal
  have hm := hy.1
  have hl := hown.1
  have hlt := hown.lt
  cases b with
  | none =>
    obtain ⟨rfl, rfl⟩ := hb0 rfl
    obtain rfl : s = [] := List.eq_nil_of_length_eq_zero hm.symm
    refine wpList_append_own_none hgd os ox 22 ho B 24 i0 4 Tryz.underlying22 hi _ _ _ hs hown.2.1 hx ?_
    exact h a cap w (by simpa using hown) hb ⟨rfl, rfl, rfl, Nat.le_refl _, fun _ _ _ => rfl⟩ (.inl rfl)
  | some ad =>
    have hnews : ∀ j u, (flat s)[j]? = some u -> w.cell? (ad.add j) = some u := by
      intro j u hj
      have hs0 : 0 < s.length := by
        rcases Nat.eq_zero_or_pos s.length with e | e
        · rw [List.eq_nil_of_length_eq_zero e] at hj; cases hj
        · exact e
      obtain ⟨_, b', off', _, _, e, _⟩ := hy.get (j := 0) (by omega)
      cases e
      exact vals_news hy j u hj
    refine wpList_append_own_at _ hgd os ox 22 ho B 24 i0 (.agg #[.int .i64 0, .int .i64 0, .string ⟨#[]⟩, .slice none 0 0]) 4 56 Tryz.underlying22 hi hz0 hz1 hz2 rfl (by decide) _ _ _ hs hown.2.1 ad m c (flat s) hx (by rw [flat_length, hm])
      hnews (flat_one s) (by unfold maxLen; omega) hnm hB ?_
    intro v' w' h1 h2 _ h4
    obtain ⟨a', c', rfl⟩ : ∃ a' c', v' = .slice a' (n + m) c' := by
      rcases h1.2 with ⟨rfl, h0⟩ | ⟨g, cap', cur, rfl, _⟩
      · exact ⟨none, 0, by rw [h0]⟩
      · exact ⟨_, _, rfl⟩
    have hk : KeepS S w w' := .grown h2 hSo
    refine h a' c' w' ⟨by rw [List.length_append]; omega, by rw [flat_append]; exact h1, fun u hu => ?_⟩ (hb.grown h2 hB (fun j hj => (hlt j hj).1)) h2 h4
    rcases List.mem_append.1 hu with hu | hu
    · exact (hown.2.2 u hu).keep hk
    · obtain ⟨j, hj⟩ := List.mem_iff_getElem?.1 hu
      exact (hy.2.2.2 j u hj).2.keep hk
end
end Go.Proofs.YtlbcmeebcfalpaaGreatDoor
