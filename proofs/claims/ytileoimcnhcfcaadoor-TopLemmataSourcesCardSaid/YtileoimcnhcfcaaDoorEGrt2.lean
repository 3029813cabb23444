/- collation.Find; slices.Index. -/
import Derived.Test.YtileoimcnhcfcaaDoorECk2
import Derived.Laws.EntriesVeiled
set_option linter.unusedVariables false
set_option linter.unusedSimpArgs false
namespace Go.Proofs.YtileoimcnhcfcaaDoor
open Go.RowKit

/-- The number that stands for what was found. -/
def numO : Option Nat → Int | some k => (k : Int) | none => -1
theorem idx_first (l : List ByteArray) (s : ByteArray) : Lib.idxOfS l s = numO (firstFrom (fun k => decide (l[k]?.getD ⟨#[]⟩ = s)) l.length 0) := by
  unfold Lib.idxOfS
  cases e : firstFrom (fun k => decide (l[k]?.getD ⟨#[]⟩ = s)) l.length 0 with
  | some k =>
    obtain ⟨_, h2, h3, h4⟩ := firstFrom_some.1 e
    simp only [decide_eq_true_eq, decide_eq_false_iff_not] at h3 h4
    have := Lib.idxFromS_hit s l k 0 h2 (by rw [List.getD_eq_getElem?_getD]; exact h3) (fun j hj => by
      rw [List.getD_eq_getElem?_getD]; exact h4 j (Nat.zero_le _) hj)
    rw [this, Nat.zero_add]; rfl
  | none =>
    have h := firstFrom_none.1 e
    simp only [decide_eq_false_iff_not] at h
    exact Lib.idxFromS_miss s l 0 fun j hj => by rw [List.getD_eq_getElem?_getD]; exact h j (Nat.zero_le _) hj
theorem index_any (S : Nat → Prop) (a : Option Addr) (n c : Nat) (x : Col) (s : ByteArray) (w : World) (h : Strs S w a n c x.sigla) :
    Calls Tryd.prog 35 #[.slice a n c, .string s] w fun e w' => e = .returned (.int .i64 (numO (x.src s))) ∧ w = w' := by
  have hz : Lib.idxOfS x.sigla s = numO (x.src s) := idx_first _ _
  by_cases h0 : n = 0
  · have hl : x.sigla = [] := List.eq_nil_of_length_eq_zero (by rw [← h.len]; exact h0)
    subst h0
    rw [← hz, hl]
    refine (Tryd.slices_Index_string_empty a c s w).mono ?_
    rintro e w' ⟨rfl, rfl⟩
    exact ⟨rfl, rfl⟩
  · obtain ⟨b, off, rfl, -, -, hc⟩ := h.strs (by omega)
    have hb := h.bound
    refine (Tryd.slices_Index_string b off n c x.sigla s w (by rw [← h.len]; exact Nat.le_refl _) (by omega) hc.out).mono ?_
    rintro e w' ⟨rfl, rfl⟩
    rw [List.take_of_length_le (by rw [← h.len]; exact Nat.le_refl _), hz]
    exact ⟨rfl, rfl⟩
end Go.Proofs.YtileoimcnhcfcaaDoor

/- collation.Find. -/
namespace Go.Proofs.YtileoimcnhcfcaaDoor
open Go.RowKit

/-- What Find returns. -/
def findN (x : Col) (s : Nat) (t : Int) : Int := if t < 0 ∨ ((x.tks s).length : Int) ≤ t then 0 else numO (x.at_ s t)
def findE (x : Col) (s : Nat) (t : Int) : Int := if t < 0 ∨ ((x.tks s).length : Int) ≤ t then 2 else 0
end Go.Proofs.YtileoimcnhcfcaaDoor

/- editop.kinds. -/
namespace Go.Proofs.YtileoimcnhcfcaaDoor
open Go.RowKit

end Go.Proofs.YtileoimcnhcfcaaDoor

/- The reference: the number of a siglum, the column of a token. -/
namespace Go.Proofs.YtileoimcnhcfcaaDoor
open Go.RowKit

/-- One box. -/
theorem box1 (w : World) (C : Array Value) (tc : TypeId) : Below w.heap.size w (w.alloc (.cells C tc)) ∧ (∀ (i : Nat) (u : Value), C[i]? = some u → (w.alloc (.cells C tc)).cell? ⟨w.heap.size, i, none⟩ = some u) :=
  ⟨(Below.refl _ w).alloc (Nat.le_refl _) _, fun i u h => by rw [World.cell?_alloc_at _ _ _ _ rfl]; exact h⟩
end Go.Proofs.YtileoimcnhcfcaaDoor

/- No token in a column; too great operations and names. -/
namespace Go.Proofs.YtileoimcnhcfcaaDoor
open Go.RowKit

def emptyR (l : List Int) : Bool := l.all fun u => decide (u < 0)
def greatOp (o : Op) : Bool := decide (70 < o.sig.size) || decide (70 < o.text.size)
def greatNames (s : ByteArray) (l : List ByteArray) : Bool := (l.any fun u => decide (20 < u.size)) || decide (20 < s.size)
theorem all_drop {α : Type} {p : α → Bool} {l : List α} {k : Nat} {u : α} (h : l[k]? = some u) : (l.drop k).all p = (p u && (l.drop (k + 1)).all p) := by
  obtain ⟨hl, e⟩ := List.getElem?_eq_some_iff.1 h
  rw [List.drop_eq_getElem_cons hl, e, List.all_cons]
theorem any_drop {α : Type} {p : α → Bool} {l : List α} {k : Nat} {u : α} (h : l[k]? = some u) : (l.drop k).any p = (p u || (l.drop (k + 1)).any p) := by
  obtain ⟨hl, e⟩ := List.getElem?_eq_some_iff.1 h
  rw [List.drop_eq_getElem_cons hl, e, List.any_cons]
theorem greatNames_ref (S : Nat → Prop) (a : Option Addr) (n c : Nat) (s : ByteArray) (l : List ByteArray) (w : World) (h : Strs S w a n c l) : Calls Tryd.prog 12 #[.string s, .slice a n c] w fun e w' => e = .returned (.bool (greatNames s l)) ∧ w = w' := by
  have HN := Lib.hid h.len
  have hb := h.bound
  have hE : Hid (greatNames s l = (((l.drop 0).any fun u => decide (20 < u.size)) || decide (20 < s.size))) := rfl
  generalize greatNames s l = R at *
  go_enter Tryd.func12, Tryd.ntmps12
  go_wp2
  go_loop [5] (fun i => ∃ k : Nat, i = .int .i64 k ∧ k ≤ n ∧ Hid (R = (((l.drop k).any fun u => decide (20 < u.size)) || decide (20 < s.size)))) (fun i => n - (intOf i).toNat)
  case atStart => exact ⟨0, rfl, Nat.zero_le _, hE.out⟩
  case round =>
    obtain ⟨k, rfl, hk, hx⟩ := hrel
    by_cases hkl : k < n
    · obtain ⟨u, b, off, hu, -, ea, -, -, hI, c1⟩ := h.str hkl
      subst ea
      have hst := hx.out
      rw [any_drop hu] at hst
      have HST := Lib.hid hst
      clear hx hu hst
      by_cases h0 : 20 < u.size
      · have HR : Hid (R = true) := by show _ = _; rw [HST.out, decide_eq_true h0]; rfl
        go_wp2
        go_ret
        exact ⟨ret_bool HR.out.symm, rfl⟩
      · have HN2 : Hid (R = (((l.drop (k + 1)).any fun u => decide (20 < u.size)) || decide (20 < s.size))) := by show _ = _; rw [HST.out, decide_eq_false h0]; rfl
        go_wp2
        go_round
        case rel => exact ⟨k + 1, by go_num, by omega, HN2.out⟩
        case measure => simp [intOf]; omega
    · have HR : Hid (R = decide (20 < s.size)) := by show _ = _; rw [hx.out, List.drop_of_length_le (by rw [← HN.out]; omega)]; rfl
      clear hx
      go_wp2
      go_ret
      exact ⟨ret_bool (by rw [HR.out, Bool.eq_iff_iff]; simp; try omega), rfl⟩
end Go.Proofs.YtileoimcnhcfcaaDoor

/- Too great tokens (printed by gen_egrt2.py). -/
namespace Go.Proofs.YtileoimcnhcfcaaDoor
open Go.RowKit

def tokGreat (t : Tok) : Bool := decide (12 < t.text.size) || decide (12 < t.norm.size) || decide (20 < t.page.size) || decide (20 < t.name.size)
def greatGo (L : Nat) : Nat → Nat → List (List Tok) → Bool
  | _, n, [] => decide (400 < n) || ((decide (6 < L) && decide (L ≤ 32)) || decide (34 < L))
  | i, n, r :: rs => (decide (6 < r.length) || (decide (4 ≤ i) && decide (1 < r.length))) || (r.any tokGreat || greatGo L (i + 1) (if i < 4 then n * (r.length + 1) else n) rs)
def greatToks (l : List (List Tok)) : Bool := greatGo l.length 0 1 l
theorem greatGo_step {L k n : Nat} {l : List (List Tok)} {r : List Tok} (h : l[k]? = some r) : greatGo L k n (l.drop k) = ((decide (6 < r.length) || (decide (4 ≤ k) && decide (1 < r.length))) || (r.any tokGreat || greatGo L (k + 1) (if k < 4 then n * (r.length + 1) else n) (l.drop (k + 1)))) := by
  obtain ⟨hl, e⟩ := List.getElem?_eq_some_iff.1 h
  rw [List.drop_eq_getElem_cons hl, e]; rfl
def okN (k m : Nat) : Prop := m ≤ 7 ^ (min k 4)
theorem okN_le {k m : Nat} (h : okN k m) : m ≤ 2401 := by
  have : (7 : Nat) ^ (min k 4) ≤ 7 ^ 4 := Nat.pow_le_pow_right (by decide) (Nat.min_le_right _ _)
  unfold okN at h
  omega
theorem okN_step {k m r : Nat} (h : okN k m) (hr : r ≤ 6) (hk : k < 4) : okN (k + 1) (m * (r + 1)) := by
  unfold okN at h ⊢
  rw [show min (k + 1) 4 = min k 4 + 1 by omega, Nat.pow_succ]
  exact Nat.mul_le_mul h (by omega)
theorem okN_stay {k m : Nat} (h : okN k m) (hk : 4 ≤ k) : okN (k + 1) m := by
  unfold okN at h ⊢
  rw [show min (k + 1) 4 = min k 4 by omega]; exact h
set_option maxRecDepth 100000 in
set_option maxHeartbeats 16000000 in
theorem greatToks_ref (S : Nat → Prop) (a : Option Addr) (n c : Nat) (l : List (List Tok)) (w : World) (h : Tokss S w a n c l) : Calls Tryd.prog 11 #[.slice a n c] w fun e w' => e = .returned (.bool (greatToks l)) ∧ Below w.heap.size w w' := by
  have HN := Lib.hid h.len
  have hbn := h.bound
  have hE : Hid (greatToks l = greatGo n 0 1 (l.drop 0)) := by show _ = _; rw [h.len]; rfl
  have hb0 := Below.refl w.heap.size w
  generalize greatToks l = R at *
  go_enter Tryd.func11, Tryd.ntmps11
  go_wp2
  go_loopw [3, 4] (fun nv iv wr => ∃ k m : Nat, nv = .int .i64 m ∧ iv = .int .i64 k ∧ k ≤ n ∧ Hid (okN k m) ∧ m ≤ 2401 ∧ Hid (R = greatGo n k m (l.drop k)) ∧ Below w.heap.size w wr) (fun _ iv _ => n - (intOf iv).toNat)
  case atStart => exact ⟨0, 1, rfl, rfl, Nat.zero_le _, by unfold Hid okN; decide, by omega, hE.out, hb0⟩
  case round =>
    clear hE hb0
    obtain ⟨k, m, rfl, rfl, hk, hok, hm, hx, hb⟩ := hrel
    by_cases hkl : k < n
    · obtain ⟨r, b, off, a', n', c', hu, -, rfl, -, hbl, hr, c1w⟩ := h.row hkl
      have c1 := cell_later hb c1w
      have hst := greatGo_step (L := n) (n := m) hu
      rw [← hx.out, ← hr.len] at hst
      have HST := Lib.hid hst
      have hrb := hr.bound
      have HRN := Lib.hid hr.len
      clear hx hu hst
      by_cases g1 : 6 < n'
      · have HR : Hid (R = true) := by show _ = _; rw [HST.out]; simp [g1]
        clear HST
        go_wp2
        go_ret
        exact ⟨ret_bool HR.out.symm, hb⟩
      · by_cases g2 : 4 ≤ k
        · by_cases g3 : 1 < n'
          · have HR : Hid (R = true) := by show _ = _; rw [HST.out]; simp [g2, g3]
            clear HST
            go_wp2
            go_ret
            exact ⟨ret_bool HR.out.symm, hb⟩
          · have HR : Hid (R = ((r.drop 0).any tokGreat || greatGo n (k + 1) m (l.drop (k + 1)))) := by show _ = _; rw [HST.out, if_neg (by omega), decide_eq_false g1, decide_eq_false g3, Bool.and_false]; rfl
            have HOK : Hid (okN (k + 1) m) := okN_stay hok.out g2
            clear HST
            go_wp2
            go_loopw [5] (fun i wr => ∃ q : Nat, i = .int .i64 q ∧ q ≤ n' ∧ Below w.heap.size w wr ∧ Hid (R = ((r.drop q).any tokGreat || greatGo n (k + 1) m (l.drop (k + 1))))) (fun i _ => n' - (intOf i).toNat)
            case atStart => exact ⟨0, rfl, Nat.zero_le _, hb, HR.out⟩
            case round =>
              clear HR hb c1
              obtain ⟨q, rfl, hq, hb, hx⟩ := hrel
              have c1 := cell_later hb c1w
              by_cases hqk : q < n'
              · obtain ⟨t, b2, off2, hu2, -, ea, -, -, -, c20, c21, c22, c23, c24, c25⟩ := (hr.below rTok_ok hb).tok hqk
                subst ea
                have hst := hx.out
                rw [any_drop hu2] at hst
                have HST := Lib.hid hst
                obtain ⟨tx, nm, pg, ln, fl, na⟩ := t
                dsimp only at c20 c21 c22 c23 c24 c25
                clear hx hu2 hst
                have hba := fun o => hb.alloc hb.size o
                by_cases p1 : 12 < tx.size
                · have HR : Hid (R = true) := by show _ = _; rw [HST.out]; simp [tokGreat, p1]
                  clear HST
                  go_wp2
                  go_ret
                  exact ⟨ret_bool HR.out.symm, hba _⟩
                by_cases p2 : 12 < nm.size
                · have HR : Hid (R = true) := by show _ = _; rw [HST.out]; simp [tokGreat, p2]
                  clear HST
                  go_wp2
                  go_ret
                  exact ⟨ret_bool HR.out.symm, hba _⟩
                by_cases p3 : 20 < pg.size
                · have HR : Hid (R = true) := by show _ = _; rw [HST.out]; simp [tokGreat, p3]
                  clear HST
                  go_wp2
                  go_ret
                  exact ⟨ret_bool HR.out.symm, hba _⟩
                by_cases p4 : 20 < na.size
                · have HR : Hid (R = true) := by show _ = _; rw [HST.out]; simp [tokGreat, p4]
                  clear HST
                  go_wp2
                  go_ret
                  exact ⟨ret_bool HR.out.symm, hba _⟩
                have HN2 : Hid (R = ((r.drop (q + 1)).any tokGreat || greatGo n (k + 1) m (l.drop (k + 1)))) := by show _ = _; rw [HST.out]; simp [tokGreat, p1, p2, p3, p4]
                clear HST
                go_wp2
                go_roundw
                case rel => exact ⟨q + 1, by go_num, by omega, hba _, HN2.out⟩
                case measure => simp [intOf]; omega
              · have HN2 : Hid (R = greatGo n (k + 1) m (l.drop (k + 1))) := by show _ = _; rw [hx.out, List.drop_of_length_le (by rw [← HRN.out]; omega)]; rfl
                clear hx
                go_wp2
                go_roundw
                case rel => exact ⟨k + 1, m, by go_num, by go_num, by omega, HOK.out, by omega, HN2.out, hb⟩
                case measure => simp [intOf]; omega
        · have HR : Hid (R = ((r.drop 0).any tokGreat || greatGo n (k + 1) (m * (n' + 1)) (l.drop (k + 1)))) := by show _ = _; rw [HST.out, if_pos (by omega), decide_eq_false g1, decide_eq_false g2, Bool.false_and]; rfl
          have HOK : Hid (okN (k + 1) (m * (n' + 1))) := okN_step hok.out (by omega) (by omega)
          have hmb : m * (n' + 1) ≤ 2401 := okN_le HOK.out
          obtain ⟨M, hM⟩ : ∃ M, M = m * (n' + 1) := ⟨_, rfl⟩
          have hmul : (m : Int) * ((n' : Int) + 1) = (M : Int) := by rw [hM]; simp
          rw [← hM] at HR HOK hmb
          clear HST hM
          go_wp2
          clear hmul
          go_loopw [5] (fun i wr => ∃ q : Nat, i = .int .i64 q ∧ q ≤ n' ∧ Below w.heap.size w wr ∧ Hid (R = ((r.drop q).any tokGreat || greatGo n (k + 1) M (l.drop (k + 1))))) (fun i _ => n' - (intOf i).toNat)
          case atStart => exact ⟨0, rfl, Nat.zero_le _, hb, HR.out⟩
          case round =>
            clear HR hb c1
            obtain ⟨q, rfl, hq, hb, hx⟩ := hrel
            have c1 := cell_later hb c1w
            by_cases hqk : q < n'
            · obtain ⟨t, b2, off2, hu2, -, ea, -, -, -, c20, c21, c22, c23, c24, c25⟩ := (hr.below rTok_ok hb).tok hqk
              subst ea
              have hst := hx.out
              rw [any_drop hu2] at hst
              have HST := Lib.hid hst
              obtain ⟨tx, nm, pg, ln, fl, na⟩ := t
              dsimp only at c20 c21 c22 c23 c24 c25
              clear hx hu2 hst
              have hba := fun o => hb.alloc hb.size o
              by_cases p1 : 12 < tx.size
              · have HR : Hid (R = true) := by show _ = _; rw [HST.out]; simp [tokGreat, p1]
                clear HST
                go_wp2
                go_ret
                exact ⟨ret_bool HR.out.symm, hba _⟩
              by_cases p2 : 12 < nm.size
              · have HR : Hid (R = true) := by show _ = _; rw [HST.out]; simp [tokGreat, p2]
                clear HST
                go_wp2
                go_ret
                exact ⟨ret_bool HR.out.symm, hba _⟩
              by_cases p3 : 20 < pg.size
              · have HR : Hid (R = true) := by show _ = _; rw [HST.out]; simp [tokGreat, p3]
                clear HST
                go_wp2
                go_ret
                exact ⟨ret_bool HR.out.symm, hba _⟩
              by_cases p4 : 20 < na.size
              · have HR : Hid (R = true) := by show _ = _; rw [HST.out]; simp [tokGreat, p4]
                clear HST
                go_wp2
                go_ret
                exact ⟨ret_bool HR.out.symm, hba _⟩
              have HN2 : Hid (R = ((r.drop (q + 1)).any tokGreat || greatGo n (k + 1) M (l.drop (k + 1)))) := by show _ = _; rw [HST.out]; simp [tokGreat, p1, p2, p3, p4]
              clear HST
              go_wp2
              go_roundw
              case rel => exact ⟨q + 1, by go_num, by omega, hba _, HN2.out⟩
              case measure => simp [intOf]; omega
            · have HN2 : Hid (R = greatGo n (k + 1) M (l.drop (k + 1))) := by show _ = _; rw [hx.out, List.drop_of_length_le (by rw [← HRN.out]; omega)]; rfl
              clear hx
              go_wp2
              go_roundw
              case rel => exact ⟨k + 1, M, by go_num, by go_num, by omega, HOK.out, by omega, HN2.out, hb⟩
              case measure => simp [intOf]; omega
    · have HR : Hid (R = (decide (400 < m) || ((decide (6 < n) && decide (n ≤ 32)) || decide (34 < n)))) := by show _ = _; rw [hx.out, List.drop_of_length_le (by rw [← HN.out]; omega)]; rfl
      clear hx
      go_wp2
      all_goals
        go_ret
        exact ⟨ret_bool (by rw [HR.out, Bool.eq_iff_iff]; simp; try omega), hb⟩
end Go.Proofs.YtileoimcnhcfcaaDoor
