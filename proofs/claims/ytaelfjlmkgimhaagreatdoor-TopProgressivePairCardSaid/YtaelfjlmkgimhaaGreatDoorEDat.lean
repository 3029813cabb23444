/- Plain: characters, words, names, tokens. No program. -/
import Derived.Test.YtaelfjlmkgimhaaGreatDoorBase
import Derived.Lib.ItoaNum
import Derived.RangeFuncOwn
set_option linter.unusedVariables false
set_option linter.unusedSimpArgs false
namespace Go.Proofs.YtaelfjlmkgimhaaGreatDoor

/-- The kind of a character. -/
def chK (c : Nat) : Int :=
  if (97 ≤ c ∧ c ≤ 122) ∨ (65 ≤ c ∧ c ≤ 90) then 1
  else if c = 94 ∨ c = 126 ∨ c = 37 then 2
  else if 48 ≤ c ∧ c ≤ 57 then 3
  else if c = 39 then 4
  else if c = 46 ∨ c = 44 ∨ c = 59 ∨ c = 58 ∨ c = 33 ∨ c = 63 ∨ c = 40 ∨ c = 41 ∨ c = 45 then 5
  else if c = 32 then 6 else 0
theorem chK_le (c : Nat) : 0 ≤ chK c ∧ chK c ≤ 6 := by
  unfold chK; repeat' split
  all_goals omega
/-- The kind of a byte. -/
def byK (c : UInt8) : Int := chK c.toNat
theorem byK_le (c : UInt8) : 0 ≤ byK c ∧ byK c ≤ 6 := chK_le _
/-- Whether every mark stands right; the first argument: may a mark stand here? -/
def wordGo : Bool → List UInt8 → Bool
  | _, [] => true
  | m, c :: r => if byK c = 2 then m && wordGo m r else if byK c = 0 then false else wordGo (decide (byK c = 1)) r
/-- Check of a string. -/
def chkS (s : ByteArray) : Int := if 65536 < s.size then 4 else if wordGo false s.data.toList then 0 else 11
/-- The first character's kind is that of a letter or digit. -/
def headOk : List UInt8 → Bool
  | [] => false
  | c :: _ => decide (byK c = 1) || decide (byK c = 3)
def isWordP (s : ByteArray) : Bool :=
  decide (1 ≤ s.size ∧ s.size ≤ 64) && (wordGo false s.data.toList && (headOk s.data.toList && s.data.toList.all fun c => decide (byK c ≤ 4)))
def letB (c : UInt8) : Bool := decide (byK c = 1) || decide (byK c = 3)
def isNameP (s : ByteArray) : Bool := decide (1 ≤ s.size ∧ s.size ≤ 16) && s.data.toList.all letB
def namedP (s : ByteArray) : Bool := decide (s.size = 0) || isNameP s
def normP (s : ByteArray) : Bool := decide (1 ≤ s.size ∧ s.size ≤ 64) && s.data.toList.all fun c => decide (1 ≤ byK c ∧ byK c ≤ 4)
/-- A siglum: a name, or one with a star. -/
def sigP (s : ByteArray) : Bool :=
  if s.data.toList.getLast? = some 42 then decide (s.size ≤ 16) && isNameP (s.extract 0 (s.size - 1)) else isNameP s
/-- The text of a gap of n characters. -/
def gapT (n : Nat) : ByteArray := ⟨(91 :: (Lib.decDigits n ++ [93])).toArray⟩
def gapP (s : ByteArray) : Bool := (List.range 64).any fun i => decide (s = gapT (i + 1))
def markP (s : ByteArray) : Bool := decide (s.size = 1) && s.data.toList.all fun c => decide (byK c = 5) || decide (byK c = 4)

structure Tok where
  text : ByteArray
  norm : ByteArray
  page : ByteArray
  line : Int
  flags : Int
  name : ByteArray
deriving DecidableEq
namespace Tok
def gapB (t : Tok) : Bool := decide (t.flags / 2 % 2 = 1)
def markB (t : Tok) : Bool := decide (t.flags / 8 % 2 = 1)
def formB (t : Tok) : Bool :=
  if t.gapB then gapP t.text && decide (t.norm = t.text)
  else if t.markB then markP t.text && decide (t.norm = t.text)
  else isWordP t.text && normP t.norm
/-- What is wrong with a token. -/
def err (t : Tok) : Int :=
  if t.flags < 0 ∨ 31 < t.flags then 2
  else if t.gapB && t.markB then 8
  else if !t.formB then 11
  else if t.line < 0 then 2
  else if !(namedP t.page) || !(namedP t.name) then 14
  else 0
end Tok

theorem all_letB_wordGo : ∀ (m : Bool) (l : List UInt8), l.all letB = true → wordGo m l = true
  | _, [], _ => rfl
  | m, c :: r, h => by
    simp only [List.all_cons, Bool.and_eq_true] at h
    obtain ⟨h1, h2⟩ := h
    have h3 : byK c = 1 ∨ byK c = 3 := by simpa [letB] using h1
    rw [wordGo, if_neg (by omega), if_neg (by omega)]
    exact all_letB_wordGo _ r h2
/-- A name is a word of letters and digits alone. -/
theorem isName_word (s : ByteArray) : isNameP s = (decide (s.size ≤ 16) && (isWordP s && s.data.toList.all letB)) := by
  unfold isNameP isWordP
  rw [Bool.eq_iff_iff]
  simp only [Bool.and_eq_true, decide_eq_true_eq]
  constructor
  · rintro ⟨⟨h1, h2⟩, h3⟩
    refine ⟨h2, ⟨⟨h1, by omega⟩, all_letB_wordGo _ _ h3, ?_, ?_⟩, h3⟩
    · have hl : s.data.toList.length = s.size := Array.length_toList
      cases hs : s.data.toList with
      | nil => rw [hs] at hl; simp at hl; omega
      | cons c r => rw [hs, List.all_cons, Bool.and_eq_true] at h3; exact h3.1
    · rw [List.all_eq_true] at h3 ⊢
      intro c hc
      have : byK c = 1 ∨ byK c = 3 := by simpa [letB] using h3 c hc
      simp; omega
  · rintro ⟨h1, ⟨⟨h2, _⟩, _⟩, h3⟩
    exact ⟨⟨h2, h1⟩, h3⟩
end Go.Proofs.YtaelfjlmkgimhaaGreatDoor

/- A slice of slices that the call itself makes: rows in blocks of their own. -/
namespace Go.Proofs.YtaelfjlmkgimhaaGreatDoor
open Go.RowKit

theorem Tryz.infoInts : (Tryz.prog.info? 27).map (fun i => (i.zero, i.size, i.bytes)) = some (some (.slice none 0 0), 1, 24) := by kernel_rfl

/-- A slice value's parts. -/
abbrev Row := Option Addr × Nat × Nat
def rowV (r : Row) : Value := .slice r.1 r.2.1 r.2.2
theorem rowV_one (r : Row) : (rowV r).oneCell' = true := rfl
theorem ownBlock_some {a : Option Addr} {n c : Nat} {x : Addr} (h : a = some x) : (Value.slice a n c).ownBlock = some x.block := by subst h; rfl
theorem ownBlock_none {n c : Nat} : (Value.slice none n c).ownBlock = none := rfl

/-- Two addresses do not lie in one block. -/
def Apart (a b : Option Addr) : Prop := ∀ x y, a = some x → b = some y → x.block ≠ y.block
theorem Apart.symm {a b : Option Addr} (h : Apart a b) : Apart b a := fun x y hx hy e => h y x hy hx e.symm

def OwnII (w : World) (B : Nat) (a : Option Addr) (n cap : Nat) (ll : List (List Int)) : Prop :=
  ∃ rs : List Row, n = ll.length ∧ rs.length = n ∧ w.ownsRow B 27 1 (.slice a n cap) n (rs.map rowV) ∧
    (∀ (j : Nat) (r : Row), rs[j]? = some r → OwnI w B r.1 r.2.1 r.2.2 (ll[j]?.getD []) ∧ Apart r.1 a) ∧
    ∀ (i j : Nat) (r s : Row), i ≠ j → rs[i]? = some r → rs[j]? = some s → Apart r.1 s.1

namespace OwnII
variable {w w' : World} {B : Nat} {a : Option Addr} {n cap : Nat} {ll : List (List Int)}
theorem nil (w : World) (B : Nat) : OwnII w B none 0 0 [] := ⟨[], rfl, rfl, World.ownsRow_nil _ _ _ _, by simp, by simp⟩
/-- The empty slice at the head of a new block. -/
theorem made0 (w : World) (B : Nat) (hB : B ≤ w.heap.size) : OwnII (w.alloc (.cells #[] 27)) B (some ⟨w.heap.size, 0, none⟩) 0 0 [] :=
  ⟨[], rfl, rfl, World.ownsRow_made w #[] 0 hB (Nat.zero_le _) rfl, by simp, by simp⟩
theorem len (h : OwnII w B a n cap ll) : n = ll.length := by obtain ⟨_, h, _⟩ := h; exact h
theorem below (h : OwnII w B a n cap ll) (hb : Below w.heap.size w w') : OwnII w' B a n cap ll := by
  obtain ⟨rs, h1, h2, h3, h4, h5⟩ := h
  refine ⟨rs, h1, h2, ?_, fun j r hr => ⟨(h4 j r hr).1.below hb, (h4 j r hr).2⟩, h5⟩
  refine ⟨h3.1, ?_⟩
  rcases h3.2 with h0 | ⟨g, cap', cur, hv, hB, hg, hrest⟩
  · exact .inl h0
  · exact .inr ⟨g, cap', cur, hv, hB, by rw [hb.block g (Array.getElem?_eq_some_iff.1 hg).1]; exact hg, hrest⟩
theorem drewN (h : OwnII w B a n cap ll) (q : Nat) : OwnII (w.drewN q) B a n cap ll := h
theorem drew (h : OwnII w B a n cap ll) : OwnII w.drew B a n cap ll := h
theorem mono {B' : Nat} (h : OwnII w B a n cap ll) (hB : B' ≤ B) : OwnII w B' a n cap ll := by
  obtain ⟨rs, h1, h2, h3, h4, h5⟩ := h
  refine ⟨rs, h1, h2, ⟨h3.1, ?_⟩, fun j r hr => ⟨(h4 j r hr).1.mono hB, (h4 j r hr).2⟩, h5⟩
  rcases h3.2 with h0 | ⟨g, cap', cur, hv, hb, hrest⟩
  · exact .inl h0
  · exact .inr ⟨g, cap', cur, hv, Nat.le_trans hB hb, hrest⟩
/-- Row j: where it lies. -/
theorem at_ (h : OwnII w B a n cap ll) {j : Nat} (hj : j < n) : ∃ g aj nj cj, a = some ⟨g, 0, none⟩ ∧ B ≤ g ∧ g < w.heap.size ∧ (∀ k, w.frozen? ⟨g, k, none⟩ = false) ∧
    w.cell? ⟨g, j, none⟩ = some (.slice aj nj cj) ∧ OwnI w B aj nj cj (ll[j]?.getD []) ∧ Apart aj a := by
  obtain ⟨rs, h1, h2, h3, h4, h5⟩ := h
  rcases h3.2 with ⟨_, h0⟩ | ⟨g, cap', cur, hv, hb, hg, hrest⟩
  · omega
  · cases hv
    obtain ⟨r, hr⟩ : ∃ r, rs[j]? = some r := ⟨_, List.getElem?_eq_getElem (by omega)⟩
    have hc := h3.cellAt j (by omega)
    rw [List.getElem?_map, hr] at hc
    exact ⟨g, r.1, r.2.1, r.2.2, rfl, hb, (Array.getElem?_eq_some_iff.1 hg).1, h3.frozenAt, hc, h4 j r hr⟩
theorem intss (h : OwnII w B a n cap ll) (hn : n * 24 ≤ 140737488355328) (hl : ∀ s ∈ ll, s.length * 8 ≤ 140737488355328 ∧ ∀ x ∈ s, I64 x) : Intss w a n cap ll := by
  have hcap : n ≤ cap := by
    obtain ⟨rs, h1, h2, h3, _⟩ := h
    rcases h3.2 with ⟨hv, h0⟩ | ⟨g, cap', cur, hv, _, _, hc, _⟩
    · omega
    · cases hv; exact hc
  refine ⟨h.len, hcap, hn, fun j hj => ?_⟩
  obtain ⟨g, aj, nj, cj, e, _, _, _, hc, ho, _⟩ := h.at_ hj
  have hj' : j < ll.length := by rw [← h.len]; exact hj
  have hm := hl (ll[j]?.getD []) (by rw [List.getElem?_eq_getElem hj']; exact List.getElem_mem hj')
  exact ⟨g, 0, aj, nj, cj, e, by rw [Nat.zero_add]; exact hc, ho.ints (by rw [ho.len]; exact hm.1) hm.2⟩
theorem own (h : OwnII w B a n cap ll) : ∃ xs, w.ownsRow B 27 1 (.slice a n cap) n xs ∧ xs.length = n ∧ (∀ u ∈ xs, u.oneCell' = true) := by
  obtain ⟨rs, h1, h2, h3, _⟩ := h
  exact ⟨_, h3, by simpa using h2, by intro u hu; obtain ⟨r, _, rfl⟩ := List.mem_map.1 hu; rfl⟩
theorem rows (h : OwnII w B a n cap ll) : ∃ rs : List Row, w.ownsRow B 27 1 (.slice a n cap) n (rs.map rowV) ∧
    ∀ (w2 w3 : World) (v' : Value) (b : Option Addr) (m c : Nat) (s : List Int), Below w.heap.size w w2 → OwnI w2 B b m c s → (∀ x, b = some x → w.heap.size ≤ x.block) →
      w3.ownsRow B 27 1 v' (n + 1) (rs.map rowV ++ [.slice b m c]) → w2.grownBy w3 (Value.slice a n cap).ownBlock → (v'.ownBlock = (Value.slice a n cap).ownBlock ∨ v'.ownBlock = some w2.heap.size) →
      ∃ a' cap', v' = .slice a' (n + 1) cap' ∧ OwnII w3 B a' (n + 1) cap' (ll ++ [s]) := by
  obtain ⟨rs, h1, h2, h3, h4, h5⟩ := h
  refine ⟨rs, h3, fun w2 w3 v' b m c s hb ho hfresh hown hg hv' => ?_⟩
  obtain ⟨a', cap', rfl⟩ : ∃ a' cap', v' = .slice a' (n + 1) cap' := by
    rcases hown.2 with ⟨rfl, h0⟩ | ⟨g, c', cur, rfl, _⟩
    · omega
    · exact ⟨_, _, rfl⟩
  have hrow : ∀ (x y : Addr), a = some y → x.block ≠ y.block → some x.block ≠ (Value.slice a n cap).ownBlock := by
    intro x y hy hne; subst hy; simpa [Value.ownBlock] using hne
  have hnone : a = none → (Value.slice a n cap).ownBlock = none := by intro e; subst e; rfl
  have hlt : ∀ y, a = some y → y.block < w.heap.size := fun y hy => (h3.lt y.block (by subst hy; rfl)).2
  have hlt' : ∀ (j : Nat) (r : Row), rs[j]? = some r → ∀ x, r.1 = some x → x.block < w.heap.size := fun j r hr x hx => ((h4 j r hr).1.2.lt x.block (by rw [hx]; rfl)).2
  have hltb : ∀ x, b = some x → x.block < w2.heap.size := fun x hx => (ho.2.lt x.block (by rw [hx]; rfl)).2
  have hne : ∀ (e : Option Addr), Apart e a → (∀ x, e = some x → some x.block ≠ (Value.slice a n cap).ownBlock) := by
    intro e he x hx
    cases ha : a with
    | none => simp [Value.ownBlock]
    | some y => subst ha; exact hrow x y rfl (he x y hx rfl)
  have hba : Apart b a := fun x y hx hy => by have := hfresh x hx; have := hlt y hy; omega
  have hout : ∀ e : Option Addr, Apart e a → (∀ x, e = some x → x.block < w2.heap.size) → Apart e a' := by
    intro e he hl x y hx hy
    rw [ownBlock_some hy] at hv'
    intro hxy
    rcases hv' with h | h
    · exact hne e he x hx (by rw [hxy]; exact h)
    · have := hl x hx; have := Option.some.inj h; omega
  refine ⟨a', cap', rfl, rs ++ [(b, m, c)], by simp [h1], by simp [h2], ?_, ?_, ?_⟩
  · rw [List.map_append]; exact hown
  · intro j r hr
    by_cases hj : j < rs.length
    · rw [List.getElem?_append_left hj] at hr
      rw [List.getElem?_append_left (by omega)]
      obtain ⟨o1, o2⟩ := h4 j r hr
      exact ⟨(o1.below hb).kept hg (hne r.1 o2), hout r.1 o2 fun x hx => by have := hlt' j r hr x hx; have := hb.size; omega⟩
    · rw [List.getElem?_append_right (by omega)] at hr
      have hj' : j - rs.length = 0 := by
        rcases Nat.eq_zero_or_pos (j - rs.length) with h | h
        · exact h
        · rw [List.getElem?_eq_none (by simp; omega)] at hr; cases hr
      rw [hj'] at hr
      simp at hr
      subst hr
      rw [List.getElem?_append_right (by omega), show j - ll.length = 0 by omega]
      simp only [List.getElem?_cons_zero, Option.getD_some]
      exact ⟨ho.kept hg (hne b hba), hout b hba hltb⟩
  · intro i j r s' hij hr hs
    have get : ∀ k t, (rs ++ [(b, m, c)])[k]? = some t → (k < rs.length ∧ rs[k]? = some t) ∨ (k = rs.length ∧ t = (b, m, c)) := by
      intro k t hk
      by_cases hk' : k < rs.length
      · rw [List.getElem?_append_left hk'] at hk; exact .inl ⟨hk', hk⟩
      · rw [List.getElem?_append_right (by omega)] at hk
        have : k - rs.length = 0 := by
          rcases Nat.eq_zero_or_pos (k - rs.length) with h | h
          · exact h
          · rw [List.getElem?_eq_none (by simp; omega)] at hk; cases hk
        rw [this] at hk
        simp at hk
        exact .inr ⟨by omega, hk.symm⟩
    rcases get i r hr with ⟨hi, hr⟩ | ⟨hi, rfl⟩ <;> rcases get j s' hs with ⟨hj, hs⟩ | ⟨hj, rfl⟩
    · exact h5 i j r s' hij hr hs
    · intro x y hx hy; have := hlt' i r hr x hx; have := hfresh y hy; omega
    · intro x y hx hy; have := hlt' j s' hs y hy; have := hfresh x hx; omega
    · omega
/-- One element appended to row k, the row stored back. -/
theorem setRow (h : OwnII w B a n cap ll) {k g nk ck : Nat} {ak : Option Addr} {x : Int} {w2 : World} {v' : Value} (hk : k < n) (ha : a = some ⟨g, 0, none⟩)
    (hc : w.cell? ⟨g, k, none⟩ = some (.slice ak nk ck)) {o : Obj}
    (hown : w2.ownsRow B 3 1 v' (nk + 1) ((ll[k]?.getD []).map (Value.int .i64) ++ [.int .i64 x])) (hg : (w.alloc o).grownBy w2 (Value.slice ak nk ck).ownBlock)
    (hv' : v'.ownBlock = (Value.slice ak nk ck).ownBlock ∨ v'.ownBlock = some (w.heap.size + 1)) :
    OwnII (w2.setCell ⟨g, k, none⟩ v') B a n cap (ll.set k (ll[k]?.getD [] ++ [x])) := by
  obtain ⟨rs, h1, h2, h3, h4, h5⟩ := h
  subst ha
  obtain ⟨r, hr⟩ : ∃ r, rs[k]? = some r := ⟨_, List.getElem?_eq_getElem (by omega)⟩
  have hc' := h3.cellAt k (by omega)
  rw [List.getElem?_map, hr, hc] at hc'
  simp only [Option.map_some, Option.some.injEq, rowV, Value.slice.injEq] at hc'
  obtain ⟨rfl, rfl, rfl⟩ := hc'
  obtain ⟨ok, apk⟩ := h4 k r hr
  obtain ⟨a', cap', rfl⟩ : ∃ a' cap', v' = .slice a' (r.2.1 + 1) cap' := by
    rcases hown.2 with ⟨rfl, h0⟩ | ⟨g', c', cur, rfl, _⟩
    · omega
    · exact ⟨_, _, rfl⟩
  have hgl : g < w.heap.size := (h3.lt g rfl).2
  have hsz : (w.alloc o).heap.size = w.heap.size + 1 := by simp
  have hb : Below w.heap.size w (w.alloc o) := (Below.refl _ _).alloc (Nat.le_refl _) _
  have hlt : ∀ (j : Nat) (q : Row), rs[j]? = some q → ∀ y, q.1 = some y → y.block < w.heap.size := fun j q hq y hy => ((h4 j q hq).1.2.lt y.block (ownBlock_some hy)).2
  -- the new place of row k is apart from whatever the old one was apart from
  have hout : ∀ e : Option Addr, Apart e r.1 → (∀ y, e = some y → y.block < w.heap.size + 1) → Apart e a' := by
    intro e he hl y z hy hz hyz
    rw [ownBlock_some hz] at hv'
    rcases hv' with h | h
    · cases hr1 : r.1 with
      | none => rw [hr1] at h; cases h
      | some q =>
        rw [ownBlock_some hr1] at h
        exact he y q hy hr1 (by rw [hyz]; exact Option.some.inj h)
    · have := hl y hy; have := Option.some.inj h; omega
  have hkeep : ∀ e : Option Addr, Apart e r.1 → (∀ y, e = some y → some y.block ≠ (Value.slice r.1 r.2.1 r.2.2).ownBlock) := by
    intro e he y hy
    cases hr1 : r.1 with
    | none => simp [Value.ownBlock]
    | some q => intro h; exact he y q hy hr1 (Option.some.inj h)
  have hgo : some g ≠ (Value.slice r.1 r.2.1 r.2.2).ownBlock := hkeep (some ⟨g, 0, none⟩) apk.symm ⟨g, 0, none⟩ rfl
  have h3' : w2.ownsRow B 27 1 (.slice (some ⟨g, 0, none⟩) n cap) n (rs.map rowV) := (h3.alloc o).kept hg (.inr hgo)
  have hga : Apart (some ⟨g, 0, none⟩) a' := hout _ apk.symm (fun y hy => by cases hy; show g < _; omega)
  have hset : ∀ (b : Option Addr) (m c : Nat) (s : List Int), OwnI w2 B b m c s → Apart b (some ⟨g, 0, none⟩) → OwnI (w2.setCell ⟨g, k, none⟩ (.slice a' (r.2.1 + 1) cap')) B b m c s := by
    intro b m c s hb hap
    refine ⟨hb.1, ownsRow_setCell_other hb.2 ?_ _⟩
    cases hb1 : b with
    | none => simp [Value.ownBlock]
    | some y => simpa [Value.ownBlock] using hap y ⟨g, 0, none⟩ hb1 rfl
  have hak : Apart a' (some ⟨g, 0, none⟩) := hga.symm
  refine ⟨rs.set k (a', r.2.1 + 1, cap'), by simpa using h1, by simpa using h2, ?_, ?_, ?_⟩
  · rw [List.map_set]; exact (h3'.stored k _).1
  · intro j q hq
    by_cases hj : j = k
    · subst hj
      rw [List.getElem?_set_self (by omega)] at hq
      cases hq
      rw [List.getElem?_set_self (by omega)]
      refine ⟨hset a' (r.2.1 + 1) cap' _ ⟨by simp [ok.len], by simpa using hown⟩ hak, hak⟩
    · rw [List.getElem?_set_ne (by omega)] at hq ⊢
      obtain ⟨o1, o2⟩ := h4 j q hq
      exact ⟨hset _ _ _ _ ((o1.below hb).kept hg (hkeep q.1 (h5 j k q r hj hq hr))) o2, o2⟩
  · intro i j p q hij hp hq
    by_cases hi : i = k
    · subst hi
      rw [List.getElem?_set_self (by omega)] at hp
      rw [List.getElem?_set_ne hij] at hq
      cases hp
      exact (hout q.1 (h5 j i q r (Ne.symm hij) hq hr) (fun y hy => by have := hlt j q hq y hy; omega)).symm
    · rw [List.getElem?_set_ne (by omega)] at hp
      by_cases hj : j = k
      · subst hj
        rw [List.getElem?_set_self (by omega)] at hq
        cases hq
        exact hout p.1 (h5 i j p r hij hp hr) (fun y hy => by have := hlt i p hp y hy; omega)
      · rw [List.getElem?_set_ne (by omega)] at hq
        exact h5 i j p q hij hp hq
/-- A store below the blocks of its own. -/
theorem setBelow (h : OwnII w B a n cap ll) {x : Addr} (hx : x.block < B) (u : Value) : OwnII (w.setCell x u) B a n cap ll := by
  obtain ⟨rs, h1, h2, h3, h4, h5⟩ := h
  exact ⟨rs, h1, h2, ownsRow_setCell_below h3 hx u, fun j r hj => ⟨⟨(h4 j r hj).1.1, ownsRow_setCell_below (h4 j r hj).1.2 hx u⟩, (h4 j r hj).2⟩, h5⟩
end OwnII
end Go.Proofs.YtaelfjlmkgimhaaGreatDoor

/- What slices of anything, tokens, operations and collations read as in a world. -/
namespace Go.Proofs.YtaelfjlmkgimhaaGreatDoor
open Go.RowKit

/-- What is cells, and lies in S, stays. -/
def KeepS (S : Nat → Prop) (w w' : World) : Prop := w.heap.size ≤ w'.heap.size ∧ ∀ b cs t fr, S b → w.heap[b]? = some (.cells cs t fr) → w'.heap[b]? = some (.cells cs t fr)
namespace KeepS
variable {S S' : Nat → Prop} {w w' w'' : World}
theorem refl (S : Nat → Prop) (w : World) : KeepS S w w := ⟨Nat.le_refl _, fun _ _ _ _ _ h => h⟩
theorem trans (h : KeepS S w w') (k : KeepS S w' w'') : KeepS S w w'' := ⟨Nat.le_trans h.1 k.1, fun b cs t fr hs hb => k.2 b cs t fr hs (h.2 b cs t fr hs hb)⟩
theorem mono (h : KeepS S w w') (hs : ∀ b, S' b → S b) : KeepS S' w w' := ⟨h.1, fun b cs t fr hb => h.2 b cs t fr (hs b hb)⟩
theorem below (h : Below w.heap.size w w') : KeepS S w w' := ⟨h.size, fun b cs t fr _ hb => by rw [h.block b (Array.getElem?_eq_some_iff.1 hb).1]; exact hb⟩
theorem belowB {B : Nat} (h : Below B w w') (hw : w.heap.size ≤ w'.heap.size) (hS : ∀ b, S b → b < B) : KeepS S w w' :=
  ⟨hw, fun b cs t fr hs hb => by rw [h.block b (hS b hs)]; exact hb⟩
theorem cell (h : KeepS S w w') {a : Addr} {v : Value} (hs : S a.block) (hc : w.cell? a = some v) : w'.cell? a = some v := by
  unfold World.cell? at hc ⊢
  cases hb : w.heap[a.block]? with
  | none => rw [hb] at hc; cases hc
  | some o =>
    rw [hb] at hc
    cases o with
    | cells cs t fr => rw [h.2 a.block cs t fr hs hb]; exact hc
    | _ => cases hc
theorem frozen (h : KeepS S w w') {a : Addr} {v : Value} (hs : S a.block) (hc : w.cell? a = some v) : w'.frozen? a = w.frozen? a := by
  unfold World.cell? at hc
  unfold World.frozen?
  cases hb : w.heap[a.block]? with
  | none => rw [hb] at hc; cases hc
  | some o =>
    rw [hb] at hc
    cases o with
    | cells cs t fr => rw [h.2 a.block cs t fr hs hb]
    | _ => cases hc
theorem grown {row : Option Nat} (h : w.grownBy w' row) (hr : ∀ r, row = some r → ¬ S r) : KeepS S w w' :=
  ⟨h.size, fun b cs t fr hs hb => by rw [h.block b (Array.getElem?_eq_some_iff.1 hb).1 (fun e => hr b e.symm hs)]; exact hb⟩
theorem alloc (S : Nat → Prop) (w : World) (o : Obj) : KeepS S w (w.alloc o) := below ((Below.refl _ _).alloc (Nat.le_refl _) _)
theorem setCell (w : World) {b j : Nat} (hb : ¬ S b) (v : Value) : KeepS S w (w.setCell ⟨b, j, none⟩ v) :=
  ⟨by simp [World.setCell], fun b' cs t fr hs h' => by rw [Below.heap_setCell _ _ _ _ (by intro e; have e : b' = b := e; exact hb (e ▸ hs))]; exact h'⟩
theorem putObj (w : World) {l : Nat} {o : Obj} (h : w.heap[l]? = some o) (ho : o.isCells = false) (o' : Obj) : KeepS S w (w.putObj l o') :=
  ⟨by simp [World.putObj], fun b cs t fr _ hb => by
    by_cases e : b = l
    · subst e; rw [h] at hb; cases hb; cases ho
    · rw [World.putObj_heap_other e]; exact hb⟩
theorem drewN (S : Nat → Prop) (w : World) (q : Nat) : KeepS S w (w.drewN q) := below (below_drewN (Below.refl _ _) q)
end KeepS

/-- These cells, one behind the other. -/
def AtC (w : World) (b o : Nat) (cs : List Value) : Prop := ∀ i x, cs[i]? = some x → w.cell? ⟨b, o + i, none⟩ = some x
theorem AtC.keep {S : Nat → Prop} {w w' : World} {b o : Nat} {cs : List Value} (h : AtC w b o cs) (hs : S b) (k : KeepS S w w') : AtC w' b o cs := fun i x hx => k.cell hs (h i x hx)

abbrev Rel (α : Type) := (Nat → Prop) → World → List Value → α → Prop
structure RelOk {α : Type} (R : Rel α) : Prop where
  keep : ∀ {S : Nat → Prop} {w w' : World} {cs : List Value} {x : α}, KeepS S w w' → R S w cs x → R S w' cs x
  mono : ∀ {S S' : Nat → Prop} {w : World} {cs : List Value} {x : α}, (∀ b, S b → b < w.heap.size → S' b) → R S w cs x → R S' w cs x

/-- The slice value 'a n c' reads as a list, k cells and s bytes each. -/
def Sq {α : Type} (R : Rel α) (k s : Nat) (S : Nat → Prop) (w : World) (a : Option Addr) (n c : Nat) (l : List α) : Prop :=
  n = l.length ∧ n ≤ c ∧ n * s ≤ 140737488355328 ∧ ∀ j x, l[j]? = some x → ∃ b off cs, a = some ⟨b, off, none⟩ ∧ S b ∧ b < w.heap.size ∧ cs.length = k ∧ AtC w b (off + j * k) cs ∧ R S w cs x
namespace Sq
variable {α : Type} {R : Rel α} {k s : Nat} {S S' : Nat → Prop} {w w' : World} {a : Option Addr} {n c : Nat} {l : List α}
theorem len (h : Sq R k s S w a n c l) : n = l.length := h.1
theorem le (h : Sq R k s S w a n c l) : n ≤ c := h.2.1
theorem bound (h : Sq R k s S w a n c l) : n * s ≤ 140737488355328 := h.2.2.1
theorem nil (R : Rel α) (k s : Nat) (S : Nat → Prop) (w : World) : Sq R k s S w none 0 0 [] := ⟨rfl, Nat.le_refl _, by omega, fun j x h => by simp at h⟩
theorem keep (hR : RelOk R) (kk : KeepS S w w') (h : Sq R k s S w a n c l) : Sq R k s S w' a n c l :=
  ⟨h.1, h.2.1, h.2.2.1, fun j x hj => by
    obtain ⟨b, off, cs, e, hs, hb, hk, hat, hr⟩ := h.2.2.2 j x hj
    exact ⟨b, off, cs, e, hs, Nat.lt_of_lt_of_le hb kk.1, hk, hat.keep hs kk, hR.keep kk hr⟩⟩
theorem mono (hR : RelOk R) (kk : ∀ b, S b → b < w.heap.size → S' b) (h : Sq R k s S w a n c l) : Sq R k s S' w a n c l :=
  ⟨h.1, h.2.1, h.2.2.1, fun j x hj => by
    obtain ⟨b, off, cs, e, hs, hb, hk, hat, hr⟩ := h.2.2.2 j x hj
    exact ⟨b, off, cs, e, kk b hs hb, hb, hk, hat, hR.mono kk hr⟩⟩
theorem get (h : Sq R k s S w a n c l) {j : Nat} (hj : j < n) : ∃ x b off cs, l[j]? = some x ∧ x ∈ l ∧ a = some ⟨b, off, none⟩ ∧ S b ∧ b < w.heap.size ∧ cs.length = k ∧ AtC w b (off + j * k) cs ∧ R S w cs x := by
  have hl : j < l.length := by rw [← h.1]; exact hj
  have e := List.getElem?_eq_getElem hl
  obtain ⟨b, off, cs, ea, hs, hb, hk, hat, hr⟩ := h.2.2.2 j _ e
  exact ⟨l[j], b, off, cs, e, List.getElem_mem hl, ea, hs, hb, hk, hat, hr⟩
/-- A part of it. -/
theorem take (h : Sq R k s S w a n c l) {m c' : Nat} (hm : m ≤ n) (hc : m ≤ c') : Sq R k s S w a m c' (l.take m) := by
  refine ⟨by rw [List.length_take, ← h.1]; omega, hc, Nat.le_trans (Nat.mul_le_mul_right _ hm) h.2.2.1, fun j x hj => ?_⟩
  rw [List.getElem?_take] at hj
  split at hj
  · exact h.2.2.2 j x hj
  · cases hj
end Sq

def rInt : Rel Int := fun _ _ cs x => cs = [.int .i64 x] ∧ I64 x
def rStr : Rel ByteArray := fun _ _ cs t => cs = [.string t] ∧ t.size ≤ 140737488355328
def rBool : Rel Bool := fun _ _ cs b => cs = [.bool b]
def Tok.cells (t : Tok) : List Value := [.string t.text, .string t.norm, .string t.page, .int .i64 t.line, .int .i64 t.flags, .string t.name]
def Tok.ok (t : Tok) : Prop := t.text.size ≤ 140737488355328 ∧ t.norm.size ≤ 140737488355328 ∧ t.page.size ≤ 140737488355328 ∧ I64 t.line ∧ I64 t.flags ∧ t.name.size ≤ 140737488355328
def Tok.val (t : Tok) : Value := .agg #[.string t.text, .string t.norm, .string t.page, .int .i64 t.line, .int .i64 t.flags, .string t.name]
def rTok : Rel Tok := fun _ _ cs t => cs = t.cells ∧ t.ok
structure Op where
  kind : Int
  sig : ByteArray
  tok : Int
  other : Int
  text : ByteArray
deriving DecidableEq
def Op.cells (o : Op) : List Value := [.int .i64 o.kind, .string o.sig, .int .i64 o.tok, .int .i64 o.other, .string o.text]
def Op.val (o : Op) : Value := .agg #[.int .i64 o.kind, .string o.sig, .int .i64 o.tok, .int .i64 o.other, .string o.text]
def Op.ok (o : Op) : Prop := I64 o.kind ∧ o.sig.size ≤ 140737488355328 ∧ I64 o.tok ∧ I64 o.other ∧ o.text.size ≤ 140737488355328
def rOpn : Rel Op := fun _ _ cs o => cs = o.cells ∧ o.ok
def rSl {α : Type} (R : Rel α) (k s : Nat) : Rel (List α) := fun S w cs l => ∃ a n c, cs = [.slice a n c] ∧ Sq R k s S w a n c l
theorem rInt_ok : RelOk rInt := ⟨fun _ h => h, fun _ h => h⟩
theorem rStr_ok : RelOk rStr := ⟨fun _ h => h, fun _ h => h⟩
theorem rBool_ok : RelOk rBool := ⟨fun _ h => h, fun _ h => h⟩
theorem rTok_ok : RelOk rTok := ⟨fun _ h => h, fun _ h => h⟩
theorem rOpn_ok : RelOk rOpn := ⟨fun _ h => h, fun _ h => h⟩
theorem rSl_ok {α : Type} {R : Rel α} {k s : Nat} (hR : RelOk R) : RelOk (rSl R k s) :=
  ⟨fun kk ⟨a, n, c, e, h⟩ => ⟨a, n, c, e, h.keep hR kk⟩, fun kk ⟨a, n, c, e, h⟩ => ⟨a, n, c, e, h.mono hR kk⟩⟩

abbrev Strs := Sq rStr 1 16
abbrev Nums := Sq rInt 1 8
abbrev Flgs := Sq rBool 1 1
abbrev Toks := Sq rTok 6 80
abbrev Opsq := Sq rOpn 5 56
abbrev Tokss := Sq (rSl rTok 6 80) 1 24
abbrev Numss := Sq (rSl rInt 1 8) 1 24

theorem Sq.drewN {α : Type} {R : Rel α} {k s : Nat} {S : Nat → Prop} {w : World} {a : Option Addr} {n c : Nat} {l : List α} (h : Sq R k s S w a n c l) (hR : RelOk R) (q : Nat) : Sq R k s S (w.drewN q) a n c l := h.keep hR (.drewN _ _ _)
theorem Sq.below {α : Type} {R : Rel α} {k s : Nat} {S : Nat → Prop} {w w' : World} {a : Option Addr} {n c : Nat} {l : List α} (h : Sq R k s S w a n c l) (hR : RelOk R) (hb : Below w.heap.size w w') : Sq R k s S w' a n c l := h.keep hR (.below hb)

section
variable {S : Nat → Prop} {w : World} {a : Option Addr} {n c : Nat}
theorem AtC.one {w : World} {b o : Nat} {v : Value} (h : AtC w b o [v]) : w.cell? ⟨b, o, none⟩ = some v := h 0 v rfl
theorem Sq.int {l : List Int} (h : Nums S w a n c l) {j : Nat} (hj : j < n) : ∃ x b off, l[j]? = some x ∧ x ∈ l ∧ a = some ⟨b, off, none⟩ ∧ S b ∧ b < w.heap.size ∧ I64 x ∧ w.cell? ⟨b, off + j, none⟩ = some (.int .i64 x) := by
  obtain ⟨x, b, off, cs, h1, h2, h3, h4, h5, h6, h7, rfl, h8⟩ := h.get hj
  rw [Nat.mul_one] at h7
  exact ⟨x, b, off, h1, h2, h3, h4, h5, h8, h7.one⟩
theorem Sq.str {l : List ByteArray} (h : Strs S w a n c l) {j : Nat} (hj : j < n) : ∃ x b off, l[j]? = some x ∧ x ∈ l ∧ a = some ⟨b, off, none⟩ ∧ S b ∧ b < w.heap.size ∧ x.size ≤ 140737488355328 ∧ w.cell? ⟨b, off + j, none⟩ = some (.string x) := by
  obtain ⟨x, b, off, cs, h1, h2, h3, h4, h5, h6, h7, rfl, h8⟩ := h.get hj
  rw [Nat.mul_one] at h7
  exact ⟨x, b, off, h1, h2, h3, h4, h5, h8, h7.one⟩
theorem Sq.flg {l : List Bool} (h : Flgs S w a n c l) {j : Nat} (hj : j < n) : ∃ x b off, l[j]? = some x ∧ x ∈ l ∧ a = some ⟨b, off, none⟩ ∧ S b ∧ b < w.heap.size ∧ w.cell? ⟨b, off + j, none⟩ = some (.bool x) := by
  obtain ⟨x, b, off, cs, h1, h2, h3, h4, h5, h6, h7, rfl⟩ := h.get hj
  rw [Nat.mul_one] at h7
  exact ⟨x, b, off, h1, h2, h3, h4, h5, h7.one⟩
/-- The cells of a token. -/
def TokAt (w : World) (b o : Nat) (t : Tok) : Prop := w.cell? ⟨b, o, none⟩ = some (.string t.text) ∧ w.cell? ⟨b, o + 1, none⟩ = some (.string t.norm) ∧ w.cell? ⟨b, o + 2, none⟩ = some (.string t.page) ∧
  w.cell? ⟨b, o + 3, none⟩ = some (.int .i64 t.line) ∧ w.cell? ⟨b, o + 4, none⟩ = some (.int .i64 t.flags) ∧ w.cell? ⟨b, o + 5, none⟩ = some (.string t.name)
theorem Sq.tok {l : List Tok} (h : Toks S w a n c l) {j : Nat} (hj : j < n) : ∃ t b off, l[j]? = some t ∧ t ∈ l ∧ a = some ⟨b, off, none⟩ ∧ S b ∧ b < w.heap.size ∧ t.ok ∧ TokAt w b (off + j * 6) t := by
  obtain ⟨x, b, off, cs, h1, h2, h3, h4, h5, h6, h7, rfl, h8⟩ := h.get hj
  exact ⟨x, b, off, h1, h2, h3, h4, h5, h8, h7 0 _ rfl, h7 1 _ rfl, h7 2 _ rfl, h7 3 _ rfl, h7 4 _ rfl, h7 5 _ rfl⟩
/-- The cells of an operation. -/
def OpAt (w : World) (b o : Nat) (t : Op) : Prop := w.cell? ⟨b, o, none⟩ = some (.int .i64 t.kind) ∧ w.cell? ⟨b, o + 1, none⟩ = some (.string t.sig) ∧ w.cell? ⟨b, o + 2, none⟩ = some (.int .i64 t.tok) ∧
  w.cell? ⟨b, o + 3, none⟩ = some (.int .i64 t.other) ∧ w.cell? ⟨b, o + 4, none⟩ = some (.string t.text)
theorem Sq.op {l : List Op} (h : Opsq S w a n c l) {j : Nat} (hj : j < n) : ∃ t b off, l[j]? = some t ∧ t ∈ l ∧ a = some ⟨b, off, none⟩ ∧ S b ∧ b < w.heap.size ∧ t.ok ∧ OpAt w b (off + j * 5) t := by
  obtain ⟨x, b, off, cs, h1, h2, h3, h4, h5, h6, h7, rfl, h8⟩ := h.get hj
  exact ⟨x, b, off, h1, h2, h3, h4, h5, h8, h7 0 _ rfl, h7 1 _ rfl, h7 2 _ rfl, h7 3 _ rfl, h7 4 _ rfl⟩
theorem Sq.row {α : Type} {R : Rel α} {k s : Nat} {l : List (List α)} (h : Sq (rSl R k s) 1 24 S w a n c l) {j : Nat} (hj : j < n) : ∃ x b off a' n' c', l[j]? = some x ∧ x ∈ l ∧ a = some ⟨b, off, none⟩ ∧ S b ∧ b < w.heap.size ∧
    Sq R k s S w a' n' c' x ∧ w.cell? ⟨b, off + j, none⟩ = some (.slice a' n' c') := by
  obtain ⟨x, b, off, cs, h1, h2, h3, h4, h5, h6, h7, a', n', c', rfl, h8⟩ := h.get hj
  rw [Nat.mul_one] at h7
  exact ⟨x, b, off, a', n', c', h1, h2, h3, h4, h5, h8, h7.one⟩
end

/-- A collation, without addresses. -/
structure Col where
  sec : ByteArray
  sigla : List ByteArray
  toks : List (List Tok)
  cols : List (List Int)
deriving DecidableEq
/-- A collation's value. -/
structure CV where
  sec : ByteArray
  sa : Option Addr
  sn : Nat
  sc : Nat
  ta : Option Addr
  tn : Nat
  tc : Nat
  ca : Option Addr
  cn : Nat
  cc : Nat
def CV.arr (v : CV) : Array Value := #[.string v.sec, .slice v.sa v.sn v.sc, .slice v.ta v.tn v.tc, .slice v.ca v.cn v.cc]
def CV.val (v : CV) : Value := .agg v.arr
def RdC (S : Nat → Prop) (w : World) (v : CV) (x : Col) : Prop :=
  v.sec = x.sec ∧ v.sec.size ≤ 140737488355328 ∧ Strs S w v.sa v.sn v.sc x.sigla ∧ Tokss S w v.ta v.tn v.tc x.toks ∧ Numss S w v.ca v.cn v.cc x.cols
theorem RdC.keep {S : Nat → Prop} {w w' : World} {v : CV} {x : Col} (h : RdC S w v x) (k : KeepS S w w') : RdC S w' v x :=
  ⟨h.1, h.2.1, h.2.2.1.keep rStr_ok k, h.2.2.2.1.keep (rSl_ok rTok_ok) k, h.2.2.2.2.keep (rSl_ok rInt_ok) k⟩
theorem RdC.mono {S S' : Nat → Prop} {w : World} {v : CV} {x : Col} (h : RdC S w v x) (k : ∀ b, S b → b < w.heap.size → S' b) : RdC S' w v x :=
  ⟨h.1, h.2.1, h.2.2.1.mono rStr_ok k, h.2.2.2.1.mono (rSl_ok rTok_ok) k, h.2.2.2.2.mono (rSl_ok rInt_ok) k⟩
theorem RdC.below {S : Nat → Prop} {w w' : World} {v : CV} {x : Col} (h : RdC S w v x) (hb : Below w.heap.size w w') : RdC S w' v x := h.keep (.below hb)
end Go.Proofs.YtaelfjlmkgimhaaGreatDoor
