/- Columns of many sources: one source more, two of the sources, another order. No program here. -/
import Derived.Test.YtaelfjlmkgimhaaGreatDoorPPln
set_option linter.unusedVariables false
namespace Go.Proofs.YtaelfjlmkgimhaaGreatDoor

/-- A column of many sources: the number of a token, or none. -/
abbrev Cm := List (Option Nat)
def ent1 (s : Nat) (c : Cm) : Option Nat := (c[s]?).getD none
/-- A column and a token of a further source. -/
def ext (L : Nat) (x : Cln Cm Nat) : Cm := (x.1.getD (List.replicate L none)) ++ [x.2]
/-- The columns of two of the sources. -/
def prs (s u : Nat) (l : List Cm) : List (Cln Nat Nat) := (l.map fun c => (ent1 s c, ent1 u c)).filter fun x => x.1.isSome || x.2.isSome
/-- Columns of sources that have so many tokens. -/
structure Vc (lens : List Nat) (l : List Cm) : Prop where
  len : ∀ c ∈ l, c.length = lens.length
  some : ∀ c ∈ l, ∃ s k, ent1 s c = Option.some k
  all : ∀ s n, lens[s]? = Option.some n → l.filterMap (ent1 s) = List.range n
theorem prs_ne {s u : Nat} {l : List Cm} : ∀ c ∈ prs s u l, c ≠ (none, none) := fun c hc e => by
  subst e; simp [prs] at hc
theorem prs_fst (s u : Nat) : ∀ l : List Cm, (prs s u l).filterMap (·.1) = l.filterMap (ent1 s)
  | [] => rfl
  | c :: l => by
    have ih := prs_fst s u l
    unfold prs at ih ⊢
    rw [List.map_cons, List.filter_cons]
    cases h1 : ent1 s c with
    | some k => rw [List.filterMap_cons_some h1]; simp only [Option.isSome_some, Bool.true_or, if_true]; rw [List.filterMap_cons_some (f := Prod.fst) rfl, ih]
    | none =>
      rw [List.filterMap_cons_none h1]
      split
      · rw [List.filterMap_cons_none (f := Prod.fst) rfl, ih]
      · exact ih
theorem prs_snd (s u : Nat) : ∀ l : List Cm, (prs s u l).filterMap (·.2) = l.filterMap (ent1 u)
  | [] => rfl
  | c :: l => by
    have ih := prs_snd s u l
    unfold prs at ih ⊢
    rw [List.map_cons, List.filter_cons]
    cases h1 : ent1 u c with
    | some k => rw [List.filterMap_cons_some h1]; simp only [Option.isSome_some, Bool.or_true, if_true]; rw [List.filterMap_cons_some (f := Prod.snd) rfl, ih]
    | none =>
      rw [List.filterMap_cons_none h1]
      split
      · rw [List.filterMap_cons_none (f := Prod.snd) rfl, ih]
      · exact ih
/-- In whatever columns: no pair is cheaper than the least alignment of its two sources. -/
theorem prs_least {lens : List Nat} {l : List Cm} (h : Vc lens l) (p : Nat → Nat → Nat) (g f : Nat → Nat) {s u n m : Nat} (hs : lens[s]? = some n) (hu : lens[u]? = some m) :
    lst p g f (List.range n) (List.range m) ≤ cstL p g f (prs s u l) := by
  have := lst_le p g f (prs s u l) prs_ne
  rwa [prs_fst, prs_snd, h.all s n hs, h.all u m hu] at this
theorem ent1_rep (s L : Nat) (o : Option Nat) (h : s < L) : ent1 s (List.replicate L none ++ [o]) = none := by
  unfold ent1; rw [List.getElem?_append_left (by simpa using h), List.getElem?_replicate, if_pos h]; rfl
theorem ent1_ext_lt {L s : Nat} {x : Cln Cm Nat} (hL : ∀ c, x.1 = some c → c.length = L) (hs : s < L) : ent1 s (ext L x) = match x.1 with | some c => ent1 s c | none => none := by
  obtain ⟨a, b⟩ := x
  cases a with
  | none => exact ent1_rep s L b hs
  | some c =>
    have := hL c rfl
    unfold ext ent1; dsimp only [Option.getD_some]; rw [List.getElem?_append_left (by omega)]
theorem ent1_ext_last {L : Nat} {x : Cln Cm Nat} (hL : ∀ c, x.1 = some c → c.length = L) : ent1 L (ext L x) = x.2 := by
  obtain ⟨a, b⟩ := x
  cases a with
  | none => unfold ext ent1; dsimp only [Option.getD_none]; rw [List.getElem?_append_right (by simp)]; simp
  | some c =>
    have := hL c rfl
    unfold ext ent1; dsimp only [Option.getD_some]; rw [List.getElem?_append_right (by omega)]; simp [this]
theorem ext_fil {L s : Nat} (hs : s < L) : ∀ l : List (Cln Cm Nat), (∀ x ∈ l, ∀ c, x.1 = some c → c.length = L) → (l.map (ext L)).filterMap (ent1 s) = (l.filterMap (·.1)).filterMap (ent1 s)
  | [], _ => rfl
  | x :: l, h => by
    have ih := ext_fil hs l (fun y hy => h y (List.mem_cons_of_mem _ hy))
    have e := ent1_ext_lt (h x List.mem_cons_self) hs
    rw [List.map_cons, List.filterMap_cons, e]
    obtain ⟨a, b⟩ := x
    cases a with
    | none => rw [List.filterMap_cons_none (f := Prod.fst) rfl]; exact ih
    | some c => rw [List.filterMap_cons_some (f := Prod.fst) rfl, List.filterMap_cons, ih]
theorem ext_last {L : Nat} : ∀ l : List (Cln Cm Nat), (∀ x ∈ l, ∀ c, x.1 = some c → c.length = L) → (l.map (ext L)).filterMap (ent1 L) = l.filterMap (·.2)
  | [], _ => rfl
  | x :: l, h => by
    rw [List.map_cons, List.filterMap_cons, List.filterMap_cons, ent1_ext_last (h x List.mem_cons_self), ext_last l (fun y hy => h y (List.mem_cons_of_mem _ hy))]
theorem ext_prs {L s u : Nat} (hs : s < L) (hu : u < L) : ∀ l : List (Cln Cm Nat), (∀ x ∈ l, ∀ c, x.1 = some c → c.length = L) → prs s u (l.map (ext L)) = prs s u (l.filterMap (·.1))
  | [], _ => rfl
  | x :: l, h => by
    have ih := ext_prs hs hu l (fun y hy => h y (List.mem_cons_of_mem _ hy))
    have e1 := ent1_ext_lt (h x List.mem_cons_self) hs
    have e2 := ent1_ext_lt (h x List.mem_cons_self) hu
    unfold prs at ih ⊢
    rw [List.map_cons, List.map_cons, e1, e2]
    obtain ⟨a, b⟩ := x
    cases a with
    | none => rw [List.filterMap_cons_none (f := Prod.fst) rfl]; simpa using ih
    | some c => rw [List.filterMap_cons_some (f := Prod.fst) rfl, List.map_cons, List.filter_cons, List.filter_cons, ih]
/-- A source more. -/
def addC (p : Cm → Nat → Nat) (g : Cm → Nat) (f : Nat → Nat) (L : Nat) (l : List Cm) (m : Nat) : List Cm := (way p g f l (List.range m)).map (ext L)
theorem way_len {p : Cm → Nat → Nat} {g : Cm → Nat} {f : Nat → Nat} {L m : Nat} {l : List Cm} (hl : ∀ c ∈ l, c.length = L) : ∀ x ∈ way p g f l (List.range m), ∀ c, x.1 = some c → c.length = L := fun x hx c hc => by
  have h := (way_ok p g f _ l (List.range m) (Nat.le_refl _)).1
  refine hl c ?_
  rw [← h]; exact List.mem_filterMap.2 ⟨x, hx, hc⟩
theorem addC_vc {p : Cm → Nat → Nat} {g : Cm → Nat} {f : Nat → Nat} {lens : List Nat} {l : List Cm} (h : Vc lens l) (m : Nat) : Vc (lens ++ [m]) (addC p g f lens.length l m) := by
  obtain ⟨w1, w2, w3, -⟩ := way_ok p g f _ l (List.range m) (Nat.le_refl _)
  have hl := way_len (p := p) (g := g) (f := f) (m := m) h.len
  refine ⟨fun c hc => ?_, fun c hc => ?_, fun s n hs => ?_⟩
  · obtain ⟨x, hx, rfl⟩ := List.mem_map.1 hc
    obtain ⟨a, b⟩ := x
    cases a with
    | none => simp [ext]
    | some d => have := hl _ hx d rfl; simp [ext, this]
  · obtain ⟨x, hx, rfl⟩ := List.mem_map.1 hc
    have hne := w3 x hx
    have e := ent1_ext_last (hl x hx)
    obtain ⟨a, b⟩ := x
    cases b with
    | some k => exact ⟨lens.length, k, e⟩
    | none =>
      cases a with
      | none => exact absurd rfl hne
      | some d =>
        obtain ⟨s, k, hk⟩ := h.some d (by rw [← w1]; exact List.mem_filterMap.2 ⟨_, hx, rfl⟩)
        have hsl : s < lens.length := by
          rw [← h.len d (by rw [← w1]; exact List.mem_filterMap.2 ⟨_, hx, rfl⟩)]
          apply Classical.byContradiction
          intro hn
          rw [ent1, List.getElem?_eq_none (by omega)] at hk; cases hk
        exact ⟨s, k, by rw [ent1_ext_lt (hl _ hx) hsl]; exact hk⟩
  · by_cases hsl : s < lens.length
    · rw [List.getElem?_append_left hsl] at hs
      rw [addC, ext_fil hsl _ hl, w1, h.all s n hs]
    · have hsl2 := (List.getElem?_eq_some_iff.1 hs).1
      simp at hsl2
      have hse : s = lens.length := by omega
      subst hse
      rw [List.getElem?_append_right (Nat.le_refl _)] at hs
      simp at hs
      subst hs
      rw [addC, ext_last _ hl, w2]
/-- What the earlier pairs cost stays. -/
theorem addC_prs {p : Cm → Nat → Nat} {g : Cm → Nat} {f : Nat → Nat} {L s u m : Nat} {l : List Cm} (hl : ∀ c ∈ l, c.length = L) (hs : s < L) (hu : u < L) : prs s u (addC p g f L l m) = prs s u l := by
  rw [addC, ext_prs hs hu _ (way_len hl), (way_ok p g f _ l (List.range m) (Nat.le_refl _)).1]
theorem lst_map {α β γ : Type} (q : γ → α) (p : α → β → Nat) (g : α → Nat) (f : β → Nat) : ∀ (n : Nat) (a : List γ) (b : List β), a.length + b.length ≤ n → lst p g f (a.map q) b = lst (fun x y => p (q x) y) (fun x => g (q x)) f a b
  | _, [], [], _ => by rw [List.map_nil, lst_00, lst_00]
  | 0, x :: a, b, hn => by simp at hn
  | 0, [], y :: b, hn => by simp at hn
  | n + 1, x :: a, [], hn => by rw [List.map_cons, lst_10, lst_10, lst_map q p g f n a [] (by simp at hn ⊢; omega)]
  | n + 1, [], y :: b, hn => by
    have := lst_map q p g f n [] b (by simp at hn ⊢; omega)
    rw [List.map_nil] at this ⊢
    rw [lst_01, lst_01, this]
  | n + 1, x :: a, y :: b, hn => by
    simp only [List.length_cons] at hn
    have h1 := lst_map q p g f n a b (by omega)
    have h2 := lst_map q p g f n a (y :: b) (by simp only [List.length_cons]; omega)
    have h3 := lst_map q p g f n (x :: a) b (by simp only [List.length_cons]; omega)
    rw [List.map_cons] at h3 ⊢
    rw [lst_11, lst_11, h1, h2, h3]
end Go.Proofs.YtaelfjlmkgimhaaGreatDoor
