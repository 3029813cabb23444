/- transcript.right for all kinds; the places of nodes, and that all are right. -/
import Derived.Test.YtbjanlmnmeegnaaDoorTRgA
import Derived.Test.YtbjanlmnmeegnaaDoorTRgC
import Derived.Test.YtbjanlmnmeegnaaDoorTRgD
import Derived.Test.YtbjanlmnmeegnaaDoorTRgF
import Derived.Test.YtbjanlmnmeegnaaDoorTIl
set_option linter.unusedVariables false
set_option linter.unusedSimpArgs false
namespace Go.Proofs.YtbjanlmnmeegnaaDoor
open Go.RowKit Go.Shelf

theorem rgt_out {k : Int} {t : ByteArray} {nn : Int} {ps : List Nd} {d : Nat} {tx : Bool} (h : ¬ (1 ≤ k ∧ k ≤ 11)) : ¬ rgtP k t nn ps d tx := fun q => h q.1.1
set_option maxRecDepth 100000 in
set_option maxHeartbeats 2000000 in
theorem right_no (k : Int) (t : ByteArray) (nn : Int) (ax : Option Addr) (cx : Nat) (lx : List Vl) (d : Nat) (tx : Bool) (w : World) (hk : ¬ (1 ≤ k ∧ k ≤ 11)) : Calls Tryd.prog 13 #[.agg #[.int .i64 k, .string t, .int .i64 nn, .slice ax lx.length cx, .int .i64 (d : Int), .bool tx]] w (RgtP (rgtP k t nn (lx.map Vl.er) d tx) w) := by
  have HP := Lib.hid (rgt_out (t := t) (nn := nn) (ps := lx.map Vl.er) (d := d) (tx := tx) hk)
  have HB : Hid (Below w.heap.size w ((w.alloc (.cells #[.int .i64 k, .string t, .int .i64 nn, .slice ax lx.length cx, .int .i64 (d : Int), .bool tx] 39)).alloc (.cells #[.int .i64 k, .string t, .int .i64 nn, .slice ax lx.length cx] 37))) := ((Below.refl _ _).alloc (Nat.le_refl _) _).alloc (by simp) _
  go_enter Tryd.func13, Tryd.ntmps13
  by_cases h1 : k < 1
  · have a1 : decide (k < 1) = true := by simpa using h1
    clear h1 hk
    go_wp2
    go_ret
    exact rgt_no (by decide) HP.out HB.out
  · have a1 : decide (k < 1) = false := by simpa using h1
    have a2 : decide (k > 11) = true := by simp; omega
    have a3 : decide (11 < k) = true := by simp; omega
    clear h1 hk
    go_wp2
    go_ret
    exact rgt_no (by decide) HP.out HB.out
theorem rgt_any (v : Vl) (d : Nat) (tx : Bool) (w : World) (ht : v.text.size ≤ 60000) (hE : TEnv w) :
    Calls Tryd.prog 13 #[.agg #[.int .i64 v.kind, .string v.text, .int .i64 v.num, v.sl, .int .i64 (d : Int), .bool tx]] w (RgtP (rgtP v.kind v.text v.num (v.items.map Vl.er) d tx) w) := by
  obtain ⟨k, nn, t, ax, cx, lx⟩ := v
  dsimp only [Vl.val, Vl.cells, Vl.kind, Vl.num, Vl.text, Vl.sl, Vl.addr, Vl.items, Vl.cap] at ht ⊢
  by_cases hk : 1 ≤ k ∧ k ≤ 11
  · rcases (show k = 1 ∨ k = 2 ∨ k = 3 ∨ k = 4 ∨ k = 5 ∨ k = 6 ∨ k = 7 ∨ k = 8 ∨ k = 9 ∨ k = 10 ∨ k = 11 by omega) with e | e | e | e | e | e | e | e | e | e | e <;> subst e
    · exact right_1 t nn ax cx lx d tx w ht hE
    · exact right_2 t nn ax cx lx d tx w ht hE
    · exact right_3 t nn ax cx lx d tx w ht hE
    · exact right_4 t nn ax cx lx d tx w ht hE
    · exact right_5 t nn ax cx lx d tx w ht hE
    · exact right_6 t nn ax cx lx d tx w ht hE
    · exact right_7 t nn ax cx lx d tx w ht hE
    · exact right_8 t nn ax cx lx d tx w ht hE
    · exact right_9 t nn ax cx lx d tx w ht hE
    · exact right_10 t nn ax cx lx d tx w ht hE
    · exact right_11 t nn ax cx lx d tx w ht hE
  · exact right_no k t nn ax cx lx d tx w hk
/-- A place is right. -/
def rgtX (p : Pl) : Prop := rgtP p.2.1.kind p.2.1.text p.2.1.num (p.2.1.items.map Vl.er) p.1 p.2.2
def ordT (tx : Bool) (l : List Nd) : Prop := (tx = true → noText l) ∧ ordL l
theorem rgt_lst {f d : Nat} (ih : ∀ l : List Vl, dptL (l.map Vl.er) + 1 ≤ f ∨ l = [] → ((∀ p ∈ gP f d l, rgtX p) ↔ fitL Ck Wk Nk true (l.map Vl.er) ∧ ordL (l.map Vl.er))) : ∀ (l : List Vl) (tx : Bool), dptL (l.map Vl.er) ≤ f →
    ((∀ p ∈ lstP (gP f d) d tx l, rgtX p) ↔ fitL Ck Wk Nk (decide (0 < d)) (l.map Vl.er) ∧ ordT tx (l.map Vl.er))
  | [], tx, _ => by simp [lstP, fitL, ordT, noText, ordL]
  | v :: r, tx, h => by
    rw [List.map_cons, dptL] at h
    have ihr := rgt_lst ih r (decide (v.kind = 1)) (by omega)
    have hd : dptL (v.items.map Vl.er) + 1 ≤ f ∨ v.items = [] := by
      have h1 : dptN v.er ≤ f := by omega
      rw [er_kind, dptN] at h1
      by_cases he : v.items = []
      · exact .inr he
      · rw [if_neg (by intro e; apply he; cases hq : v.items with | nil => rfl | cons => rw [hq] at e; cases e)] at h1
        exact .inl (by omega)
    have ihi := ih v.items hd
    rw [lstP, List.map_cons, fitL, er_kind, fitN]
    simp only [List.mem_cons, List.mem_append, forall_eq_or_imp]
    have hsplit : (∀ a, (a ∈ gP f d v.items ∨ a ∈ lstP (gP f d) d (decide (v.kind = 1)) r) → rgtX a) ↔ (∀ a ∈ gP f d v.items, rgtX a) ∧ ∀ a ∈ lstP (gP f d) d (decide (v.kind = 1)) r, rgtX a :=
      ⟨fun h => ⟨fun a ha => h a (.inl ha), fun a ha => h a (.inr ha)⟩, fun h a ha => ha.elim (h.1 a) (h.2 a)⟩
    rw [hsplit, ihi, ihr]
    unfold rgtX rgtP ordT
    simp only [ordL, ordN, noText]
    have e1 : (v.kind = 4 → d = 0) ↔ (v.kind = 4 → decide (0 < d) = false) := by
      constructor
      · intro h hk; rw [h hk]; rfl
      · intro h hk; have := h hk; rw [decide_eq_false_iff_not] at this; omega
    have e2 : (v.kind = 1 → tx = false) ↔ (tx = true → v.kind ≠ 1) := by
      constructor
      · intro h ht hk; rw [h hk] at ht; cases ht
      · intro h hk; cases tx with | false => rfl | true => exact absurd hk (h rfl)
    rw [e1, e2, decide_eq_true_eq]
    constructor
    · rintro ⟨⟨h1, h2, h3⟩, ⟨h4, h5⟩, h6, h7, h8⟩
      exact ⟨⟨⟨h1, h2, h4⟩, h6⟩, h3, h5, h7, h8⟩
    · rintro ⟨⟨⟨h1, h2, h4⟩, h6⟩, h3, h5, h7, h8⟩
      exact ⟨⟨h1, h2, h3⟩, ⟨h4, h5⟩, h6, h7, h8⟩
theorem rgt_gP : ∀ (f d : Nat) (l : List Vl), dptL (l.map Vl.er) + 1 ≤ f ∨ l = [] → ((∀ p ∈ gP f d l, rgtX p) ↔ fitL Ck Wk Nk true (l.map Vl.er) ∧ ordL (l.map Vl.er))
  | 0, d, l, h => by
    obtain rfl : l = [] := h.resolve_left (by omega)
    simp [gP, fitL, ordL]
  | f + 1, d, l, h => by
    show (∀ p ∈ visP f (d + 1) false l, rgtX p) ↔ _
    rw [visP_eq, rgt_lst (rgt_gP f (d + 1)) l false (by rcases h with h | h; · omega
                                                        · subst h; simp [dptL])]
    simp [ordT]
theorem rgt_all (f : Nat) (l : List Vl) (h : dptL (l.map Vl.er) ≤ f) : (∀ p ∈ visP f 0 false l, rgtX p) ↔ fitL Ck Wk Nk false (l.map Vl.er) ∧ ordL (l.map Vl.er) := by
  rw [visP_eq, rgt_lst (rgt_gP f 0) l false h]
  simp [ordT]
theorem lst_len {g : List Vl → List Pl} (hg : ∀ l, (g l).length ≤ cntL (l.map Vl.er)) (d : Nat) : ∀ (l : List Vl) (tx : Bool), (lstP g d tx l).length ≤ cntL (l.map Vl.er)
  | [], tx => Nat.le_refl _
  | v :: r, tx => by
    have h1 := lst_len hg d r (decide (v.kind = 1))
    have h2 := hg v.items
    rw [lstP, List.length_cons, List.length_append, List.map_cons, cntL, er_kind, cntN]; omega
theorem vis_lenP : ∀ (f d : Nat) (tx : Bool) (l : List Vl), (visP f d tx l).length ≤ cntL (l.map Vl.er)
  | 0, d, tx, l => lst_len (fun _ => Nat.zero_le _) d l tx
  | f + 1, d, tx, l => lst_len (fun l => vis_lenP f (d + 1) false l) d l tx
theorem lst_dep {g : List Vl → List Pl} {d : Nat} (hg : ∀ l, ∀ p ∈ g l, l ≠ [] ∧ p.1 ≤ d + 1 + dptL (l.map Vl.er)) : ∀ (l : List Vl) (tx : Bool), ∀ p ∈ lstP g d tx l, p.1 ≤ d + dptL (l.map Vl.er)
  | [], tx, p, hp => by cases hp
  | v :: r, tx, p, hp => by
    rw [List.map_cons, dptL, er_kind, dptN]
    rw [lstP] at hp
    rcases List.mem_cons.1 hp with rfl | hp
    · show d ≤ _; omega
    · rcases List.mem_append.1 hp with hp | hp
      · obtain ⟨h1, h2⟩ := hg _ p hp
        rw [if_neg (by intro e; apply h1; cases hq : v.items with | nil => rfl | cons => rw [hq] at e; cases e)]
        omega
      · have := lst_dep hg r _ p hp; omega
theorem vis_dep : ∀ (f d : Nat) (tx : Bool) (l : List Vl), ∀ p ∈ visP f d tx l, l ≠ [] ∧ p.1 ≤ d + dptL (l.map Vl.er)
  | 0, d, tx, l, p, hp => ⟨(by rintro rfl; cases hp), lst_dep (fun _ _ h => by cases h) l tx p hp⟩
  | f + 1, d, tx, l, p, hp => ⟨(by rintro rfl; cases hp), lst_dep (fun l p h => vis_dep f (d + 1) false l p h) l tx p hp⟩
theorem lst_txt {g : List Vl → List Pl} {d : Nat} (hg : ∀ l, ∀ p ∈ g l, p.2.1.text.size ≤ bytL (l.map Vl.er)) : ∀ (l : List Vl) (tx : Bool), ∀ p ∈ lstP g d tx l, p.2.1.text.size ≤ bytL (l.map Vl.er)
  | [], tx, p, hp => by cases hp
  | v :: r, tx, p, hp => by
    rw [List.map_cons, bytL, er_kind, bytN]
    rw [lstP] at hp
    rcases List.mem_cons.1 hp with rfl | hp
    · show v.text.size ≤ _; omega
    · rcases List.mem_append.1 hp with hp | hp
      · have := hg _ p hp; omega
      · have := lst_txt hg r _ p hp; omega
theorem vis_txt : ∀ (f d : Nat) (tx : Bool) (l : List Vl), ∀ p ∈ visP f d tx l, p.2.1.text.size ≤ bytL (l.map Vl.er)
  | 0, d, tx, l, p, hp => lst_txt (fun _ _ h => by cases h) l tx p hp
  | f + 1, d, tx, l, p, hp => lst_txt (fun l p h => vis_txt f (d + 1) false l p h) l tx p hp
end Go.Proofs.YtbjanlmnmeegnaaDoor
