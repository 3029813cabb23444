/- What the laid variables hold; the value of a node's tag. -/
import Derived.Test.YtbjanlmnmeegnaaDoorTGre
import Derived.Test.YtbjanlmnmeegnaaDoorEPut
import Derived.Test.YtbjanlmnmeegnaaDoorEGap
import Derived.Test.YtbjanlmnmeegnaaDoorShelf
import Derived.Lib.ItoaLen
import Derived.FnData
set_option linter.unusedVariables false
set_option linter.unusedSimpArgs false
namespace Go.Proofs.YtbjanlmnmeegnaaDoor
open Go.RowKit Go.Shelf

def formsL : List (ByteArray × Bool × Bool × Bool) := [(⟨#[]⟩, false, false, false), (⟨#[]⟩, true, false, false), (⟨#[108, 98]⟩, false, false, false), (⟨#[112, 98]⟩, true, false, false), (⟨#[115, 101, 99]⟩, true, false, false), (⟨#[118]⟩, false, false, false), (⟨#[103, 97, 112]⟩, false, true, false),
  (⟨#[117, 110, 99, 108, 101, 97, 114]⟩, false, false, true), (⟨#[97, 100, 100]⟩, false, true, true), (⟨#[100, 101, 108]⟩, false, true, true), (⟨#[97, 98]⟩, true, false, true), (⟨#[110, 97, 109, 101]⟩, true, false, true)]
def formsA : Array Value := (formsL.flatMap fun x => [.string x.1, .bool x.2.1, .bool x.2.2.1, .bool x.2.2.2]).toArray
def tagF (k : Nat) : ByteArray := (formsL.getD k (⟨#[]⟩, false, false, false)).1
def txF (k : Nat) : Bool := decide (k = 1 ∨ k = 3 ∨ k = 4 ∨ k = 10 ∨ k = 11)
def nuF (k : Nat) : Bool := decide (k = 6 ∨ k = 8 ∨ k = 9)
def paF (k : Nat) : Bool := decide (7 ≤ k)
/-- What the variables hold. -/
structure TEnv (w : World) : Prop where
  tab : Lib.TabIs Tryd.prog w "internal/strconv.uint64pow10" .u64 Lib.pow10Tab
  frm : w.var? Tryd.prog "apograph/transcript.forms" = some formsA
theorem TEnv.below {w w' : World} (h : TEnv w) (hb : Below w.heap.size w w') : TEnv w' := ⟨var_below hb h.1, var_below hb h.2⟩
theorem forms_at {w : World} (h : TEnv w) (off : Nat) : w.cell? ⟨0, off, none⟩ = formsA[off]? := World.var?_cell (by kernel_rfl) h.frm off
theorem forms_k {w : World} (h : TEnv w) {k : Nat} (hk : k ≤ 11) : w.cell? ⟨0, k * 4, none⟩ = some (.string (tagF k)) ∧ w.cell? ⟨0, k * 4 + 1, none⟩ = some (.bool (txF k)) ∧ w.cell? ⟨0, k * 4 + 2, none⟩ = some (.bool (nuF k)) ∧ w.cell? ⟨0, k * 4 + 3, none⟩ = some (.bool (paF k)) := by
  simp only [forms_at h]
  rcases (show k = 0 ∨ k = 1 ∨ k = 2 ∨ k = 3 ∨ k = 4 ∨ k = 5 ∨ k = 6 ∨ k = 7 ∨ k = 8 ∨ k = 9 ∨ k = 10 ∨ k = 11 by omega) with e | e | e | e | e | e | e | e | e | e | e | e <;> subst e <;> exact ⟨rfl, rfl, rfl, rfl⟩
theorem tag_len {k : Nat} (hk : k ≤ 11) : (tagF k).size ≤ 7 := by
  rcases (show k = 0 ∨ k = 1 ∨ k = 2 ∨ k = 3 ∨ k = 4 ∨ k = 5 ∨ k = 6 ∨ k = 7 ∨ k = 8 ∨ k = 9 ∨ k = 10 ∨ k = 11 by omega) with e | e | e | e | e | e | e | e | e | e | e | e <;> subst e <;> decide
theorem itoa_t (n : Int) (hn : I64 n) (w : World) (hE : TEnv w) : Calls Tryd.prog 37 #[.int .i64 n] w fun e w' => e = .returned (.string ⟨(Lib.itoa n).toArray⟩) ∧ Below w.heap.size w w' := by
  refine (Tryd.strconv_Itoa n hn.1 hn.2 w hE.tab).mono ?_
  rintro e w' ⟨rfl, k, os, rfl⟩
  exact ⟨rfl, below_grow os.toList _ (below_drewN (Below.refl _ _) k) (Nat.le_refl _)⟩
/-- What value answers. -/
def ValP (m : Nat) (w : World) (e : Ending) (w' : World) : Prop := ∃ s : ByteArray, e = .returned (.string s) ∧ s.size ≤ m ∧ Below w.heap.size w w'
set_option maxRecDepth 100000 in
set_option maxHeartbeats 2000000 in
theorem value_any (K : Nat) (nn : Int) (t : ByteArray) (ax : Option Addr) (cx : Nat) (lx : List Vl) (w : World) (hk : K ≤ 11) (hn : I64 nn) (ht : t.size ≤ 1000000) (hE : TEnv w) : Calls Tryd.prog 25 #[.agg #[.int .i64 (K : Int), .string t, .int .i64 nn, .slice ax lx.length cx]] w (ValP (t.size + 22) w) := by
  have HT := Lib.hid ht
  have HN := Lib.hid hn
  have hb1 : Below w.heap.size w (w.alloc (.cells #[.int .i64 (K : Int), .string t, .int .i64 nn, .slice ax lx.length cx] 37)) := (Below.refl _ _).alloc (Nat.le_refl _) _
  have HB1 := Lib.hid hb1
  obtain ⟨f0, f1, f2, f3⟩ := forms_k (hE.below hb1) hk
  have HE1 := Lib.hid hE
  obtain ⟨x0, x1, x2, x3, fx⟩ := box_cells4 (World.alloc_heap_new w (.cells #[.int .i64 (K : Int), .string t, .int .i64 nn, .slice ax lx.length cx] 37))
  have hk12 : K < 12 := by omega
  have HTG := Lib.hid (tag_len hk)
  clear hb1 hE hk ht hn
  go_enter Tryd.func25, Tryd.ntmps25
  generalize tagF K = tg at *
  generalize hq1 : txF K = q1 at *
  generalize hq2 : nuF K = q2 at *
  generalize paF K = q3 at *
  clear hq1 hq2
  have hw2 : Hid (∀ a b c d, Below w.heap.size w ((w.alloc (.cells #[.int .i64 (K : Int), .string t, .int .i64 nn, .slice ax lx.length cx] 37)).alloc (.cells #[.string a, .bool b, .bool c, .bool d] 46))) := fun a b c d => HB1.out.alloc HB1.out.size _
  cases q1
  · cases q2
    · go_wp2
      go_ret
      exact ⟨_, rfl, Nat.zero_le _, hw2.out _ _ _ _⟩
    · have HI := Lib.hid (itoa_t nn HN.out _ (HE1.out.below (hw2.out tg false true q3)))
      have hil := Lib.itoa_length_le nn HN.out.1 HN.out.2
      have hiz : (⟨(Lib.itoa nn).toArray⟩ : ByteArray).size ≤ 21 := by simpa [ByteArray.size] using hil
      generalize (⟨(Lib.itoa nn).toArray⟩ : ByteArray) = IT at *
      have hs1 : ¬ 9223372036854775807 < (⟨#[32]⟩ : ByteArray).size + IT.size := by have : (⟨#[32]⟩ : ByteArray).size = 1 := rfl; omega
      have hs2 : ¬ 9223372036854775807 < 1 + IT.size := by omega
      have HIZ := Lib.hid hiz
      clear hil hiz
      go_wp2_with fail
      refine HI.out.mono ?_
      rintro e w3 ⟨rfl, hst⟩
      have HW := Lib.hid ((hw2.out tg false true q3).trans (hst.mono (hw2.out tg false true q3).size))
      clear hst HI
      go_wp2
      go_ret
      exact ⟨_, rfl, by rw [ByteArray.size_append]; have : (⟨#[32]⟩ : ByteArray).size = 1 := rfl; have := HIZ.out; omega, HW.out⟩
  · have hs1 : ¬ 9223372036854775807 < (⟨#[32]⟩ : ByteArray).size + t.size := by have : (⟨#[32]⟩ : ByteArray).size = 1 := rfl; have := HT.out; omega
    have hs2 : ¬ 9223372036854775807 < 1 + t.size := by have := HT.out; omega
    go_wp2
    go_ret
    exact ⟨_, rfl, by rw [ByteArray.size_append]; have : (⟨#[32]⟩ : ByteArray).size = 1 := rfl; omega, hw2.out _ _ _ _⟩
end Go.Proofs.YtbjanlmnmeegnaaDoor
