/- What the reading has come to: the steps. -/
import Derived.Test.YtancjkaoocgeeaaDoorCStk
import Derived.Test.YtancjkaoocgeeaaDoorCScal
import Derived.Test.YtancjkaoocgeeaaDoorCDec
namespace Go.Proofs.YtancjkaoocgeeaaDoor
open Go.RowKit

theorem decStep_push {top : List V} {below : List (List V)} {r : List UInt8} (h : ¬ (below = [] ∧ top.length = 1)) : decStep top below (108 :: r) = .inr ([], top :: below, r) := by
  unfold decStep
  split
  · exact absurd ⟨rfl, rfl⟩ h
  · rename_i h1; cases h1
  · rename_i h1; cases h1; rfl
theorem decStep_list {top b : List V} {bs : List (List V)} {r : List UInt8} : decStep top (b :: bs) (101 :: r) = .inr (b ++ [.mk 3 0 ⟨#[]⟩ top], bs, r) := by
  rcases top with _ | ⟨x, _ | ⟨y, t⟩⟩ <;> rfl
theorem decStep_leaf {top : List V} {below : List (List V)} {s : List UInt8} (h : ¬ (below = [] ∧ top.length = 1)) (hs : ∀ c r, s = c :: r → c ≠ 108 ∧ (c = 101 → below = [])) : decStep top below s = leafStep top below s := by
  cases s with
  | nil =>
    unfold decStep
    split
    · exact absurd ⟨rfl, rfl⟩ h
    · rfl
    · rename_i h1; cases h1
  | cons c r =>
    obtain ⟨h1, h2⟩ := hs c r rfl
    have key : ∀ (t : List V) (b : List (List V)), (c = 101 → b = []) → (if c = 108 then .inr ([], t :: b, r) else if c = 101 then (match b with | [] => leafStep t [] (c :: r) | b0 :: bs => .inr (b0 ++ [V.mk 3 0 ⟨#[]⟩ t], bs, r)) else leafStep t b (c :: r)) = leafStep t b (c :: r) := by
      intro t b hb
      rw [if_neg h1]
      by_cases h3 : c = 101
      · rw [if_pos h3, hb h3]
      · rw [if_neg h3]
    rcases top with _ | ⟨x, _ | ⟨y, t⟩⟩ <;> rcases below with _ | ⟨b, bs⟩
    · exact key [] [] h2
    · exact key [] (b :: bs) h2
    · exact absurd ⟨rfl, rfl⟩ h
    · exact key [x] (b :: bs) h2
    · exact key (x :: y :: t) [] h2
    · exact key (x :: y :: t) (b :: bs) h2
/-- The stack without addresses, the innermost list first. -/
def erB (ll : List (List Vl)) : List (List V) := (ll.map fun l => l.map Vl.er).reverse
/-- What the reading has come to. -/
structure DSt (s0 : ByteArray) (W0 : World) (B : Nat) (s : ByteArray) (a : Option Addr) (n c : Nat) (S : Nat → Prop) (ll : List (List Vl)) (top : List Vl) (w : World) : Prop where
  own : OwnVV S w B a n c (ll ++ [top])
  low : ∀ b, S b → B ≤ b
  to : decR (top.map Vl.er) (erB ll) s.data.toList = decR [] [] s0.data.toList
  deep : ll.length + s.size ≤ s0.size
  long : ∀ l ∈ ll ++ [top], l.length + s.size ≤ s0.size
  below : Below B W0 w
/-- What Decode answers. -/
def DecPost (s : ByteArray) (w : World) (e : Ending) (w' : World) : Prop := ∃ (S : Nat → Prop) (v : Vl), e = .returned (.tuple #[v.val, .int .i64 (decode s.data.toList).2]) ∧ v.er = (decode s.data.toList).1 ∧ Rd S w' v ∧ (∀ b, S b → w.heap.size ≤ b ∧ b < w'.heap.size) ∧ Below w.heap.size w w'
theorem rd_zero (S : Nat → Prop) (w : World) : Rd S w (mkLeaf 0 0 ⟨#[]⟩) := rd_iff.2 ⟨I64.zero, I64.zero, by show 0 ≤ _; omega, Vals.nil S w⟩
theorem dec_fail {s : ByteArray} {w w' : World} {k : Int} (h : decode s.data.toList = (zeroV, k)) (hb : Below w.heap.size w w') : DecPost s w (.returned (.tuple #[(mkLeaf 0 0 ⟨#[]⟩).val, .int .i64 k])) w' :=
  ⟨fun _ => False, mkLeaf 0 0 ⟨#[]⟩, by rw [h], by rw [h, leaf_er]; rfl, rd_zero _ _, fun _ h => h.elim, hb⟩
def decFin : Option (V × List UInt8) → V × Int
  | none => (zeroV, 3)
  | some p => if p.2 = [] then (if chkV p.1 = 0 then (p.1, 0) else (zeroV, 4)) else (zeroV, 3)
theorem decode_of {l : List UInt8} {x : Option (V × List UInt8)} (hl : l.length ≤ 1048576) (h : x = decR [] [] l) : decode l = decFin x := by
  subst h
  rw [decode, if_neg (by omega)]
  cases decR [] [] l <;> rfl
theorem decFin_nil (v : V) : decFin (some (v, [])) = if chkV v = 0 then (v, 0) else (zeroV, 4) := rfl
theorem decFin_rest {v : V} {r : List UInt8} (h : r ≠ []) : decFin (some (v, r)) = (zeroV, 3) := if_neg h
theorem erB_nil {ll : List (List Vl)} : erB ll = [] ↔ ll = [] := by simp [erB]
theorem erB_snoc (ll : List (List Vl)) (l : List Vl) : erB (ll ++ [l]) = l.map Vl.er :: erB ll := by simp [erB]
section
variable {s0 : ByteArray} {W0 w w' : World} {B n c c' : Nat} {s s' : ByteArray} {a a' : Option Addr} {S S' : Nat → Prop} {ll : List (List Vl)} {top : List Vl}
theorem len_list {s : ByteArray} {l : List UInt8} (h : s.data.toList = l) : s.size = l.length := (Array.length_toList).symm.trans (congrArg List.length h)
theorem DSt.push (h : DSt s0 W0 B s a n c S ll top w) (hA : ¬ (ll = [] ∧ top.length = 1)) {r : List UInt8} (hs : s.data.toList = 108 :: r) (hs' : s'.data.toList = r)
    (ho : OwnVV S w' B a' (n + 1) c' ((ll ++ [top]) ++ [[]])) (hb : Below B W0 w') : DSt s0 W0 B s' a' (n + 1) c' S (ll ++ [top]) [] w' := by
  have z1 := len_list hs
  have z2 := len_list hs'
  rw [List.length_cons] at z1
  have hd := h.deep
  refine ⟨ho, h.low, ?_, by rw [List.length_append, List.length_singleton]; omega, fun l hl => ?_, hb⟩
  · rw [← h.to, hs, hs', decR_step (top.map Vl.er), decStep_push (by rw [erB_nil]; simpa using hA), erB_snoc]; rfl
  · rcases List.mem_append.1 hl with hl | hl
    · have := h.long l hl; omega
    · rw [List.mem_singleton] at hl; subst hl; simp; omega
theorem DSt.leaf (h : DSt s0 W0 B s a n c S ll top w) (hA : ¬ (ll = [] ∧ top.length = 1)) (hs : ∀ ch r, s.data.toList = ch :: r → ch ≠ 108 ∧ (ch = 101 → ll = [])) {k nn : Int} {t : ByteArray}
    (hp : scalP s.data.toList = some (.mk k nn t [], s'.data.toList))
    (ho : OwnVV S w' B a' n c' (ll ++ [top ++ [mkLeaf k nn t]])) (hb : Below B W0 w') : DSt s0 W0 B s' a' n c' S ll (top ++ [mkLeaf k nn t]) w' := by
  have z1 := scalP_lt hp
  rw [Array.length_toList, Array.length_toList] at z1
  change s'.size < s.size at z1
  have hd := h.deep
  refine ⟨ho, h.low, ?_, by omega, fun l hl => ?_, hb⟩
  · rw [← h.to, decR_step (top.map Vl.er), decStep_leaf (by rw [erB_nil]; simpa using hA) (by rw [erB_nil]; exact hs), leafStep, hp, List.map_append, List.map_singleton, leaf_er]
  · rcases List.mem_append.1 hl with hl | hl
    · have := h.long l (List.mem_append_left _ hl); omega
    · rw [List.mem_singleton] at hl; subst hl
      have := h.long top (by simp)
      rw [List.length_append, List.length_singleton]; omega
theorem DSt.none (h : DSt s0 W0 B s a n c S ll top w) (hA : ¬ (ll = [] ∧ top.length = 1)) (hs : ∀ ch r, s.data.toList = ch :: r → ch ≠ 108 ∧ (ch = 101 → ll = []))
    (hp : scalP s.data.toList = none) (h0 : s0.size ≤ 1048576) : decode s0.data.toList = (zeroV, 3) := by
  have := h.to
  rw [decR_step (top.map Vl.er), decStep_leaf (by rw [erB_nil]; simpa using hA) (by rw [erB_nil]; exact hs), leafStep, hp] at this
  exact decode_of (x := Option.none) (by rw [Array.length_toList]; exact h0) this
theorem DSt.list {b : List Vl} (h : DSt s0 W0 B s a (n + 1) c S (ll ++ [b]) top w) {r : List UInt8} (hs : s.data.toList = 101 :: r) (hs' : s'.data.toList = r) {al : Option Addr} {cl : Nat}
    (ho : OwnVV S' w' B a' n c' (ll ++ [b ++ [mkList al cl top]])) (hlow : ∀ b, S' b → B ≤ b) (hb : Below B W0 w') : DSt s0 W0 B s' a' n c' S' ll (b ++ [mkList al cl top]) w' := by
  have z1 := len_list hs
  have z2 := len_list hs'
  rw [List.length_cons] at z1
  have hd := h.deep
  rw [List.length_append, List.length_singleton] at hd
  refine ⟨ho, hlow, ?_, by omega, fun l hl => ?_, hb⟩
  · rw [← h.to, hs, hs', decR_step (top.map Vl.er), erB_snoc, decStep_list, List.map_append, List.map_singleton, Vl.er, Vl.erL_map]
  · rcases List.mem_append.1 hl with hl | hl
    · have := h.long l (by simp [hl]); omega
    · rw [List.mem_singleton] at hl; subst hl
      have := h.long b (by simp)
      rw [List.length_append, List.length_singleton]; omega
end
end Go.Proofs.YtancjkaoocgeeaaDoor
