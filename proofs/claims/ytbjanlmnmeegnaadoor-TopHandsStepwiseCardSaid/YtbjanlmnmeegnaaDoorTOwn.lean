/- An own slice of nodes. -/
import Derived.Test.YtbjanlmnmeegnaaDoorTWq
set_option linter.unusedVariables false
set_option linter.unusedSimpArgs false
namespace Go.Proofs.YtbjanlmnmeegnaaDoor
open Go.RowKit

abbrev encN (v : Vl) : List Value := v.cells.toList
theorem encN_len (v : Vl) : (encN v).length = 4 := rfl
theorem encN_one (v : Vl) : ∀ x ∈ encN v, x.oneCell' = true := by
  intro x h
  simp [encN, Vl.cells, Vl.sl] at h
  rcases h with rfl | rfl | rfl | rfl <;> rfl
theorem infoN : (Tryd.prog.info? 37).map (fun i => (i.zero, i.size, i.bytes)) = some (some (.agg #[.int .i64 0, .string ⟨#[]⟩, .int .i64 0, .slice none 0 0]), 4, 56) := by kernel_rfl
/-- The slice is the call's own, and reads as nodes whose parts lie in S. -/
def OwnN (S : Nat → Prop) (w : World) (B : Nat) (a : Option Addr) (n cap : Nat) (l : List Vl) : Prop := OwnQ 37 4 encN w B a n cap l ∧ ∀ u ∈ l, Rd S w u
namespace OwnN
variable {S S' : Nat → Prop} {w w' : World} {B : Nat} {a : Option Addr} {n cap : Nat} {l : List Vl}
theorem nil (S : Nat → Prop) (w : World) (B : Nat) : OwnN S w B none 0 0 [] := ⟨OwnQ.nil _ _ _ _ _, by simp⟩
theorem len (h : OwnN S w B a n cap l) : n = l.length := h.1.len
theorem below (h : OwnN S w B a n cap l) (hb : Below w.heap.size w w') : OwnN S w' B a n cap l := ⟨h.1.below hb, fun u hu => (h.2 u hu).below hb⟩
theorem mono {B' : Nat} (h : OwnN S w B a n cap l) (hB : B' ≤ B) : OwnN S w B' a n cap l := ⟨h.1.mono hB, h.2⟩
theorem monoS (h : OwnN S w B a n cap l) (hS : ∀ b, S b → b < w.heap.size → S' b) : OwnN S' w B a n cap l := ⟨h.1, fun u hu => (h.2 u hu).mono hS⟩
theorem vals (h : OwnN S w B a n cap l) (hn : n * 56 ≤ 140737488355328) (hS : ∀ b, S b → S' b) (ha : ∀ x, a = some x → S' x.block) : Vals S' w a n cap l := by
  refine ⟨h.1.len, h.1.cap_le, hn, fun j v hj => ⟨?_, (h.2 v (List.mem_of_getElem? hj)).mono (fun b hb _ => hS b hb)⟩⟩
  obtain ⟨y, g, h1, h2, rfl, h3, h4, -, h5⟩ := h.1.at_ encN_len (j := j) (by rw [h.1.len]; exact (List.getElem?_eq_some_iff.1 hj).1)
  rw [hj] at h1; cases h1
  refine ⟨g, 0, rfl, ha _ rfl, ?_⟩
  rw [Nat.zero_add]
  exact ⟨h5 0 _ rfl, h5 1 _ rfl, h5 2 _ rfl, h5 3 _ rfl⟩
/-- Own again where the own block stays, and so do the parts. -/
theorem keepS {T : Nat → Prop} (h : OwnN S w B a n cap l) (k : KeepS T w w') (ho : ∀ x, a = some x → T x.block) (hS : ∀ b, S b → T b) : OwnN S w' B a n cap l :=
  ⟨h.1.keepS k ho, fun u hu => (h.2 u hu).keep (k.mono hS)⟩
end OwnN
theorem vals_newsN {S : Nat → Prop} {w : World} {b off n c : Nat} {l : List Vl} (h : Vals S w (some ⟨b, off, none⟩) n c l) : ∀ j u, (l.flatMap encN)[j]? = some u → w.cell? ((⟨b, off, none⟩ : Addr).add j) = some u := by
  intro j u hj
  have hjl : j < l.length * 4 := by rw [← flat_len encN_len]; exact (List.getElem?_eq_some_iff.1 hj).1
  obtain ⟨v, hv⟩ : ∃ v, l[j / 4]? = some v := ⟨_, List.getElem?_eq_getElem (by omega)⟩
  obtain ⟨⟨b', off', e, _, c1, c2, c3, c4⟩, _⟩ := h.2.2.2 _ _ hv
  cases e
  have := flat_get encN_len l (j / 4) v (j % 4) hv (Nat.mod_lt _ (by omega))
  rw [show j / 4 * 4 + j % 4 = j by omega, hj] at this
  rw [Addr.add_lit]
  rcases (show j % 4 = 0 ∨ j % 4 = 1 ∨ j % 4 = 2 ∨ j % 4 = 3 by omega) with e | e | e | e <;> rw [e] at this
  · rw [show off + j = off + j / 4 * 4 by omega, c1, this]; rfl
  · rw [show off + j = off + j / 4 * 4 + 1 by omega, c2, this]; rfl
  · rw [show off + j = off + j / 4 * 4 + 2 by omega, c3, this]; rfl
  · rw [show off + j = off + j / 4 * 4 + 3 by omega, c4, this]; rfl
/-- The breaks among all nodes are the breaks. -/
def isB (v : Vl) : Bool := decide (v.kind = 2 ∨ v.kind = 3 ∨ v.kind = 4)
mutual
theorem brks_visN : ∀ v : Vl, ((visN v).filter isB).map Vl.er = brksN v.er
  | .mk k n t a c l => by
    have ih := brks_visL l
    rw [visN, Vl.er, Vl.erL_map, brksN, ← ih, List.filter_cons]
    by_cases hb : k = 2 ∨ k = 3 ∨ k = 4
    · rw [if_pos hb, if_pos (by simp [isB, Vl.kind, hb]), List.map_cons, Vl.er, Vl.erL_map]; rfl
    · rw [if_neg hb, if_neg (by simp [isB, Vl.kind, hb])]; rfl
theorem brks_visL : ∀ l : List Vl, ((visL l).filter isB).map Vl.er = brksL (l.map Vl.er)
  | [] => rfl
  | v :: r => by
    rw [visL, List.filter_append, List.map_append, brks_visN v, brks_visL r]; rfl
end
end Go.Proofs.YtbjanlmnmeegnaaDoor
