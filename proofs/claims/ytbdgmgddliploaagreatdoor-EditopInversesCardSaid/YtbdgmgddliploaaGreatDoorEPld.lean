/- Plain: what fine says of the sizes; an operation leaves them. -/
import Derived.Test.YtbdgmgddliploaaGreatDoorEFine
import Derived.Test.YtbdgmgddliploaaGreatDoorEEdi
import Derived.Test.YtbdgmgddliploaaGreatDoorEAwp
import Derived.Test.YtbdgmgddliploaaGreatDoorELCol
set_option linter.unusedVariables false
set_option linter.unusedSimpArgs false
namespace Go.Proofs.YtbdgmgddliploaaGreatDoor
open Go.RowKit

theorem greatGo_len {L : Nat} : ∀ {i n : Nat} {l : List (List Tok)}, greatGo L i n l = false → ∀ r ∈ l, r.length ≤ 6
  | _, _, [], _ => by simp
  | i, n, r :: rs, h => by
    unfold greatGo at h
    simp only [Bool.or_eq_false_iff] at h
    intro r' hr'
    rcases List.mem_cons.1 hr' with rfl | hr'
    · have := h.1.1; simp at this; omega
    · exact greatGo_len h.2.2 r' hr'
theorem great_len {x : Col} (h : great x = false) : ∀ r ∈ x.toks, r.length ≤ 6 := by
  unfold great at h
  simp only [Bool.or_eq_false_iff] at h
  obtain ⟨-, ⟨⟨h1, -⟩, -⟩, -⟩ := h
  exact greatGo_len h1
theorem tks_le {x : Col} {m : Nat} (h : ∀ r ∈ x.toks, r.length ≤ m) (i : Nat) : (x.tks i).length ≤ m := by
  unfold Col.tks
  by_cases hi : i < x.toks.length
  · rw [List.getElem?_eq_getElem hi]; exact h _ (List.getElem_mem hi)
  · rw [List.getElem?_eq_none (by omega)]; simp
theorem ops_small {x : Col} (hv : x.err = 0) (hl : ∀ i, (x.tks i).length ≤ 6) : (allOps x).length ≤ 4096 := by
  have h1 := ops_len x
  have h2 := sumTo_le (f := fun i => 4 * (x.tks i).length) (m := 24) (n := x.sigla.length) (fun s _ => by have := hl s; omega)
  have h3 := (err_iff.1 hv).1.most
  omega
theorem fine_ops {x : Col} {l : List Op} (h : fine x l = true) : (allOps x).length ≤ 4096 := by
  obtain ⟨-, h1, h2, -⟩ := fine_true h
  exact ops_small h1 (fun i => tks_le (great_len h2) i)
theorem fine_opsY {x : Col} {l : List Op} {o : Op} (h : fine x l = true) (hz : opErr x o = 0) : (allOps (opApply x o)).length ≤ 4096 := by
  obtain ⟨-, h1, h2, -⟩ := fine_true h
  obtain ⟨s, c, F⟩ := fits_of hz
  rw [F.apply]
  exact ops_small (valid_op F) (fun i => by rw [tks_op]; exact tks_le (great_len h2) i)
theorem sml_op {x : Col} {o : Op} (hm : Sml x) (hx : o.text.size ≤ 1000000) : Sml (opApply x o) := by
  by_cases h0 : opErr x o = 0
  · obtain ⟨s, c, F⟩ := fits_of h0
    rw [F.apply]
    refine ⟨hm.1, fun r hr t ht => ?_⟩
    have hs : s < x.toks.length := by rw [F.heads.len]; exact F.ks
    have hr' : r ∈ opToks x o s := hr
    unfold opToks at hr'
    split at hr'
    · rcases List.mem_or_eq_of_mem_set hr' with h | rfl
      · exact hm.2 r h t ht
      · rcases List.mem_or_eq_of_mem_set ht with h | rfl
        · exact hm.2 _ (tks_mem hs) t h
        · exact ⟨(hm.2 _ (tks_mem hs) _ (tk_mem F.t0 F.t1)).1, hx⟩
    · exact hm.2 r hr' t ht
  · rw [opApply_none h0]; exact ⟨by simp [Col.none], by simp [Col.none]⟩
theorem apply_valid {x : Col} {o : Op} (hz : opErr x o = 0) : (opApply x o).err = 0 ∧ (opApply x o).sec = x.sec ∧ (opApply x o).sigla = x.sigla ∧ ∀ i, ((opApply x o).tks i).map Tok.text = (x.tks i).map Tok.text := by
  obtain ⟨s, c, F⟩ := fits_of hz
  rw [F.apply]
  exact ⟨valid_op F, rfl, rfl, texts_op x o s c⟩
theorem fine_op {x : Col} {l : List Op} (h : fine x l = true) {o : Op} (ho : o ∈ l) : o.sig.size ≤ 1000000 ∧ o.text.size ≤ 1000000 := by
  have := (fine_true h).2.2.2 o ho
  omega
end Go.Proofs.YtbdgmgddliploaaGreatDoor
