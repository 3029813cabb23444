/- Plain: where two tokens that are not moved stand, before and behind an operation. -/
import Derived.Test.YtbdgmgddliploaaGreatDoorEPld
set_option linter.unusedVariables false
set_option linter.unusedSimpArgs false
namespace Go.Proofs.YtbdgmgddliploaaGreatDoor
open Go.RowKit

theorem sig_source {x : Col} {o : Op} {s0 c0 : Nat} (F : Fits x o s0 c0) {s : Nat} (hs : s < x.sigla.length) : o.sig = x.sigla[s]?.getD ⟨#[]⟩ ↔ s = s0 := by
  constructor
  · intro h
    have h1 := F.sig
    have h2 := F.ks
    rw [List.getElem?_eq_getElem h2] at h1
    rw [List.getElem?_eq_getElem hs] at h
    have h3 := List.pairwise_iff_getElem.1 F.heads.nodup
    simp only [Option.getD_some] at h h1
    rcases Nat.lt_trichotomy s s0 with q | q | q
    · exact absurd (by rw [h1, h]) (h3 s s0 hs h2 q)
    · exact q
    · exact absurd (by rw [h1, h]) (h3 s0 s h2 hs q)
  · rintro rfl; exact F.sig.symm
theorem find_some {x : Col} (hv : x.err = 0) {s a : Nat} (hs : s < x.sigla.length) (ha : a < (x.tks s).length) : ∃ c : Nat, x.at_ s a = some c ∧ findN x s a = (c : Int) ∧ findE x s a = 0 := by
  obtain ⟨c, hc⟩ := at_exists hv hs (t := (a : Int)) (by omega) (by omega)
  refine ⟨c, hc, ?_, ?_⟩
  · unfold findN; rw [if_neg (by omega), hc]; rfl
  · unfold findE; rw [if_neg (by omega)]
/-- Two tokens that are not moved. -/
theorem neigh {x : Col} {o : Op} (hz : opErr x o = 0) {s t a b : Nat} (hs : s < x.sigla.length) (ht : t < x.sigla.length) (ha : a < (x.tks s).length) (hb : b < (x.tks t).length)
    (hu : ¬ (o.sig = x.sigla[s]?.getD ⟨#[]⟩ ∧ o.tok = a)) (hw : ¬ (o.sig = x.sigla[t]?.getD ⟨#[]⟩ ∧ o.tok = b)) :
    ∃ c d u v : Nat, (findN x s a = c ∧ findE x s a = 0) ∧ (findN x t b = d ∧ findE x t b = 0) ∧ (findN (opApply x o) s a = u ∧ findE (opApply x o) s a = 0) ∧ (findN (opApply x o) t b = v ∧ findE (opApply x o) t b = 0) ∧
      (c = d → u = v) ∧ (o.kind ≠ 1 → c ≠ d → u ≠ v) ∧ (c < d → u ≤ v) := by
  obtain ⟨s0, c0, F⟩ := fits_of hz
  obtain ⟨g, P, h1, h2, h3⟩ := stays F
  obtain ⟨c, hc, hc1, hc2⟩ := find_some F.valid hs ha
  obtain ⟨d, hd, hd1, hd2⟩ := find_some F.valid ht hb
  obtain ⟨p1, p2⟩ := h1 s a c hs (by omega) hc (fun q => hu ⟨(sig_source F hs).2 q.1, q.2.symm⟩)
  obtain ⟨q1, q2⟩ := h1 t b d ht (by omega) hd (fun q => hw ⟨(sig_source F ht).2 q.1, q.2.symm⟩)
  obtain ⟨y1, y2, y3, y4⟩ := apply_valid hz
  have hl : ∀ i, ((opApply x o).tks i).length = (x.tks i).length := fun i => by rw [F.apply]; exact tks_op i
  rw [← F.apply] at p2 q2
  obtain ⟨u, hu', hu1, hu2⟩ := find_some y1 (x := opApply x o) (s := s) (a := a) (by rw [y3]; exact hs) (by rw [hl]; exact ha)
  obtain ⟨v, hv', hv1, hv2⟩ := find_some y1 (x := opApply x o) (s := t) (a := b) (by rw [y3]; exact ht) (by rw [hl]; exact hb)
  rw [p2] at hu'
  rw [q2] at hv'
  have eu : g c = u := by simpa using hu'
  have ev : g d = v := by simpa using hv'
  subst eu ev
  refine ⟨c, d, _, _, ⟨hc1, hc2⟩, ⟨hd1, hd2⟩, ⟨hu1, hu2⟩, ⟨hv1, hv2⟩, fun e => by rw [e], fun k e => ?_, fun e => h2 c d p1 q1 (by omega)⟩
  rcases Nat.lt_or_gt_of_ne e with q | q
  · have := h3 k c d p1 q1 q; omega
  · have := h3 k d c q1 p1 q; omega
end Go.Proofs.YtbdgmgddliploaaGreatDoor
