/- slices.Clone and slices.Delete on [][]int: the length of what comes back; Verify where the lengths differ. -/
import Derived.Test.YtdkokpehcmcnpaaOwnII
import Derived.Test.YtdkokpehcmcnpaaShelf
import Derived.Test.YtdkokpehcmcnpaaWVer
import Derived.Lib.OwnBridge
namespace Go.Proofs.Ytdkokpehcmcnpaa
open Go.RowKit

theorem sizeOf22 : ∀ w, (Go.sizeOf 22).run Try.prog w = .ok 1 w := Try.sizeOf22
theorem zero22 : ∀ w, (zeroValue 22).run Try.prog w = .ok (rowV (none, 0, 0)) w := Try.zeroValue22

theorem clone_rows (a : Option Addr) (n cap : Nat) (ll : List (List Int)) (w : World) (h : Intss w a n cap ll) (hn : 0 < n) :
    Calls Try.prog 41 #[.slice a n cap] w fun e w' => ∃ (rs : List Row) (v' : Value), rs.length = n ∧ e = .returned v' ∧ w'.ownsRow w.heap.size 22 1 v' n (rs.map rowV) ∧ Below w.heap.size w w' := by
  obtain ⟨b, off, rfl, -, hc⟩ := h.at_ hn
  obtain ⟨i1, ki, kz0, kz1, kz2⟩ := info_parts Try.infoInts
  have ex : ∀ j, j < n → ∃ r : Row, w.cell? ⟨b, off + j, none⟩ = some (rowV r) := fun j hj => by
    obtain ⟨a', n', c', h1, _⟩ := hc.out j hj
    exact ⟨(a', n', c'), h1⟩
  obtain ⟨rs, hrs, hcells⟩ : ∃ rs : List Row, rs.length = n ∧ ∀ j r, rs[j]? = some r → w.cell? ⟨b, off + j, none⟩ = some (rowV r) := by
    have key : ∀ m, m ≤ n → ∃ rs : List Row, rs.length = m ∧ ∀ j r, rs[j]? = some r → w.cell? ⟨b, off + j, none⟩ = some (rowV r) := by
      intro m
      induction m with
      | zero => intro _; exact ⟨[], rfl, by simp⟩
      | succ m ih =>
        intro hm
        obtain ⟨rs, h1, h2⟩ := ih (by omega)
        obtain ⟨r, hr⟩ := ex m (by omega)
        refine ⟨rs ++ [r], by simp [h1], fun j q hq => ?_⟩
        by_cases hj : j < rs.length
        · rw [List.getElem?_append_left hj] at hq; exact h2 j q hq
        · rw [List.getElem?_append_right (by omega)] at hq
          have : j - rs.length = 0 := by
            rcases Nat.eq_zero_or_pos (j - rs.length) with h | h
            · exact h
            · rw [List.getElem?_eq_none (by simp; omega)] at hq; cases hq
          rw [this] at hq
          simp at hq
          subst hq
          rw [show j = m by omega]; exact hr
    exact key n (Nat.le_refl _)
  refine (Try.slices_Clone_f41 i1 (.slice none 0 0) 1 24 ki kz0 kz1 kz2 rfl (by decide) sizeOf22 b off n cap (rs.map rowV) w (by simp [hrs]) (by have := h.bound; unfold maxLen; omega) (by have := h.bound; omega)
    (fun j u hu => by
      rw [List.getElem?_map] at hu
      cases hr : rs[j]? with
      | none => rw [hr] at hu; cases hu
      | some r => rw [hr] at hu; cases hu; exact hcells j r hr)
    (fun u hu => by obtain ⟨r, _, rfl⟩ := List.mem_map.1 hu; rfl)).mono ?_
  rintro e w' ⟨v', rfl, ho, _, hB⟩
  exact ⟨rs, v', hrs, rfl, ho, hB⟩

theorem delete_row (B n k : Nat) (rs : List Row) (v : Value) (w0 w : World) (ho : w.ownsRow B 22 1 v n (rs.map rowV)) (hrs : rs.length = n) (hk : k < n) (hB : Below B w0 w) :
    Calls Try.prog 40 #[v, .int .i64 (k : Int), .int .i64 ((k : Int) + 1)] w fun e w' => ∃ (a : Option Addr) (c : Nat), e = .returned (.slice a (n - 1) c) ∧ Below B w0 w' := by
  obtain ⟨i1, ki, kz0, kz1, kz2⟩ := info_parts Try.infoInts
  have ho' := ho
  rcases ho.2 with ⟨_, h0⟩ | ⟨g, cap, cur, rfl, hgB, hg, hc, hcm, hs, ht⟩
  · omega
  · have hsz : rs.toArray.size = n := by simp [hrs]
    have hd := Try.slices_Delete_f40 rowV (fun _ => rfl) (none, 0, 0) zero22 i1 ki kz1 g 0 cap k (k + 1) rs.toArray w (fun j hj => by
      rw [hsz] at hj
      refine ⟨?_, ho'.frozenAt _⟩
      rw [Nat.zero_add, ho'.cellAt j (by omega), List.getElem?_map, List.getElem?_eq_getElem (by omega)]
      simp [getElem!_pos, hrs, hj]) (by omega) (by unfold maxLen at hcm; omega) (by omega) (by omega)
    rw [hsz] at hd
    rw [show ((k : Int) + 1) = ((k + 1 : Nat) : Int) by omega]
    refine hd.mono ?_
    rintro e w' ⟨rfl, q, rfl⟩
    exact ⟨some ⟨g, 0, none⟩, cap, by rw [show k + 1 - k = 1 by omega], Go.Lib.below_putRow hB hgB⟩
end Go.Proofs.Ytdkokpehcmcnpaa
