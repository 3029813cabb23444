/- slices.Delete of one element and slices.Insert of one element, on a slice of ints of the call's own. -/
import Derived.Test.YtdkokpehcmcnpaaShelf
import Derived.Test.YtdkokpehcmcnpaaPureE
import Derived.Shelf.Spec.SlicesInsert
namespace Go.Proofs.Ytdkokpehcmcnpaa
open Go.RowKit

def laysI_ren : Go.Shelf.Ren := ⟨fun | 21 => 43 | 27 => 63 | 28 => 64 | 35 => 69 | 39 => 28 | n => n, fun | 22 => 22 | 3 => 3 | 4 => 4 | 0 => 0 | n => n, fun | n => n⟩
theorem laysI : Go.Proofs.Lays2.n21 Try.prog laysI_ren := {
  mixed := by kernel_rfl
  f21 := Try.func43.trans (congrArg some (by kernel_rfl))
  f27 := Try.func63.trans (congrArg some (by kernel_rfl))
  f28 := Try.func64.trans (congrArg some (by kernel_rfl))
  f35 := Try.func69.trans (congrArg some (by kernel_rfl))
  f39 := Try.func28.trans (congrArg some (by kernel_rfl))
  t0 := Try.underlying0
  a0 := Try.isAgg0
  z0 := Try.sizeOf0
  v0 := Try.zeroValue0
  t3 := Try.underlying3
  a3 := Try.isAgg3
  z3 := Try.sizeOf3
  v3 := Try.zeroValue3
  t4 := Try.underlying4
  a4 := Try.isAgg4
  z4 := Try.sizeOf4
  v4 := Try.zeroValue4
  t22 := Try.underlying22
  a22 := Try.isAgg22
  z22 := Try.sizeOf22
  v22 := Try.zeroValue22
  i3 := by kernel_rfl }

/-- xs written over l from o on. -/
def over (l : List Int) (o : Nat) : List Int → List Int
  | [] => l
  | x :: xs => over (l.set o x) (o + 1) xs
theorem over_length : ∀ (xs : List Int) (l : List Int) (o : Nat), (over l o xs).length = l.length
  | [], _, _ => rfl
  | x :: xs, l, o => by rw [over, over_length xs]; simp
theorem over_at : ∀ (xs : List Int) (l : List Int) (o j : Nat), o + xs.length ≤ l.length → (over l o xs)[j]? = if o ≤ j ∧ j < o + xs.length then xs[j - o]? else l[j]?
  | [], l, o, j, _ => by rw [over, if_neg (by simp)]
  | x :: xs, l, o, j, h => by
    simp only [List.length_cons] at h
    rw [over, over_at xs _ _ _ (by simp; omega)]
    by_cases h1 : o + 1 ≤ j ∧ j < o + 1 + xs.length
    · rw [if_pos h1, if_pos (by simp only [List.length_cons]; omega), show j - o = (j - (o + 1)) + 1 by omega, List.getElem?_cons_succ]
    · rw [if_neg h1]
      by_cases h2 : j = o
      · subst h2
        rw [if_pos (by simp), List.getElem?_set_self (by omega), Nat.sub_self]; rfl
      · rw [if_neg (by simp; omega), List.getElem?_set_ne (by omega)]
theorem over_eq (xs l : List Int) (o : Nat) (h : o + xs.length ≤ l.length) : over l o xs = l.take o ++ xs ++ l.drop (o + xs.length) := by
  apply List.ext_getElem?
  intro j
  rw [over_at xs l o j h]
  by_cases h1 : j < o
  · rw [if_neg (by omega), List.append_assoc, List.getElem?_append_left (by simp; omega), List.getElem?_take_of_lt h1]
  · by_cases h2 : j < o + xs.length
    · rw [if_pos (by omega), List.getElem?_append_left (by simp; omega), List.getElem?_append_right (by simp; omega)]
      simp only [List.length_take]
      congr 1; omega
    · rw [if_neg (by omega), List.getElem?_append_right (by simp; omega), List.getElem?_drop]
      simp only [List.length_append, List.length_take]
      congr 1; omega

theorem over_two (l : List Int) (x y : Int) (k : Nat) (hk : k < l.length) : over (over (l ++ [y]) (k + 1) (l.drop k)) k [x] = l.take k ++ x :: l.drop k := by
  apply List.ext_getElem?
  intro j
  rw [over_at _ _ _ _ (by rw [over_length]; simp; omega)]
  by_cases h1 : k ≤ j ∧ j < k + [x].length
  · rw [if_pos h1]
    simp only [List.length_singleton] at h1
    obtain rfl : j = k := by omega
    rw [List.getElem?_append_right (by simp; omega)]
    simp only [List.length_take]
    rw [show j - min j l.length = 0 by omega, Nat.sub_self]; rfl
  · rw [if_neg h1, over_at _ _ _ _ (by simp; omega)]
    simp only [List.length_singleton] at h1
    by_cases h2 : j < k
    · rw [if_neg (by omega), List.getElem?_append_left (by omega), List.getElem?_append_left (by simp; omega), List.getElem?_take_of_lt h2]
    · rw [List.getElem?_append_right (l₁ := l.take k) (by simp; omega)]
      simp only [List.length_take, List.length_drop]
      rw [show j - min k l.length = (j - k - 1) + 1 by omega, List.getElem?_cons_succ, List.getElem?_drop, List.getElem?_drop]
      by_cases h3 : k + 1 ≤ j ∧ j < k + 1 + (l.length - k)
      · rw [if_pos h3]; congr 1
      · rw [if_neg h3, List.getElem?_eq_none (by simp; omega), List.getElem?_eq_none (by omega)]

namespace OwnI
variable {w w' : World} {B g : Nat} {a : Option Addr} {n cap : Nat} {l : List Int}
theorem storeds : ∀ (xs : List Int) {w : World} {l : List Int} (o : Nat), OwnI w B (some ⟨g, 0, none⟩) n cap l → OwnI (w.setCells g o (xs.map (Value.int .i64))) B (some ⟨g, 0, none⟩) n cap (over l o xs)
  | [], _, _, _, h => h
  | x :: xs, _, _, o, h => storeds xs (o + 1) (h.stored o x)
theorem cut (h : OwnI w B a n cap l) {m : Nat} (hm : m ≤ n) : OwnI w B a m cap (l.take m) := by
  have hn := h.len
  refine ⟨by simp; omega, by simp; omega, ?_⟩
  rcases h.2.2 with ⟨hv, h0⟩ | ⟨g, cap', cur, hv, hb, hg, hc, hcm, hs, ht⟩
  · obtain rfl : m = 0 := by omega
    subst h0
    exact .inl ⟨hv, rfl⟩
  · cases hv
    refine .inr ⟨g, cap, cur, rfl, hb, hg, by omega, hcm, hs, ?_⟩
    have : (cur.toList.take (n * 1)).take m = (l.map (Value.int .i64)).take m := by rw [ht]
    rw [List.take_take, List.map_take.symm] at this
    rw [← this]; congr 1; omega
theorem shape (h : OwnI w B (some ⟨g, 0, none⟩) n cap l) (hn : 0 < n) : ∃ k, w.shape? g = some (3, k) ∧ k ≠ 0 ∧ n ≤ cap ∧ cap ≤ maxLen := by
  rcases h.2.2 with ⟨hv, h0⟩ | ⟨g', cap', cur, hv, hb, hg, hc, hcm, hs, ht⟩
  · omega
  · cases hv
    exact ⟨cur.size, by simp [World.shape?, hg], by omega, hc, hcm⟩
end OwnI
theorem below_sets {B g : Nat} {a : World} (hg : B ≤ g) : ∀ (vs : List Value) (o : Nat) {w : World}, Below B a w → Below B a (w.setCells g o vs)
  | [], _, _, h => h
  | v :: vs, o, _, h => below_sets hg vs (o + 1) (h.setCell hg v)

theorem delete_own (g n cap B k : Nat) (l : List Int) (w0 w : World) (h : OwnI w B (some ⟨g, 0, none⟩) n cap l) (hk : k < n) (hB : B ≤ g) (hb : Below B w0 w) :
    Calls Try.prog 42 #[.slice (some ⟨g, 0, none⟩) n cap, .int .i64 (k : Int), .int .i64 ((k : Int) + 1)] w fun e w' => e = .returned (.slice (some ⟨g, 0, none⟩) (n - 1) cap) ∧ OwnI w' B (some ⟨g, 0, none⟩) n cap (l.eraseIdx k ++ [0]) ∧ Below B w0 w' := by
  have hn := h.len
  obtain ⟨_, _, _, hc, hcm⟩ := h.shape (by omega)
  unfold maxLen at hcm
  have hd := Try.slices_Delete_int_cells g 0 n cap k (k + 1) l w (by omega) hc (by omega) (by omega) (by omega) (fun j hj => by rw [Nat.zero_add, h.cell j (by omega)]; simp) (fun j _ => h.free _)
  rw [show ((k : Int) + 1) = ((k + 1 : Nat) : Int) by omega]
  refine hd.mono ?_
  rintro e w' ⟨rfl, q, rfl⟩
  rw [show k + 1 - k = 1 by omega]
  refine ⟨rfl, ?_, below_sets hB _ _ (below_drewN hb q)⟩
  have hs := OwnI.storeds ((l.take n).take k ++ (l.take n).drop (k + 1) ++ List.replicate 1 0) 0 (h.drewN q)
  have e : over l 0 ((l.take n).take k ++ (l.take n).drop (k + 1) ++ List.replicate 1 0) = l.eraseIdx k ++ [0] := by
    rw [hn, List.take_length]
    have e0 : l.drop (0 + (l.take k ++ l.drop (k + 1) ++ List.replicate 1 0).length) = [] := List.drop_eq_nil_of_le (by simp; omega)
    rw [over_eq _ _ _ (by simp; omega), List.eraseIdx_eq_take_drop_succ, e0]
    simp
  rw [e] at hs
  exact hs

theorem insert_own (g n cap B k : Nat) (l : List Int) (x y : Int) (w0 w : World) (h : OwnI w B (some ⟨g, 0, none⟩) (n + 1) cap (l ++ [y])) (hk : k ≤ n) (hB : B ≤ g) (hb : Below B w0 w) (vb : Nat) (hvb : w.heap[vb]? = some (.cells #[.int .i64 x] 3)) (hne : vb ≠ g) :
    Calls Try.prog 43 #[.slice (some ⟨g, 0, none⟩) n cap, .int .i64 (k : Int), .slice (some ⟨vb, 0, none⟩) 1 1] w fun e w' => e = .returned (.slice (some ⟨g, 0, none⟩) (n + 1) cap) ∧ OwnI w' B (some ⟨g, 0, none⟩) (n + 1) cap (l.take k ++ x :: l.drop k) ∧ Below B w0 w' := by
  have hn := h.len
  have hln : l.length = n := by simp at hn; omega
  obtain ⟨kB, hsh, hkB, hc, hcm⟩ := h.shape (by omega)
  unfold maxLen at hcm
  have hvs : ∀ j v, ([.int .i64 x] : List Value)[j]? = some v → w.cell? ⟨vb, 0 + j, none⟩ = some v := fun j v hv => by
    cases j with
    | zero => simp at hv; subst hv; simp [World.cell?, hvb]
    | succ j => simp at hv
  have hfv : ∀ j, w.frozen? ⟨vb, j, none⟩ = false := fun j => by simp [World.frozen?, hvb]
  have hsv : w.shape? vb = some (3, 1) := by simp [World.shape?, hvb]
  have h1x : ∀ v ∈ ([.int .i64 x] : List Value), v.oneCell' = true := fun v hv => by simp at hv; subst hv; rfl
  by_cases hkn : k < n
  · have hcells := Any2.slices_Insert_int_shift laysI g 0 n cap k vb 0 1 1 (l.map (Value.int .i64)) [.int .i64 x] w hkn (by omega) hc (by omega) hne (by simp [hln]) rfl
      (fun j v hv => by
        have hj : j < l.length := by simpa using (List.getElem?_eq_some_iff.1 hv).1
        rw [Nat.zero_add, h.cell j (by omega)]
        rw [List.getElem?_map, List.getElem?_eq_getElem hj] at hv
        rw [List.getElem?_append_left hj, List.getElem?_eq_getElem hj]
        simpa using hv)
      (fun j hj => by rw [Nat.zero_add, h.cell j (by omega)]; rfl) (fun j _ => h.free _) hvs (fun v hv => by obtain ⟨z, _, rfl⟩ := List.mem_map.1 hv; rfl) h1x
      3 3 1 kB hsv hsh hkB (hfv _) (hfv _)
    refine hcells.mono ?_
    rintro e w' ⟨rfl, rfl⟩
    refine ⟨rfl, ?_, below_sets hB _ _ (below_sets hB _ _ hb.drew)⟩
    have h1 := OwnI.storeds (l.drop k) (0 + (k + 1)) h.drew
    have h2 := OwnI.storeds [x] (0 + k) h1
    rw [List.map_drop] at h2
    have e := over_two l x y k (by omega)
    simp only [Nat.zero_add] at h2 ⊢
    rw [e] at h2
    exact h2
  · obtain rfl : k = n := by omega
    have hcells := Any2.slices_Insert_int_end_room laysI g 0 k cap vb 0 1 1 [.int .i64 x] w (by omega) hc (by omega) rfl
      (fun j hj => by rw [Nat.zero_add, h.cell (k + j) (by omega)]; rfl) (fun j _ => h.free _) hvs h1x
    refine hcells.mono ?_
    rintro e w' ⟨rfl, rfl⟩
    refine ⟨rfl, ?_, below_sets hB _ _ hb⟩
    have h2 := OwnI.storeds [x] (0 + k) h
    have e : over (l ++ [y]) (0 + k) [x] = l.take k ++ x :: l.drop k := by
      rw [Nat.zero_add, over_eq _ _ _ (by simp; omega)]
      rw [List.drop_eq_nil_of_le (by simp; omega), List.drop_eq_nil_of_le (by omega), List.append_nil, List.take_append_of_le_length (by omega)]
    rw [e] at h2
    exact h2
end Go.Proofs.Ytdkokpehcmcnpaa
