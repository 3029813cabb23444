/- slices.Repeat of one int. -/
import Derived.Test.YtebmachppbpdmaaBase
import Derived.Test.YtebmachppbpdmaaShelf
import Derived.Test.YtebmachppbpdmaaHead
import Derived.Laws.CopyOwn
namespace Go.Proofs.Ytebmachppbpdmaa
open Go.RowKit

theorem mul_one_small (n : Nat) (hn : n ≤ 4096) (w : World) : Calls Try.prog 61 #[.int .u64 1, .int .u64 (n : Int)] w fun e w' => e = .returned (.tuple #[.int .u64 0, .int .u64 (n : Int)]) ∧ w' = w := by
  have := Try.bits_Mul 1 n (by omega) (by omega) w
  rw [Nat.one_mul, Nat.div_eq_of_lt (by omega), Nat.mod_eq_of_lt (by omega)] at this
  exact this
/-- k times x, then 0. -/
def repL (x : Int) (n k : Nat) : List Value := List.replicate k (.int .i64 x) ++ List.replicate (n - k) (.int .i64 0)
theorem repL_length {x : Int} {n k : Nat} (hk : k ≤ n) : (repL x n k).length = n := by simp [repL]; omega
theorem repL_at {x : Int} {n k j : Nat} (hj : j < k) : (repL x n k)[j]? = some (.int .i64 x) := by
  rw [repL, List.getElem?_append_left (by simpa using hj)]; simp [hj]
theorem repL_splice {x : Int} {n k m : Nat} : splice (repL x n k) k (List.replicate m (.int .i64 x)) = repL x n (k + m) := by
  unfold splice repL
  rw [List.take_left' (by simp), List.length_replicate, show k + m = (List.replicate k (Value.int .i64 x)).length + m by simp, List.drop_length_add_append]
  simp only [List.drop_replicate, List.length_replicate]
  rw [← List.append_assoc, List.replicate_append_replicate]
  congr 2; omega
theorem cell_whole {w : World} {g j : Nat} {l : List Value} {t : TypeId} (h : w.heap[g]? = some (.cells l.toArray t (0, 0))) : w.cell? ⟨g, j, none⟩ = l[j]? := by
  simp [World.cell?, h]
theorem OwnI.whole {w : World} {B g n : Nat} {x : Int} (h : w.heap[g]? = some (.cells (repL x n n).toArray 3 (0, 0))) (hB : B ≤ g) (hn : n ≤ 1000000) : OwnI w B (some ⟨g, 0, none⟩) n n (List.replicate n x) := by
  refine ⟨by simp, by simp, .inr ⟨g, n, _, rfl, hB, h, Nat.le_refl _, by unfold maxLen; omega, by simp [repL], ?_⟩⟩
  simp [repL]

theorem made_whole {w : World} {g n : Nat} (x : Int) (hrow : w.ownsRow g 3 1 (.slice (some ⟨g, 0, none⟩) n n) n (madeCells (Value.int .i64 0).cells (n * 1)).toList) : w.heap[g]? = some (.cells (repL x n 0).toArray 3 (0, 0)) := by
  rcases hrow.2 with ⟨hv, _⟩ | ⟨g, cap, cur, hv, _, hgc, _, _, hs, ht⟩
  · cases hv
  · cases hv
    have e : cur = (repL x n 0).toArray := by
      apply Array.ext'
      have e2 : (madeCells (Value.int .i64 0).cells (n * 1)).toList = List.replicate n (Value.int .i64 0) := by
        rw [Nat.mul_one]; exact toList_madeCells_one _ _
      rw [e2] at ht
      rw [← List.take_of_length_le (l := cur.toList) (i := n * 1) (by simp [hs]), ht]
      simp [repL]
    rw [← e]; exact hgc
theorem splice_one {n : Nat} (x : Int) : splice (repL x n 0) 0 [.int .i64 x] = repL x n 1 := by
  have := repL_splice (x := x) (n := n) (k := 0) (m := 1)
  simpa using this
/-- What the first copy asks. -/
theorem copy_one {w : World} {b g n : Nat} {x : Int} (h1 : 1 ≤ n) (hx : w.cell? ⟨b, 0, none⟩ = some (.int .i64 x)) : [Value.int .i64 x].length = Nat.min 1 n ∧
    (0 < [Value.int .i64 x].length → some (⟨g, 0, none⟩ : Addr) = some ⟨g, 0, none⟩ ∧ ∃ ad, some (⟨b, 0, none⟩ : Addr) = some ad ∧ ∀ j v, [Value.int .i64 x][j]? = some v → w.cell? (ad.add j) = some v) ∧
    0 + [Value.int .i64 x].length ≤ (repL x n 0).length ∧ ∀ v ∈ [Value.int .i64 x], v.oneCell' = true := by
  refine ⟨(Nat.min_eq_left h1).symm, fun _ => ⟨rfl, _, rfl, fun j v hv => ?_⟩, by rw [repL_length (Nat.zero_le _)]; simp; omega, by simp [Value.oneCell']⟩
  match j, hv with
  | 0, hv => simp at hv; subst hv; exact hx
/-- What the others ask. -/
theorem copy_more {w : World} {g n k m : Nat} {x : Int} (hm : m = min k (n - k)) (hk : k < n) (hg : w.heap[g]? = some (.cells (repL x n k).toArray 3 (0, 0))) : (List.replicate m (Value.int .i64 x)).length = Nat.min k (n - k) ∧
    (∀ j v, (List.replicate m (Value.int .i64 x))[j]? = some v → w.cell? ((⟨g, 0, none⟩ : Addr).add j) = some v) ∧
    k + (List.replicate m (Value.int .i64 x)).length ≤ (repL x n k).length ∧ ∀ v ∈ List.replicate m (Value.int .i64 x), v.oneCell' = true := by
  refine ⟨by rw [List.length_replicate, hm], fun j v hv => ?_, by rw [repL_length (by omega), List.length_replicate]; omega, fun v hv => by rw [(List.mem_replicate.1 hv).2]; rfl⟩
  rw [List.getElem?_replicate] at hv
  split at hv
  · rename_i hj
    cases hv
    rw [Addr.add_lit, Nat.zero_add, cell_whole hg, repL_at (by omega)]
  · cases hv

set_option maxHeartbeats 1000000 in
theorem repeat_any (n b : Nat) (x : Int) (w : World) (h1 : 1 ≤ n) (hn : n ≤ 4096) (hx : w.cell? ⟨b, 0, none⟩ = some (.int .i64 x)) :
    Calls Try.prog 57 #[.slice (some ⟨b, 0, none⟩) 1 1, .int .i64 (n : Int)] w fun e w' => e = .returned (.slice (some ⟨w.heap.size, 0, none⟩) n n) ∧ OwnI w' w.heap.size (some ⟨w.heap.size, 0, none⟩) n n (List.replicate n x) ∧ Below w.heap.size w w' := by
  obtain ⟨i0, hi, hz0, hz1, hz2⟩ := info_parts Try.infoInt
  have F := Lib.hid (mul_one_small n hn w)
  have HSZ : Hid ((Try.prog.info? 3).map (·.size) = some 1) := by show _ = _; rw [hi]; simp [hz1]
  have HX := Lib.hid hx
  have HSP := Lib.hid (splice_one (n := n) x)
  clear hx
  go_enter Try.func57, Try.ntmps57
  go_wp2_with (first | (go_at_call 61; refine F.out.mono ?_; rintro e w1 ⟨rfl, rfl⟩) | (at_make; refine wpList_make_full _ rfl _ _ 26 rfl w1.heap.size 3 i0 (.int .i64 0) 1 Try.underlying26 hi hz0 hz1 .i64 .i64 n n n rfl rfl rfl rfl (by rw [hz2]; omega) (by unfold maxLen; omega) (Nat.le_refl _) ?_; intro w2 hrow hg; have HW2 := Lib.hid (made_whole x hrow); have hB2 : Below w1.heap.size w1 w2 := (Below.refl _ w1).grown hg (Nat.le_refl _) (by simp); have HC := Lib.hid (copy_one (g := w1.heap.size) h1 (cell_later hB2 HX.out)); clear hrow hg) | (refine wpList_copy_splice rfl (.tmp 31) (.tmp 32) 26 26 rfl 3 Try.underlying26 HSZ.out (some ⟨w1.heap.size, 0, none⟩) (some ⟨b, 0, none⟩) n n 1 1 rfl rfl w1.heap.size 0 (repL x n 0) 3 HW2.out [.int .i64 x] HC.out.1 HC.out.2.1 HC.out.2.2.1 HC.out.2.2.2 w1.heap.size w1 hB2 (Nat.le_refl _) ?_; intro w3 h3 b3))
  rw [HSP.out] at h3
  clear HW2 hB2 HC
  go_loopw [8] (fun i wr => ∃ k : Nat, 1 ≤ k ∧ k ≤ n ∧ i = .int .i64 k ∧ Hid (wr.heap[w1.heap.size]? = some (.cells (repL x n k).toArray 3 (0, 0))) ∧ Below w1.heap.size w1 wr) (fun i _ => n - (intOf i).toNat)
  case atStart => exact ⟨1, Nat.le_refl _, h1, rfl, h3, b3⟩
  case round =>
    clear h3 b3 w2 w3
    obtain ⟨k, hk1, hkn, rfl, hw, hB⟩ := hrel
    by_cases hlt : k < n
    · go_wp2
      have hnk : ¬ n = k := by omega
      obtain ⟨X, Wf, hX, -, hS2⟩ := family (fun _ => True) wr trivial
      refine wp_region_reads (Wf := Wf) 8 [0, 1, 2, 3, 4, 5, 6] [7] (by kernel_rfl) (by kernel_rfl) (fun _ _ d _ _ h => by cases d <;> exact h) (hS2 _ trivial) ?_
      simp only [pickOps, List.filterMap_cons, List.filterMap_nil, List.getElem?_cons_zero, List.getElem?_cons_succ]
      repeat (refine wpReads_step (fun K hK => ?_); unfold rOp; go_simp; (refine hK _ ?_; clear hK K))
      refine wpReads_nil (wpActs_cons ?_)
      have hwq : Hid (wr.drew.heap[w1.heap.size]? = some (.cells (repL x n k).toArray 3 (0, 0))) := hw.out
      obtain ⟨m, hm⟩ : ∃ m, m = min k (n - k) := ⟨_, rfl⟩
      have hm1 : 0 < m := by omega
      have hm2 : k + m ≤ n := by omega
      have HC := Lib.hid (copy_more hm hlt hwq.out)
      have HS2 := Lib.hid (repL_splice (x := x) (n := n) (k := k) (m := m))
      have HL : Hid (((List.replicate m (Value.int .i64 x)).length : Int) = (m : Int)) := by show _ = _; simp
      clear hm
      have hBq := hB.drew
      go_wp2_with (refine wpList_copy_splice rfl (.tmp 41) (.tmp 44) 26 26 rfl 3 Try.underlying26 HSZ.out (some ⟨w1.heap.size, k, none⟩) (some ⟨w1.heap.size, 0, none⟩) (n - k) (n - k) k n rfl rfl w1.heap.size k (repL x n k) 3 hwq.out (List.replicate m (.int .i64 x)) HC.out.1 (fun _ => ⟨rfl, _, rfl, HC.out.2.1⟩) HC.out.2.2.1 HC.out.2.2.2 w1.heap.size w1 hBq (Nat.le_refl _) ?_; intro w3 h3 b3; rw [HS2.out] at h3)
      refine ⟨hS2 _ trivial, wpActs_nil ?_⟩
      go_wp2
      go_roundw
      case rel => exact ⟨k + m, by omega, by omega, by go_num, h3.out, b3⟩
      case measure => simp [intOf]; omega
    · obtain rfl : n = k := by omega
      go_wp2
      go_ret
      exact ⟨rfl, OwnI.whole hw.out (Nat.le_refl _) (by omega), hB⟩
end Go.Proofs.Ytebmachppbpdmaa
