/- Joined: EShi. -/
import Derived.Test.YtbdgmgddliploaaGreatDoorJ01
import Derived.Test.YtbdgmgddliploaaGreatDoorJ00
import Derived.Test.YtbdgmgddliploaaGreatDoorJ06
import Derived.Laws.CopyOwn
import Derived.Test.YtbdgmgddliploaaGreatDoorJ14
import Derived.Test.YtbdgmgddliploaaGreatDoorJ11
set_option linter.unusedVariables false
set_option linter.unusedSimpArgs false
set_option maxRecDepth 100000
set_option maxHeartbeats 16000000
namespace Go.Proofs.YtbdgmgddliploaaGreatDoor
open Go.RowKit

theorem mul_one_small (n : Nat) (hn : n <= 4096) (w : World) : Calls Tryz.prog 123 #[.int .u64 1, .int .u64 (n : Int)] w fun e w' => e = .returned (.tuple #[.int .u64 0, .int .u64 (n : Int)]) /\ w' = w := by
  have := Tryz.bits_Mul 1 n (by omega) (by omega) w
  rw [Nat.one_mul, Nat.div_eq_of_lt (by omega), Nat.mod_eq_of_lt (by omega)] at this
  exact this
/-- k times x, then 0. -/
def repL (x : Int) (n k : Nat) : List Value := List.replicate k (.int .i64 x) ++ List.replicate (n - k) (.int .i64 0)
theorem repL_length {x : Int} {n k : Nat} (hk : k <= n) : (repL x n k).length = n := by simp [repL]; omega
theorem repL_at {x : Int} {n k j : Nat} (hj : j < k) : (repL x n k)[j]? = some (.int .i64 x) := by
  rw [repL, List.getElem?_append_left (by simpa using hj)]; simp [hj]
theorem repL_splice {x : Int} {n k m : Nat} : splice (repL x n k) k (List.replicate m (.int .i64 x)) = repL x n (k + m) := by
  unfold splice repL
  rw [List.take_left' (by simp), List.length_replicate, show k + m = (List.replicate k (Value.int .i64 x)).length + m by simp, List.drop_length_add_append]
  simp only [List.drop_replicate, List.length_replicate]
  rw [<- List.append_assoc, List.replicate_append_replicate]
  congr 2; omega
theorem cell_whole {w : World} {g j : Nat} {l : List Value} {t : TypeId} (h : w.heap[g]? = some (.cells l.toArray t (0, 0))) : w.cell? ⟨g, j, none⟩ = l[j]? := by
  simp [World.cell?, h]
theorem OwnI.whole {w : World} {B g n : Nat} {x : Int} (h : w.heap[g]? = some (.cells (repL x n n).toArray 3 (0, 0))) (hB : B <= g) (hn : n <= 1000000) : OwnI w B (some ⟨g, 0, none⟩) n n (List.replicate n x) := by
  refine ⟨by simp, by simp, .inr ⟨g, n, _, rfl, hB, h, Nat.le_refl _, by unfold maxLen; omega, by simp [repL], ?_⟩⟩
  simp [repL]

theorem made_whole {w : World} {g n : Nat} (x : Int) (hrow : w.ownsRow g 3 1 (.slice (some ⟨g, 0, none⟩) n n) n (madeCells (Value.int .i64 0).cells (n * 1)).toList) : w.heap[g]? = some (.cells (repL x n 0).toArray 3 (0, 0)) := by
  rcases hrow.2 with ⟨hv, _⟩ | ⟨g, cap, cur, hv, _, hgc, _, _, hs, ht⟩
  · cases hv
  · cases hv
    have e : cur = (repL x n 0).toArray := by
      apply Array.ext'
      have e2 : (madeCells (Value.int .i64 0).cells (n * 1)).toList = List.replicate n (Value.int .i64 0) := by
        rw [Nat.mul_one]; exact toList_madeCells_one _ _
      rw [e2] at ht
      rw [<- List.take_of_length_le (l := cur.toList) (i := n * 1) (by simp [hs]), ht]
      simp [repL]
    rw [<- e]; exact hgc
theorem splice_one {n : Nat} (x : Int) : splice (repL x n 0) 0 [.int .i64 x] = repL x n 1 := by
  have := repL_splice (x := x) (n := n) (k := 0) (m := 1)
  simpa using this
/-- What the first copy asks. -/
theorem copy_one {w : World} {b g n : Nat} {x : Int} (h1 : 1 <= n) (hx : w.cell? ⟨b, 0, none⟩ = some (.int .i64 x)) : [Value.int .i64 x].length = Nat.min 1 n /\
    (0 < [Value.int .i64 x].length -> some (⟨g, 0, none⟩ : Addr) = some ⟨g, 0, none⟩ /\ ∃ ad, some (⟨b, 0, none⟩ : Addr) = some ad /\ ∀ j v, [Value.int .i64 x][j]? = some v -> w.cell? (ad.add j) = some v) /\
    0 + [Value.int .i64 x].length <= (repL x n 0).length /\ ∀ v ∈ [Value.int .i64 x], v.oneCell' = true := by
  refine ⟨(Nat.min_eq_left h1).symm, fun _ => ⟨rfl, _, rfl, fun j v hv => ?_⟩, by rw [repL_length (Nat.zero_le _)]; simp; omega, by simp [Value.oneCell']⟩
  match j, hv with
  | 0, hv => simp at hv; subst hv; exact hx
/-- What the others ask. -/
theorem copy_more {w : World} {g n k m : Nat} {x : Int} (hm : m = min k (n - k)) (hk : k < n) (hg : w.heap[g]? = some (.cells (repL x n k).toArray 3 (0, 0))) : (List.replicate m (Value.int .i64 x)).length = Nat.min k (n - k) /\
    (∀ j v, (List.replicate m (Value.int .i64 x))[j]? = some v -> w.cell? ((⟨g, 0, none⟩ : Addr).add j) = some v) /\
    k + (List.replicate m (Value.int .i64 x)).length <= (repL x n k).length /\ ∀ v ∈ List.replicate m (Value.int .i64 x), v.oneCell' = true := by
  refine ⟨by rw [List.length_replicate, hm], fun j v hv => ?_, by rw [repL_length (by omega), List.length_replicate]; omega, fun v hv => by rw [(List.mem_replicate.1 hv).2]; rfl⟩
  rw [List.getElem?_replicate] at hv
  split at hv
  · rename_i hj
    cases hv
    rw [Addr.add_lit, Nat.zero_add, cell_whole hg, repL_at (by omega)]
  · cases hv

theorem repeat_any (n b : Nat) (x : Int) (w : World) (h1 : 1 <= n) (hn : n <= 4096) (hx : w.cell? ⟨b, 0, none⟩ = some (.int .i64 x)) :
    Calls Tryz.prog 104 #[.slice (some ⟨b, 0, none⟩) 1 1, .int .i64 (n : Int)] w fun e w' => e = .returned (.slice (some ⟨w.heap.size, 0, none⟩) n n) /\ OwnI w' w.heap.size (some ⟨w.heap.size, 0, none⟩) n n (List.replicate n x) /\ Below w.heap.size w w' := by
  obtain ⟨i0, hi, hz0, hz1, hz2⟩ := info_parts Tryz.infoInt
  have F := hiq (mul_one_small n hn w)
  have HSZ : Hid ((Tryz.prog.info? 3).map (·.size) = some 1) := by show _ = _; rw [hi]; simp [hz1]
  have HX := hiq hx
  have HSP := hiq (splice_one (n := n) x)
  clear hx
  go_enter Tryz.func104, Tryz.ntmps104
  go_wp2_with (first | (go_at_call 123; refine F.out.mono ?_; rintro e w1 ⟨rfl, rfl⟩) | (at_make; refine wpList_make_full _ rfl _ _ 61 rfl w1.heap.size 3 i0 (.int .i64 0) 1 Tryz.underlying61 hi hz0 hz1 .i64 .i64 n n n rfl rfl rfl rfl (by rw [hz2]; omega) (by unfold maxLen; omega) (Nat.le_refl _) ?_; intro w2 hrow hg; have HW2 := hiq (made_whole x hrow); have hB2 : Below w1.heap.size w1 w2 := (Below.refl _ w1).grown hg (Nat.le_refl _) (by simp); have HC := hiq (copy_one (g := w1.heap.size) h1 (clq hB2 HX.out)); clear hrow hg) | (refine wpList_copy_splice rfl (.tmp 31) (.tmp 32) 61 61 rfl 3 Tryz.underlying61 HSZ.out (some ⟨w1.heap.size, 0, none⟩) (some ⟨b, 0, none⟩) n n 1 1 rfl rfl w1.heap.size 0 (repL x n 0) 3 HW2.out [.int .i64 x] HC.out.1 HC.out.2.1 HC.out.2.2.1 HC.out.2.2.2 w1.heap.size w1 hB2 (Nat.le_refl _) ?_; intro w3 h3 b3))
  rw [HSP.out] at h3
  clear HW2 hB2 HC
  go_loopw [8] (fun i wr => ∃ k : Nat, 1 <= k /\ k <= n /\ i = .int .i64 k /\ Hid (wr.heap[w1.heap.size]? = some (.cells (repL x n k).toArray 3 (0, 0))) /\ Below w1.heap.size w1 wr) (fun i _ => n - (intOf i).toNat)
  case atStart => exact ⟨1, Nat.le_refl _, h1, rfl, h3, b3⟩
  case round =>
    clear h3 b3 w2 w3
    obtain ⟨k, hk1, hkn, rfl, hw, hB⟩ := hrel
    by_cases hlt : k < n
    · go_wp2
      have hnk : ¬ n = k := by omega
      obtain ⟨X, Wf, hX, -, hS2⟩ := family (fun _ => True) wr trivial
      refine wp_region_reads (Wf := Wf) 8 [0, 1, 2, 3, 4, 5, 6] [7] (by kernel_rfl) (by kernel_rfl) (fun _ _ d _ _ h => by cases d <;> exact h) (hS2 _ trivial) ?_
      simp only [pickOps, List.filterMap_cons, List.filterMap_nil, List.getElem?_cons_zero, List.getElem?_cons_succ]
      repeat (refine wpReads_step (fun K hK => ?_); unfold rOp; go_simp; (refine hK _ ?_; clear hK K))
      refine wpReads_nil (wpActs_cons ?_)
      have hwq : Hid (wr.drew.heap[w1.heap.size]? = some (.cells (repL x n k).toArray 3 (0, 0))) := hw.out
      obtain ⟨m, hm⟩ : ∃ m, m = min k (n - k) := ⟨_, rfl⟩
      have hm1 : 0 < m := by omega
      have hm2 : k + m <= n := by omega
      have HC := hiq (copy_more hm hlt hwq.out)
      have HS2 := hiq (repL_splice (x := x) (n := n) (k := k) (m := m))
      have HL : Hid (((List.replicate m (Value.int .i64 x)).length : Int) = (m : Int)) := by show _ = _; simp
      clear hm
      have hBq := hB.drew
      go_wp2_with (refine wpList_copy_splice rfl (.tmp 41) (.tmp 44) 61 61 rfl 3 Tryz.underlying61 HSZ.out (some ⟨w1.heap.size, k, none⟩) (some ⟨w1.heap.size, 0, none⟩) (n - k) (n - k) k n rfl rfl w1.heap.size k (repL x n k) 3 hwq.out (List.replicate m (.int .i64 x)) HC.out.1 (fun _ => ⟨rfl, _, rfl, HC.out.2.1⟩) HC.out.2.2.1 HC.out.2.2.2 w1.heap.size w1 hBq (Nat.le_refl _) ?_; intro w3 h3 b3; rw [HS2.out] at h3)
      refine ⟨hS2 _ trivial, wpActs_nil ?_⟩
      go_wp2
      go_roundw
      case rel => exact ⟨k + m, by omega, by omega, by go_num, h3.out, b3⟩
      case measure => simp [intOf]; omega
    · obtain rfl : n = k := by omega
      go_wp2
      go_ret
      exact ⟨rfl, OwnI.whole hw.out (Nat.le_refl _) (by omega), hB⟩
end Go.Proofs.YtbdgmgddliploaaGreatDoor

/- editop.split. -/
namespace Go.Proofs.YtbdgmgddliploaaGreatDoor
open Go.RowKit

theorem ins_any (w : World) (B : Nat) (a : Option Addr) (n cap vb : Nat) (P Q : List (Row × List Int)) (p : Row × List Int) (h : OwnC w B a n cap (P ++ Q)) (hB : B <= w.heap.size)
    (hp : OwnQ 3 1 encI w B p.1.1 p.1.2.1 p.1.2.2 p.2) (hpa : Apart p.1.1 a) (hpr : ∀ q ∈ P ++ Q, Apart q.1.1 p.1.1) (hvb : w.heap[vb]? = some (.cells #[rowV p.1] 61 (0, 0))) (hva : ∀ x, a = some x -> vb ≠ x.block) (hP : 0 < P.length) (hbn : n <= 1000000) :
    Calls Tryz.prog 105 #[.slice a n cap, .int .i64 (P.length : Int), .slice (some ⟨vb, 0, none⟩) 1 1] w (InsPost w B n P Q p) := by
  by_cases hQ : Q.length = 0
  · obtain rfl := List.eq_nil_of_length_eq_zero hQ
    exact ins_end w B a n cap vb P p (by simpa using h) hB hp hpa (by simpa using hpr) (by rw [cell_row hvb]; rfl) (by rw [h.len]; simp; omega) hbn
  · by_cases hc : n + 1 <= cap
    · exact ins_room w B a n cap vb P Q p h hB hp hpa hpr hvb hva (by omega) hbn hc
    · exact ins_grow w B a n cap vb P Q p h hB hp hpa hpr hvb hva (by omega) hbn (by omega)
theorem OwnI.q {w : World} {B n cap : Nat} {a : Option Addr} {l : List Int} (h : OwnI w B a n cap l) : OwnQ 3 1 encI w B a n cap l := ⟨h.1, by have e : l.flatMap encI = l.map (Value.int .i64) := flat_one; rw [e]; exact h.2⟩
theorem split_any (w : World) (a : Option Addr) (n cap : Nat) (P Q : List (Row × List Int)) (r : Row) (l : List Int) (o : Op) (s c : Nat) (po : Int) (B : Nat) (h : OwnC w B a n cap (P ++ (r, l) :: Q)) (hB : B <= w.heap.size)
    (hc : P.length = c) (hs : s < l.length) (hl : l.length <= 1000) (hbn : n <= 100000) :
    Calls Tryz.prog 76 #[.slice a n cap, o.val, .agg #[.int .i64 (s : Int), .int .i64 (c : Int), .int .i64 po]] w fun e w' => ∃ a' cap' r', e = .returned (.slice a' (n + 1) cap') /\ OwnC w' B a' (n + 1) cap' (P ++ (r, l.set s (-1)) :: (r', (List.replicate l.length (-1)).set s o.tok) :: Q) /\ Below B w w' := by
  obtain ⟨ok, og, ot, oo, ox⟩ := o
  obtain ⟨a1, n1, c1⟩ := r
  change Calls _ _ #[_, .agg #[.int .i64 ok, .string og, .int .i64 ot, .int .i64 oo, .string ox], .agg #[.int .i64 (s : Int), .int .i64 (c : Int), .int .i64 po]] _ _
  have hn : n = P.length + Q.length + 1 := by rw [h.len]; simp; omega
  have hb0 : Below w.heap.size w ((w.alloc (.cells #[.int .i64 ok, .string og, .int .i64 ot, .int .i64 oo, .string ox] 28)).alloc (.cells #[.int .i64 (s : Int), .int .i64 (c : Int), .int .i64 po] 66)) := ((Below.refl _ _).alloc (Nat.le_refl _) _).alloc (by simp) _
  have hb1 : Below w.heap.size w (((w.alloc (.cells #[.int .i64 ok, .string og, .int .i64 ot, .int .i64 oo, .string ox] 28)).alloc (.cells #[.int .i64 (s : Int), .int .i64 (c : Int), .int .i64 po] 66)).alloc (.cells #[.int .i64 (-1)] 3)) := hb0.alloc (by simp; omega) _
  have hbx : (((w.alloc (.cells #[.int .i64 ok, .string og, .int .i64 ot, .int .i64 oo, .string ox] 28)).alloc (.cells #[.int .i64 (s : Int), .int .i64 (c : Int), .int .i64 po] 66)).alloc (.cells #[.int .i64 (-1)] 3)).heap[w.heap.size + 1]? = some (.cells #[.int .i64 (s : Int), .int .i64 (c : Int), .int .i64 po] 66 (0, 0)) := by
    have := World.alloc_heap_new (w.alloc (.cells #[.int .i64 ok, .string og, .int .i64 ot, .int .i64 oo, .string ox] 28)) (.cells #[.int .i64 (s : Int), .int .i64 (c : Int), .int .i64 po] 66)
    have e : ((w.alloc (.cells #[.int .i64 ok, .string og, .int .i64 ot, .int .i64 oo, .string ox] 28)).alloc (.cells #[.int .i64 (s : Int), .int .i64 (c : Int), .int .i64 po] 66)).heap[w.heap.size + 1]? = some (.cells #[.int .i64 (s : Int), .int .i64 (c : Int), .int .i64 po] 66 (0, 0)) := by simpa using this
    rw [((Below.refl _ ((w.alloc (.cells #[.int .i64 ok, .string og, .int .i64 ot, .int .i64 oo, .string ox] 28)).alloc (.cells #[.int .i64 (s : Int), .int .i64 (c : Int), .int .i64 po] 66))).alloc (Nat.le_refl _) (.cells #[.int .i64 (-1)] 3)).block (w.heap.size + 1) (by simp)]; exact e
  have hox : (((w.alloc (.cells #[.int .i64 ok, .string og, .int .i64 ot, .int .i64 oo, .string ox] 28)).alloc (.cells #[.int .i64 (s : Int), .int .i64 (c : Int), .int .i64 po] 66)).alloc (.cells #[.int .i64 (-1)] 3)).heap[w.heap.size]? = some (.cells #[.int .i64 ok, .string og, .int .i64 ot, .int .i64 oo, .string ox] 28 (0, 0)) := by
    have e0 := World.alloc_heap_new w (.cells #[.int .i64 ok, .string og, .int .i64 ot, .int .i64 oo, .string ox] 28)
    have e1 : Below (w.heap.size + 1) (w.alloc (.cells #[.int .i64 ok, .string og, .int .i64 ot, .int .i64 oo, .string ox] 28)) (((w.alloc (.cells #[.int .i64 ok, .string og, .int .i64 ot, .int .i64 oo, .string ox] 28)).alloc (.cells #[.int .i64 (s : Int), .int .i64 (c : Int), .int .i64 po] 66)).alloc (.cells #[.int .i64 (-1)] 3)) := ((Below.refl _ _).alloc (by simp) _).alloc (by simp) _
    rw [e1.block w.heap.size (by omega)]; exact e0
  have hlx : (((w.alloc (.cells #[.int .i64 ok, .string og, .int .i64 ot, .int .i64 oo, .string ox] 28)).alloc (.cells #[.int .i64 (s : Int), .int .i64 (c : Int), .int .i64 po] 66)).alloc (.cells #[.int .i64 (-1)] 3)).cell? ⟨w.heap.size + 1 + 1, 0, none⟩ = some (.int .i64 (-1)) := by
    rw [World.cell?_alloc_at _ _ _ _ (by simp)]; rfl
  have h1 := h.below hb1
  have m1 : n1 = l.length := (h.2.1.1 ((a1, n1, c1), l) (by simp)).len
  obtain ⟨g1, e1, hg1B, hg1s, -, -⟩ := (h.2.1.1 ((a1, n1, c1), l) (by simp)).entAt (j := s) (by show s < n1; omega)
  dsimp only at e1
  subst e1
  obtain ⟨p, g, q1, -, ea, hgB, hgs, qc, qf, -⟩ := h.at_ (j := c) (by omega)
  subst ea
  rw [List.getElem?_append_right (by omega), show c - P.length = 0 by omega] at q1
  cases q1
  have HRP := hiq (repeat_any l.length (w.heap.size + 1 + 1) (-1) (((w.alloc (.cells #[.int .i64 ok, .string og, .int .i64 ot, .int .i64 oo, .string ox] 28)).alloc (.cells #[.int .i64 (s : Int), .int .i64 (c : Int), .int .i64 po] 66)).alloc (.cells #[.int .i64 (-1)] 3)) (by omega) (by omega) hlx)
  have HB1 := hiq hb1
  have d0 := clq hb1 qc
  dsimp only at d0
  obtain ⟨z0, z1, z2, -⟩ := box_cells3 hbx
  have hsz : (((w.alloc (.cells #[.int .i64 ok, .string og, .int .i64 ot, .int .i64 oo, .string ox] 28)).alloc (.cells #[.int .i64 (s : Int), .int .i64 (c : Int), .int .i64 po] 66)).alloc (.cells #[.int .i64 (-1)] 3)).heap.size = w.heap.size + 3 := by simp
  have hcn : c < n := by omega
  subst m1
  rw [hsz] at HRP
  have hop : (((w.alloc (.cells #[.int .i64 ok, .string og, .int .i64 ot, .int .i64 oo, .string ox] 28)).alloc (.cells #[.int .i64 (s : Int), .int .i64 (c : Int), .int .i64 po] 66)).alloc (.cells #[.int .i64 (-1)] 3)).cell? ⟨w.heap.size, 2, none⟩ = some (.int .i64 ot) := by rw [Lib.cell_of_heap hox]; rfl
  have HH := hiq h
  have HX := hiq h
  have HC := hiq hc
  have HBX := hiq hbx
  clear h h1 hb0 hb1 hlx hc hn hox hbx
  go_enter Tryz.func76, Tryz.ntmps76
  go_wp2_with fail
  generalize ((w.alloc (.cells #[.int .i64 ok, .string og, .int .i64 ot, .int .i64 oo, .string ox] 28)).alloc (.cells #[.int .i64 (s : Int), .int .i64 (c : Int), .int .i64 po] 66)).alloc (.cells #[.int .i64 (-1)] 3) = W1 at *
  refine HRP.out.mono ?_
  rintro e W2 ⟨rfl, ho2, hb2⟩
  rw [<- hsz] at hb2
  have hb12 := HB1.out.trans (hb2.mono HB1.out.size)
  have ho2q := (ho2.q).mono (B' := B) (by omega)
  have hz2 : w.heap.size + 3 < W2.heap.size := (ho2q.lt _ rfl).2
  -- behind the first store
  have hb3 : Below w.heap.size w (W2.setCell ⟨w.heap.size + 3, s, none⟩ (.int .i64 ot)) := hb12.setCell (p := ⟨w.heap.size + 3, s, none⟩) (by show w.heap.size <= w.heap.size + 3; omega) _
  have ho3 := ho2q.put1 one_int s ot (.int .i64 ot) rfl
  have hst : (W2.setCell ⟨w.heap.size + 3, s, none⟩ (.int .i64 ot)).heap.size = W2.heap.size := by simp [World.setCell]
  obtain ⟨gx, ex, -, -, x0, xf⟩ := ho2q.entAt (j := s) (by show s < l.length; exact hs)
  cases ex
  have xf0 := xf s
  have hne : ∀ b j, b < w.heap.size + 3 -> (⟨w.heap.size + 3, s, none⟩ : Addr) ≠ ⟨b, j, none⟩ := by intro b j hb e; cases e; omega
  replace hop := clq hb2 hop; replace z0 := clq hb2 z0; replace z1 := clq hb2 z1; replace z2 := clq hb2 z2; replace d0 := clq hb2 d0
  have z0' := (World.cell?_setCell_other W2 ⟨w.heap.size + 3, s, none⟩ _ (.int .i64 ot) (hne (w.heap.size + 1) 0 (by omega))).trans z0
  have z1' := (World.cell?_setCell_other W2 ⟨w.heap.size + 3, s, none⟩ _ (.int .i64 ot) (hne (w.heap.size + 1) 1 (by omega))).trans z1
  have d0' := (World.cell?_setCell_other W2 ⟨w.heap.size + 3, s, none⟩ _ (.int .i64 ot) (hne g c (by omega))).trans d0
  have hH3 := HH.out.below hb3
  obtain ⟨gy, ey, -, -, y0, yf⟩ := (hH3.2.1.1 ((some ⟨g1, 0, none⟩, l.length, c1), l) (by simp)).entAt (j := s) (by show s < l.length; exact hs)
  cases ey
  have yf0 := yf s
  have HH3 := hiq hH3
  have HO3 := hiq ho3
  have HB3 := hiq hb3
  have HST := hiq (hst.symm ▸ hz2 : w.heap.size + 3 < (W2.setCell ⟨w.heap.size + 3, s, none⟩ (.int .i64 ot)).heap.size)
  clear hH3 ho3 hb3 hst xf yf hb12 ho2q ho2 hb2 HRP hne HH
  go_wp2_with fail
  generalize W2.setCell ⟨w.heap.size + 3, s, none⟩ (.int .i64 ot) = W3 at *
  refine wp_region_head_drew 8 (by kernel_rfl) (by kernel_rfl) ?_
  simp only [List.take_succ_cons, List.take_zero, List.drop_succ_cons, List.drop_zero]
  repeat (go_big_quiet_step (fail))
  refine wpQuiet_nil ?_
  intro _ hw'
  obtain ⟨nq, rfl⟩ := hw'
  have hne : ∀ j, (⟨g1, s, none⟩ : Addr) ≠ ⟨w.heap.size + 1, j, none⟩ := by intro j e; cases e; omega
  have z1'' := (World.cell?_setCell_other (W3.drewN nq) ⟨g1, s, none⟩ _ (.int .i64 (-1)) (hne 1)).trans (show (W3.drewN nq).cell? _ = _ from z1')
  have hb4 : Below B w ((W3.drewN nq).setCell ⟨g1, s, none⟩ (.int .i64 (-1))) := (below_drewN (HB3.out.mono hB) nq).setCell (p := ⟨g1, s, none⟩) hg1B _
  have hH4 := (HH3.out.drewN nq).set1 one_int s (-1) (.int .i64 (-1)) rfl
  have ho4 := (HO3.out.drewN nq).setOther (g := g1) (j := s) (fun x hx => by cases hx; show w.heap.size + 3 ≠ g1; omega) (.int .i64 (-1))
  have hs4 : w.heap.size + 3 < ((W3.drewN nq).setCell ⟨g1, s, none⟩ (.int .i64 (-1))).heap.size := by simpa [World.setCell] using HST.out
  have HE4 : Hid (((W3.drewN nq).setCell ⟨g1, s, none⟩ (.int .i64 (-1))).heap.size = W3.heap.size) := by show _ = _; simp [World.setCell]
  have HH4 := hiq hH4
  have HO4 := hiq ho4
  have HB4 := hiq hb4
  clear hH4 ho4 hb4 hne HH3 HO3 HB3 HST z0' d0'
  go_wp2_with fail
  generalize (W3.drewN nq).setCell ⟨g1, s, none⟩ (.int .i64 (-1)) = W4 at *
  have hb5 : Below W4.heap.size W4 (W4.alloc (.cells #[.slice (some ⟨w.heap.size + 3, 0, none⟩) l.length l.length] 61)) := (Below.refl _ _).alloc (Nat.le_refl _) _
  have hv5 := World.alloc_heap_new W4 (.cells #[.slice (some ⟨w.heap.size + 3, 0, none⟩) l.length l.length] 61)
  have hH5 := HH4.out.below hb5
  have ho5 := HO4.out.below hb5
  have hs5 : W4.heap.size <= (W4.alloc (.cells #[.slice (some ⟨w.heap.size + 3, 0, none⟩) l.length l.length] 61)).heap.size := by simp
  generalize W4.alloc (.cells #[.slice (some ⟨w.heap.size + 3, 0, none⟩) l.length l.length] 61) = W5 at *
  have hap : ∀ q ∈ P ++ (((some ⟨g1, 0, none⟩, l.length, c1) : Row), l.set s (-1)) :: Q, Apart q.1.1 (some ⟨w.heap.size + 3, 0, none⟩) := by
    have H5 := hiq hH5
    intro q hq x y hx hy
    cases hy
    show x.block ≠ w.heap.size + 3
    have hall : ∀ q ∈ P ++ ((some ⟨g1, 0, none⟩, l.length, c1), l) :: Q, ∀ x, q.1.1 = some x -> x.block < w.heap.size := fun q hq x hx => (HX.out.2.1.lt hq x hx).2
    rcases List.mem_append.1 hq with hq | hq
    · have := hall q (by simp [hq]) x hx; omega
    · rcases List.mem_cons.1 hq with rfl | hq
      · cases hx; show g1 ≠ w.heap.size + 3; omega
      · have := hall q (by simp [hq]) x hx; omega
  have hI := ins_any W5 B (some ⟨g, 0, none⟩) n cap W4.heap.size (P ++ [(((some ⟨g1, 0, none⟩, l.length, c1) : Row), l.set s (-1))]) Q ((some ⟨w.heap.size + 3, 0, none⟩, l.length, l.length), (List.replicate l.length (-1)).set s ot)
    (by rw [List.append_assoc]; exact hH5) (by omega) ho5 (fun x y hx hy => by cases hx; cases hy; show w.heap.size + 3 ≠ g; omega) (by rw [List.append_assoc]; exact hap) hv5 (fun x hx => by cases hx; show W4.heap.size ≠ g; omega) (by simp) (by omega)
  have hpl : (((P ++ [(((some ⟨g1, 0, none⟩, l.length, c1) : Row), l.set s (-1))]).length : Nat) : Int) = (c : Int) + 1 := by rw [List.length_append, HC.out]; simp
  rw [hpl] at hI
  have hI2 := hI
  conv at hI2 => arg 3; rw [HE4.out]
  refine hI2.mono ?_
  rintro e W6 ⟨a', cap', rfl, ho6, hb6⟩
  rw [List.append_assoc] at ho6
  go_wp2
  go_ret
  exact ⟨a', cap', _, rfl, ho6, HB4.out.trans ((hb5.mono (by omega)).trans hb6)⟩
end Go.Proofs.YtbdgmgddliploaaGreatDoor

/- editop.shift. -/
namespace Go.Proofs.YtbdgmgddliploaaGreatDoor
open Go.RowKit

theorem take_mid {α : Type} {l : List α} {k : Nat} {p : α} (h : l[k]? = some p) : l = l.take k ++ p :: l.drop (k + 1) /\ (l.take k).length = k := by
  obtain ⟨hk, e⟩ := List.getElem?_eq_some_iff.1 h
  refine ⟨?_, by rw [List.length_take]; omega⟩
  rw [<- e, List.getElem_cons_drop, List.take_append_drop]
theorem OwnG.setAt {α : Type} {e1 e : Nat} {enc : α -> List Value} {w : World} {B n cap k g m c : Nat} {a : Option Addr} {ps : List (Row × List α)} {l : List α} (h : OwnG e1 e 1 enc w B a n cap ps) (hk : ps[k]? = some ((some ⟨g, 0, none⟩, m, c), l)) (one : ∀ x, ∃ v, enc x = [v]) (j : Nat) (x : α) (v : Value) (hv : enc x = [v]) :
    OwnG e1 e 1 enc (w.setCell ⟨g, j, none⟩ v) B a n cap (ps.set k ((some ⟨g, 0, none⟩, m, c), l.set j x)) := by
  obtain ⟨h1, h2⟩ := take_mid hk
  rw [h1] at h
  have := h.set1 one j x v hv
  have e2 : ps.set k ((some ⟨g, 0, none⟩, m, c), l.set j x) = ps.take k ++ ((some ⟨g, 0, none⟩, m, c), l.set j x) :: ps.drop (k + 1) := by
    conv => lhs; rw [h1]
    have := set_mid (ps.take k) (ps.drop (k + 1)) ((some ⟨g, 0, none⟩, m, c), l) ((some ⟨g, 0, none⟩, m, c), l.set j x)
    rw [h2] at this; exact this
  rw [e2]; exact this
theorem OwnG.apart {α : Type} {e1 e size : Nat} {enc : α -> List Value} {w : World} {B n cap i j : Nat} {a : Option Addr} {ps : List (Row × List α)} {p q : Row × List α} (h : OwnG e1 e size enc w B a n cap ps) (hi : ps[i]? = some p) (hj : ps[j]? = some q) (hij : i ≠ j) : Apart p.1.1 q.1.1 := by
  obtain ⟨ki, rfl⟩ := List.getElem?_eq_some_iff.1 hi
  obtain ⟨kj, rfl⟩ := List.getElem?_eq_some_iff.1 hj
  have := List.pairwise_iff_getElem.1 h.2.1.2
  rcases Nat.lt_or_gt_of_ne hij with q | q
  · exact this i j ki kj q
  · exact (this j i kj ki q).symm
theorem erase_map {α β : Type} (f : α -> β) : ∀ (l : List α) (k : Nat), (l.map f).eraseIdx k = (l.eraseIdx k).map f
  | [], _ => rfl
  | _ :: _, 0 => rfl
  | x :: l, k + 1 => by simp [List.eraseIdx_cons_succ, erase_map f l k]
theorem shift_any (w : World) (a : Option Addr) (n cap : Nat) (ps : List (Row × List Int)) (pc pd : Row × List Int) (o : Op) (s c d : Nat) (B : Nat) (h : OwnC w B a n cap ps) (hB : B <= w.heap.size)
    (hc : ps[c]? = some pc) (hd : ps[d]? = some pd) (hcd : c ≠ d) (hs : s < pc.2.length) (hs2 : s < pd.2.length) (hI : ∀ x ∈ pc.2, I64 x) (hl : pc.2.length <= 1000) (hbn : n <= 100000) :
    Calls Tryz.prog 78 #[.slice a n cap, o.val, .agg #[.int .i64 (s : Int), .int .i64 (c : Int), .int .i64 (d : Int)]] w fun e w' => ∃ n' ps', e = .returned (.slice a n' cap) /\ OwnC w' B a n' cap ps' /\
      ps'.map (·.2) = (if alone (pc.2.set s (-1)) s = true then ((((ps.map (·.2)).set d (pd.2.set s o.tok)).set c (pc.2.set s (-1))).eraseIdx c) else ((ps.map (·.2)).set d (pd.2.set s o.tok)).set c (pc.2.set s (-1))) /\ Below B w w' := by
  obtain ⟨ok, og, ot, oo, ox⟩ := o
  obtain ⟨⟨a1, n1, c1⟩, l1⟩ := pc
  obtain ⟨⟨a2, n2, c2⟩, l2⟩ := pd
  dsimp only at hs hs2 hI hl ⊢
  change Calls _ _ #[_, .agg #[.int .i64 ok, .string og, .int .i64 ot, .int .i64 oo, .string ox], .agg #[.int .i64 (s : Int), .int .i64 (c : Int), .int .i64 (d : Int)]] _ _
  have hlen := h.len
  have hcl : c < n := by rw [hlen]; exact (List.getElem?_eq_some_iff.1 hc).1
  have hdl : d < n := by rw [hlen]; exact (List.getElem?_eq_some_iff.1 hd).1
  obtain ⟨p, g, q1, qm1, ea, hgB, hgs, kc, -, oc⟩ := h.at_ hcl
  rw [hc] at q1; cases q1
  subst ea
  obtain ⟨p, g', q1, qm2, ea, -, -, kd, -, od⟩ := h.at_ hdl
  rw [hd] at q1; cases q1
  cases ea
  have m1 : n1 = l1.length := oc.len
  have m2 : n2 = l2.length := od.len
  subst m1 m2
  dsimp only at kc kd oc od
  obtain ⟨gc, ex, hgcB, hgcs, xc, fc⟩ := oc.entAt hs
  subst ex
  obtain ⟨gd, ex, hgdB, hgds, xd, fd⟩ := od.entAt hs2
  subst ex
  have hne : gc ≠ gd := h.apart hc hd hcd _ _ rfl rfl
  have hneg : gd ≠ g := h.2.2 _ qm2 _ _ rfl rfl
  have hneg1 : gc ≠ g := h.2.2 _ qm1 _ _ rfl rfl
  have hb0 : Below w.heap.size w ((w.alloc (.cells #[.int .i64 ok, .string og, .int .i64 ot, .int .i64 oo, .string ox] 28)).alloc (.cells #[.int .i64 (s : Int), .int .i64 (c : Int), .int .i64 (d : Int)] 66)) := ((Below.refl _ _).alloc (Nat.le_refl _) _).alloc (by simp) _
  have hbx : ((w.alloc (.cells #[.int .i64 ok, .string og, .int .i64 ot, .int .i64 oo, .string ox] 28)).alloc (.cells #[.int .i64 (s : Int), .int .i64 (c : Int), .int .i64 (d : Int)] 66)).heap[w.heap.size + 1]? = some (.cells #[.int .i64 (s : Int), .int .i64 (c : Int), .int .i64 (d : Int)] 66 (0, 0)) := by
    have := World.alloc_heap_new (w.alloc (.cells #[.int .i64 ok, .string og, .int .i64 ot, .int .i64 oo, .string ox] 28)) (.cells #[.int .i64 (s : Int), .int .i64 (c : Int), .int .i64 (d : Int)] 66)
    simpa using this
  have hox : ((w.alloc (.cells #[.int .i64 ok, .string og, .int .i64 ot, .int .i64 oo, .string ox] 28)).alloc (.cells #[.int .i64 (s : Int), .int .i64 (c : Int), .int .i64 (d : Int)] 66)).cell? ⟨w.heap.size, 2, none⟩ = some (.int .i64 ot) := by
    have e0 := World.alloc_heap_new w (.cells #[.int .i64 ok, .string og, .int .i64 ot, .int .i64 oo, .string ox] 28)
    have e1 : Below (w.heap.size + 1) (w.alloc (.cells #[.int .i64 ok, .string og, .int .i64 ot, .int .i64 oo, .string ox] 28)) ((w.alloc (.cells #[.int .i64 ok, .string og, .int .i64 ot, .int .i64 oo, .string ox] 28)).alloc (.cells #[.int .i64 (s : Int), .int .i64 (c : Int), .int .i64 (d : Int)] 66)) := (Below.refl _ _).alloc (by simp) _
    rw [Lib.cell_of_heap ((e1.block w.heap.size (by omega)).trans e0)]; rfl
  obtain ⟨z0, z1, z2, -⟩ := box_cells3 hbx
  have k1 := clq hb0 kc
  have k2 := clq hb0 kd
  have k3 := clq hb0 xd
  have k4 := clq hb0 xc
  have h0 := h.below hb0
  obtain ⟨-, -, -, -, -, -⟩ := (h0.2.1.1 _ qm2).entAt hs2
  have fd0 : ((w.alloc (.cells #[.int .i64 ok, .string og, .int .i64 ot, .int .i64 oo, .string ox] 28)).alloc (.cells #[.int .i64 (s : Int), .int .i64 (c : Int), .int .i64 (d : Int)] 66)).frozen? ⟨gd, s, none⟩ = false := (h0.2.1.1 _ qm2).frozenAt s
  have HH0 := hiq h0
  have HB0 := hiq hb0
  have HC := hiq hc
  have HD := hiq hd
  have HCD := hiq hcd
  clear h h0 hb0 hbx hc hd hcd qm1 qm2 kc kd xc xd fc fd oc od hlen
  obtain ⟨R, hR⟩ : ∃ R, R = (if alone (l1.set s (-1)) s = true then ((((ps.map (·.2)).set d (l2.set s ot)).set c (l1.set s (-1))).eraseIdx c) else ((ps.map (·.2)).set d (l2.set s ot)).set c (l1.set s (-1))) := ⟨_, rfl⟩
  rw [<- hR]
  have HR := hiq hR
  clear hR
  go_enter Tryz.func78, Tryz.ntmps78
  go_wp2
  generalize (w.alloc (.cells #[.int .i64 ok, .string og, .int .i64 ot, .int .i64 oo, .string ox] 28)).alloc (.cells #[.int .i64 (s : Int), .int .i64 (c : Int), .int .i64 (d : Int)] 66) = W1 at *
  refine wp_region_head_drew 10 (by kernel_rfl) (by kernel_rfl) ?_
  simp only [List.take_succ_cons, List.take_zero, List.drop_succ_cons, List.drop_zero]
  repeat (go_big_quiet_step (fail))
  refine wpQuiet_nil ?_
  intro _ hw'
  obtain ⟨nq, rfl⟩ := hw'
  obtain ⟨W2, hW2⟩ : ∃ W2, W2 = (W1.drewN nq).setCell ⟨gd, s, none⟩ (.int .i64 ot) := ⟨_, rfl⟩
  have hH2 := ((HH0.out.drewN nq).setAt HD.out one_int s ot (.int .i64 ot) rfl)
  have hb2 : Below B w ((W1.drewN nq).setCell ⟨gd, s, none⟩ (.int .i64 ot)) := (below_drewN (HB0.out.mono hB) nq).setCell (p := ⟨gd, s, none⟩) hgdB _
  have hne1 : ∀ b j, b ≠ gd -> (⟨gd, s, none⟩ : Addr) ≠ ⟨b, j, none⟩ := by intro b j hb e; cases e; exact hb rfl
  have hs2 : w.heap.size + 1 < ((W1.drewN nq).setCell ⟨gd, s, none⟩ (.int .i64 ot)).heap.size := by
    have e : ((W1.drewN nq).setCell ⟨gd, s, none⟩ (.int .i64 ot)).heap.size = W1.heap.size := by simp [World.setCell]
    rw [e]; exact World.block_lt_of_cell? _ _ z0
  have y0 := (World.cell?_setCell_other (W1.drewN nq) ⟨gd, s, none⟩ _ (.int .i64 ot) (hne1 (w.heap.size + 1) 0 (by omega))).trans (show (W1.drewN nq).cell? _ = _ from z0)
  have y1 := (World.cell?_setCell_other (W1.drewN nq) ⟨gd, s, none⟩ _ (.int .i64 ot) (hne1 (w.heap.size + 1) 1 (by omega))).trans (show (W1.drewN nq).cell? _ = _ from z1)
  have y3 := (World.cell?_setCell_other (W1.drewN nq) ⟨gd, s, none⟩ _ (.int .i64 ot) (hne1 g c (Ne.symm hneg))).trans (show (W1.drewN nq).cell? _ = _ from k1)
  have y4 := (World.cell?_setCell_other (W1.drewN nq) ⟨gd, s, none⟩ _ (.int .i64 ot) (hne1 gc s hne)).trans (show (W1.drewN nq).cell? _ = _ from k4)
  have fc2 : ((W1.drewN nq).setCell ⟨gd, s, none⟩ (.int .i64 ot)).frozen? ⟨gc, s, none⟩ = false := by
    have hk : (ps.set d ((some ⟨gd, 0, none⟩, l2.length, c2), l2.set s ot))[c]? = some ((some ⟨gc, 0, none⟩, l1.length, c1), l1) := by rw [List.getElem?_set_ne (Ne.symm HCD.out)]; exact HC.out
    exact (hH2.2.1.1 _ (List.mem_of_getElem? hk)).frozenAt s
  have HH2 := hiq hH2
  have HB2 := hiq hb2
  clear hH2 hb2 hne1 hW2
  go_wp2
  generalize (W1.drewN nq).setCell ⟨gd, s, none⟩ (.int .i64 ot) = W2' at *
  refine wp_region_head_drew 8 (by kernel_rfl) (by kernel_rfl) ?_
  simp only [List.take_succ_cons, List.take_zero, List.drop_succ_cons, List.drop_zero]
  repeat (go_big_quiet_step (fail))
  refine wpQuiet_nil ?_
  intro _ hw'
  obtain ⟨nr, rfl⟩ := hw'
  have hk : (ps.set d ((some ⟨gd, 0, none⟩, l2.length, c2), l2.set s ot))[c]? = some ((some ⟨gc, 0, none⟩, l1.length, c1), l1) := by rw [List.getElem?_set_ne (Ne.symm HCD.out)]; exact HC.out
  have hH3 := (HH2.out.drewN nr).setAt hk one_int s (-1) (.int .i64 (-1)) rfl
  have hb3 : Below B w ((W2'.drewN nr).setCell ⟨gc, s, none⟩ (.int .i64 (-1))) := (below_drewN HB2.out nr).setCell (p := ⟨gc, s, none⟩) hgcB _
  have hne1 : ∀ b j, b ≠ gc -> (⟨gc, s, none⟩ : Addr) ≠ ⟨b, j, none⟩ := by intro b j hb e; cases e; exact hb rfl
  have x0 := (World.cell?_setCell_other (W2'.drewN nr) ⟨gc, s, none⟩ _ (.int .i64 (-1)) (hne1 (w.heap.size + 1) 0 (by omega))).trans (show (W2'.drewN nr).cell? _ = _ from y0)
  have x1 := (World.cell?_setCell_other (W2'.drewN nr) ⟨gc, s, none⟩ _ (.int .i64 (-1)) (hne1 (w.heap.size + 1) 1 (by omega))).trans (show (W2'.drewN nr).cell? _ = _ from y1)
  have x3 := (World.cell?_setCell_other (W2'.drewN nr) ⟨gc, s, none⟩ _ (.int .i64 (-1)) (hne1 g c (Ne.symm hneg1))).trans (show (W2'.drewN nr).cell? _ = _ from y3)
  have hs3 : w.heap.size + 1 < ((W2'.drewN nr).setCell ⟨gc, s, none⟩ (.int .i64 (-1))).heap.size := by simpa [World.setCell] using hs2
  have HH3 := hiq hH3
  have HB3 := hiq hb3
  clear hH3 hb3 hne1 HH2 HB2 hk
  go_wp2
  generalize (W2'.drewN nr).setCell ⟨gc, s, none⟩ (.int .i64 (-1)) = W3 at *
  have hk3 : ((ps.set d ((some ⟨gd, 0, none⟩, l2.length, c2), l2.set s ot)).set c ((some ⟨gc, 0, none⟩, l1.length, c1), l1.set s (-1)))[c]? = some ((some ⟨gc, 0, none⟩, l1.length, c1), l1.set s (-1)) := by
    rw [List.getElem?_set_self (by simp; have := (List.getElem?_eq_some_iff.1 HC.out).1; omega)]
  have HAL : Hid (∀ q, Calls Tryz.prog 103 #[.slice (some ⟨gc, 0, none⟩) l1.length c1, .int .i64 (s : Int)] (W3.drewN q) fun e w' => e = .returned (.bool (alone (l1.set s (-1)) s)) /\ w' = W3.drewN q) := fun q => by
    have o1 := (HH3.out.drewN q).2.1.1 _ (List.mem_of_getElem? hk3)
    dsimp only at o1
    have := alone_any (fun _ => True) _ _ _ _ s (W3.drewN q) (o1.sq (R := rInt) (s := 8) (fun _ => rfl) (by omega) (fun _ _ => trivial) (fun x hx => ⟨rfl, by
      rcases List.mem_or_eq_of_mem_set hx with hx | rfl
      · exact hI x hx
      · exact ⟨by decide, by decide⟩⟩))
    refine this.mono ?_
    rintro e w' ⟨rfl, rfl⟩
    exact ⟨rfl, rfl⟩
  obtain ⟨A, hA⟩ : ∃ A, A = alone (l1.set s (-1)) s := ⟨_, rfl⟩
  rw [<- hA] at HAL
  have HAA := hiq hA.symm
  clear hA
  refine wp_region_quiet_lit (by kernel_rfl) (by kernel_rfl) ?_
  repeat (go_big_quiet_step ((go_at_call 103; exact Calls.quiet_of_same (HAL.out _))))
  refine wpQuiet_nil ?_
  intro _ hw'
  obtain ⟨nv, rfl⟩ := hw'
  have hl2 : ((ps.set d ((some ⟨gd, 0, none⟩, l2.length, c2), l2.set s ot)).set c ((some ⟨gc, 0, none⟩, l1.length, c1), l1.set s (-1))).map (·.2) = ((ps.map (·.2)).set d (l2.set s ot)).set c (l1.set s (-1)) := by rw [List.map_set, List.map_set]
  have HL2 := hiq hl2
  clear hl2
  cases A with
  | true =>
    obtain ⟨e1, e2⟩ := take_mid hk3
    have hH4 := HH3.out.drewN nv
    rw [e1] at hH4
    have HD4 := hiq (del_any (W3.drewN nv) B _ n cap _ _ _ hH4)
    rw [e2] at HD4
    have HE1 := hiq e1
    have HE2 := hiq e2
    clear e1 e2 hH4 hk3
    go_wp2_with (first | (go_at_call 102; refine HD4.out.mono ?_; rintro e w' ⟨rfl, ho5, hg5⟩) | fail)
    go_ret
    refine ⟨n - 1, _, rfl, ho5, ?_, (below_drewN HB3.out nv).grown hg5 (by show B <= W3.heap.size; omega) (fun j hj => by cases hj; exact hgB)⟩
    rw [HR.out, if_pos HAA.out, <- HL2.out]
    have := erase_mid (((ps.set d ((some ⟨gd, 0, none⟩, l2.length, c2), l2.set s ot)).set c ((some ⟨gc, 0, none⟩, l1.length, c1), l1.set s (-1))).take c) (((ps.set d ((some ⟨gd, 0, none⟩, l2.length, c2), l2.set s ot)).set c ((some ⟨gc, 0, none⟩, l1.length, c1), l1.set s (-1))).drop (c + 1)) ((some ⟨gc, 0, none⟩, l1.length, c1), l1.set s (-1))
    rw [HE2.out, <- HE1.out] at this
    rw [<- this, erase_map]
  | false =>
    clear hk3
    go_wp2
    go_ret
    exact ⟨n, rfl, _, HH3.out.drewN nv, by rw [HR.out, if_neg (by rw [HAA.out]; simp)]; exact HL2.out, below_drewN HB3.out nv⟩
end Go.Proofs.YtbdgmgddliploaaGreatDoor
