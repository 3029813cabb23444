/- dag.from: the iterator over the links that leave a node. -/
import Derived.Test.YtebmachppbpdmaaDLeave
import Derived.RangeFuncNested
import Derived.RangeFuncBound
import Derived.RangeFuncCalls
import Derived.RangeFuncLeaves
import Derived.Shelf.Abstract
import Derived.OwnWalkIn
import Derived.TacticsInMore
import Derived.LoopNIn
import Derived.LoopIn
namespace Go.Proofs.Ytebmachppbpdmaa
open Go.RowKit Go.Shelf
attribute [local go_sem] Oper.semAt_some

/-- A link that leaves s. -/
abbrev Edge (ll : List Lk) (s : Nat) := { i : Nat // i ∈ idx ll s }
/-- What a round is handed: a link's index, and the link. -/
abbrev lkEnc (ll : List Lk) (s : Nat) (x : Edge ll s) : Array Value := #[.int .i64 (x.1 : Int), .agg #[.int .i64 (lkAt ll x.1).1, .int .i64 (lkAt ll x.1).2.1, .int .i64 (lkAt ll x.1).2.2]]
def rowE (ll : List Lk) (s : Nat) : List (Edge ll s) := (idx ll s).attach
/-- What the iterator reads: its three boxes, the row of the node, the links. -/
structure FromRd (bl bs bk : Nat) (a : Option Addr) (n cap g off ln lc : Nat) (ra : Option Addr) (rn rc s : Nat) (ll : List Lk) (w : World) : Prop where
  leave : w.cell? ⟨bl, 0, none⟩ = some (.slice (some ⟨g, off, none⟩) ln lc)
  node : w.cell? ⟨bs, 0, none⟩ = some (.int .i64 (s : Int))
  links : w.cell? ⟨bk, 0, none⟩ = some (.slice a n cap)
  rowc : w.cell? ⟨g, off + s, none⟩ = some (.slice ra rn rc)
  row : Ints w ra rn rc (rowTo ll s ll.length)
  all : Links w a n cap ll
theorem FromRd.below {bl bs bk : Nat} {a ra : Option Addr} {n cap g off ln lc rn rc s : Nat} {ll : List Lk} {w w' : World} (h : FromRd bl bs bk a n cap g off ln lc ra rn rc s ll w) (hb : Below w.heap.size w w') : FromRd bl bs bk a n cap g off ln lc ra rn rc s ll w' :=
  ⟨cell_later hb h.leave, cell_later hb h.node, cell_later hb h.links, cell_later hb h.rowc, h.row.below hb, h.all.below hb⟩
theorem rowE_len (ll : List Lk) (s : Nat) : (rowE ll s).length = (idx ll s).length := by simp [rowE]
theorem rowE_at {ll : List Lk} {s k : Nat} (hk : k < (idx ll s).length) : ∃ x : Edge ll s, (rowE ll s)[k]? = some x ∧ x.1 < ll.length ∧ (rowTo ll s ll.length)[k]?.getD 0 = (x.1 : Int) := by
  refine ⟨⟨(idx ll s)[k], List.getElem_mem hk⟩, by simp [rowE, hk], (mem_idx.1 (List.getElem_mem hk)).1, ?_⟩
  have : rowTo ll s ll.length = (idx ll s).map fun i : Nat => (i : Int) := rfl
  rw [this, List.getElem?_map, List.getElem?_eq_getElem hk]; rfl
theorem rowE_foldl {β : Type} {ll : List Lk} {s : Nat} (f : β → Nat → β) (b : β) : (rowE ll s).foldl (fun b x => f b x.1) b = (idx ll s).foldl f b := by
  rw [rowE, ← List.foldl_map (f := fun x : Edge ll s => x.1) (g := f), List.attach_map_subtype_val]

set_option maxRecDepth 100000 in
set_option maxHeartbeats 1000000 in
theorem from_stops (m : Nat) (_hm : 1 ≤ m) (bl bs bk : Nat) (a ra : Option Addr) (n cap g off ln lc rn rc s : Nat) (ll : List Lk) (w : World) (Kp : World → World → Prop)
    (hKp : ∀ A B, Kp A B → FromRd bl bs bk a n cap g off ln lc ra rn rc s ll A → FromRd bl bs bk a n cap g off ln lc ra rn rc s ll B) (hr : FromRd bl bs bk a n cap g off ln lc ra rn rc s ll w) (hs : s < ln) (hn : n ≤ 65536) :
    SeqStopsK Fence.wide m Try.prog 56 #[.pointer (some ⟨bl, 0, none⟩), .pointer (some ⟨bs, 0, none⟩), .pointer (some ⟨bk, 0, none⟩)] (lkEnc ll s) Kp (fun ys => ys = rowE ll s) (fun pre => pre <+: rowE ll s) (rowE ll s).length w := fun lo J Jx W0 hW hJ _ hY h0 => by
  have hrd : Hid (FromRd bl bs bk a n cap g off ln lc ra rn rc s ll W0) := hr.below hW
  have HKP := Lib.hid hKp
  have HY := Lib.hid hY
  have H := Lib.hid hr.all.len
  have HJ0 : Hid (J [] W0) := h0
  have hrn := hr.row.len
  have HRN : Hid (rn = (idx ll s).length) := by show rn = _; rw [hrn, rowTo, List.length_map]; rfl
  have hrn2 : rn ≤ 65536 := by rw [hrn]; have := rowTo_length ll s ll.length; have := hr.all.len; omega
  clear hY hJ hW hr hKp w h0 hrn
  obtain ⟨W, rfl⟩ : ∃ W, W = W0 := ⟨_, rfl⟩
  have c1 := hrd.out.leave
  have c2 := hrd.out.node
  have c3 := hrd.out.rowc
  refine callsIn_of_wp Try.func56 rfl trivial ?_ rfl
  simp only [Try.ntmps56, List.size_toArray, List.length_cons, List.length_nil, Nat.reduceAdd, Nat.reduceSub, Array.replicate_succ, Array.replicate_zero, List.push_toArray, List.append_toArray, List.nil_append, List.cons_append]
  gi_wp2
  gi_loopw [12] (fun p wr => ∃ k : Nat, p = .int .i64 (k : Int) ∧ k ≤ rn ∧ Hid (FromRd bl bs bk a n cap g off ln lc ra rn rc s ll wr) ∧ Hid (J ((rowE ll s).take k) wr)) (fun p _ => rn - (intOf p).toNat)
  case atStart => exact ⟨0, rfl, Nat.zero_le _, hrd.out, HJ0.out⟩
  case round =>
    clear hrd HJ0 c1 c2 c3
    obtain ⟨k, rfl, hk, hrd, hJp⟩ := hrel
    by_cases hlt : k < rn
    · obtain ⟨x, e2, hin, e3⟩ := rowE_at (ll := ll) (s := s) (k := k) (by rw [← HRN.out]; exact hlt)
      have hn' : x.1 < n := by rw [H.out]; exact hin
      obtain ⟨gr, offr, rfl, -, hcr⟩ := hrd.out.row.at_ (by omega)
      have c4 := hcr.out k hlt
      rw [e3] at c4
      have c5 := hrd.out.links
      obtain ⟨f, t, c, hx, -, -, -, gk, offk, rfl, -, k1, k2, k3⟩ := hrd.out.all.get hn'
      dsimp only at k1 k2 k3
      have hxl : lkAt ll x.1 = (f, t, c) := by rw [lkAt, hx]; rfl
      have hke : k < (rowE ll s).length := by rw [rowE_len, ← HRN.out]; exact hlt
      obtain ⟨fn, tmps, assign, body, hy, hR⟩ := HY.out _ x wr hJp.out (by rw [List.length_take]; omega)
      have hnext : Hid ((rowE ll s).take k ++ [x] = (rowE ll s).take (k + 1)) := by
        show _ = _
        rw [List.take_add_one, e2]; rfl
      have hpre : Hid ((rowE ll s).take (k + 1) <+: rowE ll s) := List.take_prefix _ _
      dsimp only [lkEnc] at hy
      rw [hxl] at hy
      dsimp only at hy
      have HRR := Lib.hid hR
      clear hR e2 e3 hx hxl hke hin hcr
      gi_wp2
      refine HRR.out.mono ?_
      rintro e W3 (⟨rfl, hJ3, hk3⟩ | ⟨rfl, hJx3⟩)
      · have HJ3 := Lib.hid hJ3
        have hrd3 := Lib.hid (HKP.out _ _ hk3 hrd.out)
        clear hJ3 hk3
        gi_wp2
        go_roundw
        case rel => exact ⟨k + 1, by go_num, by omega, hrd3.out, by rw [← hnext.out]; exact HJ3.out⟩
        case measure => simp [intOf]; omega
      · gi_wp2
        refine bodyPost_ret (results_none rfl _ _ _) rfl ?_
        exact ⟨⟨_, rfl⟩, .inr ⟨_, hpre.out, by rw [← hnext.out]; exact hJx3⟩⟩
    · gi_wp2
      go_end0
      refine ⟨⟨_, rfl⟩, .inl ⟨_, ?_, hJp.out⟩⟩
      rw [List.take_of_length_le (by rw [rowE_len, ← HRN.out]; omega)]

theorem from_in (m : Nat) (a la : Option Addr) (n cap ln lc s : Nat) (w : World) :
    CallsIn Fence.wide m Try.prog 42 #[.slice a n cap, .slice la ln lc, .int .i64 (s : Int)] w fun e w' => e = .returned (.func (.func 56) #[] #[.pointer (some ⟨w.heap.size + 1, 0, none⟩), .pointer (some ⟨w.heap.size + 2, 0, none⟩), .pointer (some ⟨w.heap.size, 0, none⟩)]) ∧
      w' = ((w.alloc (.cells #[.slice a n cap] 22)).alloc (.cells #[.slice la ln lc] 46)).alloc (.cells #[.int .i64 (s : Int)] 3) := by
  refine callsIn_of_wp Try.func42 rfl trivial ?_ rfl
  simp only [Try.ntmps42, List.size_toArray, List.length_cons, List.length_nil, Nat.reduceAdd, Nat.reduceSub, Array.replicate_succ, Array.replicate_zero, List.push_toArray, List.append_toArray, List.nil_append, List.cons_append]
  gi_wp2
  go_ret
  exact ⟨rfl, rfl⟩
end Go.Proofs.Ytebmachppbpdmaa
