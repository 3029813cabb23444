/- codec.all: the iterator's contract; a loop over all values. -/
import Derived.Test.YtancjkaoocgeeaaDoorCIter
import Derived.Laws.EntriesVeiled
namespace Go.Proofs.YtancjkaoocgeeaaDoor
open Go.RowKit Go.Shelf
attribute [local go_sem] Oper.semAt_some

set_option maxRecDepth 100000 in
set_option maxHeartbeats 1000000 in
theorem all_stops (m : Nat) (G : Nat → Prop) (bv : Nat) (w : World) : ∀ (v : Vl), VAt w bv 0 v → Rd (Out G) w v → (∀ b, G b → b < w.heap.size) → ¬ G bv →
    SeqStopsK Fence.wide m Tryd.prog 54 #[.pointer (some ⟨bv, 0, none⟩)] (elEnc v) (KeepS (Out G)) (fun ys => ys = els v) (fun pre => pre <+: els v) (els v).length w
  | .mk k nn t a c l, hv, hr, hG, hbv => fun l0 J Jx W0 hW hJ hJx hY h0 => by
    have Y : Yl (.mk k nn t a c l) G l0 W0.heap.size J Jx := ⟨hJ, hJx, fun b hb => Nat.lt_of_lt_of_le (hG b hb) hW.size, fun k' pre x W1 h1 h2 => yieldAt_level (hY pre x W1 h1 h2)⟩
    have hvW := hv.later hW
    have hb1 : Below W0.heap.size W0 (W0.alloc (.cells #[.func (.yield l0) #[] #[]] 75)) := (Below.refl _ _).alloc (Nat.le_refl _) _
    have hb2 : Below W0.heap.size W0 ((W0.alloc (.cells #[.func (.yield l0) #[] #[]] 75)).alloc (.cells #[.func (.func 55) #[] #[.pointer (some ⟨W0.heap.size, 0, none⟩), .pointer (some ⟨W0.heap.size + 1, 0, none⟩)]] 46)) := hb1.alloc hb1.size _
    have HF : ∀ m', CallsIn Fence.wide m' Tryd.prog 55 #[.agg #[.int .i64 k, .int .i64 nn, .string t, .slice a l.length c], .int .i64 (1 : Nat), .pointer (some ⟨W0.heap.size, 0, none⟩), .pointer (some ⟨W0.heap.size + 1, 0, none⟩)] _ _ := fun m' =>
      walk_in Y W0.heap.size (W0.heap.size + 1) 64 1 (.mk k nn t a c l) 0 m' [] ((W0.alloc (.cells #[.func (.yield l0) #[] #[]] 75)).alloc (.cells #[.func (.func 55) #[] #[.pointer (some ⟨W0.heap.size, 0, none⟩), .pointer (some ⟨W0.heap.size + 1, 0, none⟩)]] 46)) rfl (by simp [vis]) ((hr.below hW).below hb2)
        (by rw [World.cell?_alloc_past _ _ _ (by simp), World.cell?_alloc_at _ _ _ _ rfl]; rfl) (by rw [World.cell?_alloc_at _ _ _ _ (by simp)]; rfl) (fun h => by have := hG _ h; have := hW.size; omega) (fun h => by have := hG _ h; have := hW.size; omega) hb2.size (abides_alloc hJ (abides_alloc hJ h0 _) _)
    obtain ⟨c1, c2, c3, c4⟩ := hvW.later hb2
    dsimp only [Vl.val, Vl.cells, Vl.kind, Vl.num, Vl.text, Vl.sl, Vl.addr, Vl.items, Vl.cap] at c1 c2 c3 c4
    rw [Nat.zero_add] at c2 c3 c4
    have HFF := Lib.hid HF
    have HV : Hid ((els (.mk k nn t a c l)).take (0 + (visits 64 1 (Vl.mk k nn t a c l)).length) = els (.mk k nn t a c l)) := by
      show _ = _
      rw [Nat.zero_add]; exact List.take_of_length_le (by rw [els_len]; exact Nat.le_refl _)
    clear HF hY hJ hJx hv hvW hb1 hb2 h0 hr Y
    refine callsIn_of_wp Tryd.func54 rfl trivial ?_ rfl
    simp only [Tryd.ntmps54, List.size_toArray, List.length_cons, List.length_nil, Nat.reduceAdd, Nat.reduceSub, Array.replicate_succ, Array.replicate_zero, List.push_toArray, List.append_toArray, List.nil_append, List.cons_append]
    gi_wp2_with (fail)
    refine ⟨trivial, (fun h => by cases h), ?_⟩
    refine (HFF.out _).mono ?_
    rintro e W3 (⟨rfl, hJ3, hk3⟩ | ⟨rfl, nx, hJx3⟩)
    · rw [HV.out] at hJ3
      have HJ3 := Lib.hid hJ3
      clear hJ3 hk3 HFF
      gi_wp2
      go_end0
      exact ⟨⟨_, rfl⟩, .inl ⟨_, rfl, HJ3.out⟩⟩
    · have HJ3 := Lib.hid hJx3
      clear hJx3 HFF
      gi_wp2
      go_end0
      exact ⟨⟨_, rfl⟩, .inr ⟨_, List.take_prefix _ _, HJ3.out⟩⟩
end Go.Proofs.YtancjkaoocgeeaaDoor
