/- hands.walk: the iterator's contract; a loop over all places. -/
import Derived.Test.YtbjanlmnmeegnaaDoorTWk
import Derived.Laws.EntriesVeiled
set_option linter.unusedVariables false
set_option linter.unusedSimpArgs false
namespace Go.Proofs.YtbjanlmnmeegnaaDoor
open Go.RowKit Go.Shelf
attribute [local go_sem] Oper.semAt_some

set_option maxRecDepth 100000 in
set_option maxHeartbeats 1000000 in
theorem walk_stops (m : Nat) (G : Nat → Prop) (bv : Nat) (w : World) (vs : List Vl) (a : Option Addr) (n c : Nat) (hv : Vals (Out G) w a n c vs) (hc : w.cell? ⟨bv, 0, none⟩ = some (.slice a n c)) (hG : ∀ b, G b → b < w.heap.size) (hbv : ¬ G bv) :
    SeqStopsK Fence.wide m Tryd.prog 49 #[.pointer (some ⟨bv, 0, none⟩)] (wkEnc (visL vs)) (KeepS (Out G)) (fun ys => ys = elsW (visL vs)) (fun pre => pre <+: elsW (visL vs)) (elsW (visL vs)).length w := fun l0 J Jx W0 hW hJ hJx hY h0 => by
    have Y : YlW (visL vs) G l0 W0.heap.size J Jx := ⟨hJ, hJx, fun b hb => Nat.lt_of_lt_of_le (hG b hb) hW.size, fun k' pre x W1 h1 h2 => yieldAt_level (hY pre x W1 h1 h2)⟩
    have hcW := cell_later hW hc
    have hvW := hv.below hW
    have hb1 : Below W0.heap.size W0 (W0.alloc (.cells #[.func (.yield l0) #[] #[]] 75)) := (Below.refl _ _).alloc (Nat.le_refl _) _
    have hb2 : Below W0.heap.size W0 (((W0.alloc (.cells #[.func (.yield l0) #[] #[]] 75))).alloc (.cells #[.func (.func 50) #[] #[.pointer (some ⟨W0.heap.size, 0, none⟩), .pointer (some ⟨W0.heap.size + 1, 0, none⟩)]] 30)) := hb1.alloc hb1.size _
    have hGs : ∀ b, W0.heap.size ≤ b → ¬ G b := fun b hb hg => by have := hG _ hg; have := hW.size; omega
    have HF : ∀ m', CallsIn Fence.wide m' Tryd.prog 50 #[.slice a n c, .pointer (some ⟨W0.heap.size, 0, none⟩), .pointer (some ⟨W0.heap.size + 1, 0, none⟩)] _ _ := fun m' =>
      walkW_in Y W0.heap.size (W0.heap.size + 1) (hGs _ (Nat.le_refl _)) (hGs _ (by omega)) _ vs a n c 0 m' [] (((W0.alloc (.cells #[.func (.yield l0) #[] #[]] 75))).alloc (.cells #[.func (.func 50) #[] #[.pointer (some ⟨W0.heap.size, 0, none⟩), .pointer (some ⟨W0.heap.size + 1, 0, none⟩)]] 30)) (Nat.le_refl _) (by simp) (hvW.below hb2)
        (by rw [World.cell?_alloc_past _ _ _ (by simp), World.cell?_alloc_at _ _ _ _ rfl]; rfl) (by rw [World.cell?_alloc_at _ _ _ _ (by simp)]; rfl) hb2.size (abides_allocP hJ (abides_allocP hJ h0 _) _)
    have c1 := cell_later hb2 hcW
    have HFF := Lib.hid HF
    have HV : Hid (∀ N', (visL vs).drop N' = [] → (elsW (visL vs)).take N' = elsW (visL vs)) := fun N' h => List.take_of_length_le (by rw [elsW_len]; exact List.drop_eq_nil_iff.1 h)
    clear HF hY hJ hJx hv hvW hcW hc hb1 hb2 h0 Y
    refine callsIn_of_wp Tryd.func49 rfl trivial ?_ rfl
    simp only [Tryd.ntmps49, List.size_toArray, List.length_cons, List.length_nil, Nat.reduceAdd, Nat.reduceSub, Array.replicate_succ, Array.replicate_zero, List.push_toArray, List.append_toArray, List.nil_append, List.cons_append]
    gi_wp2_with (fail)
    refine ⟨trivial, (fun h => by cases h), ?_⟩
    refine (HFF.out _).mono ?_
    rintro e W3 (⟨rfl, ⟨N', hN', hJ3⟩, hk3⟩ | ⟨rfl, nx, hJx3⟩)
    · rw [HV.out N' hN'] at hJ3
      have HJ3 := Lib.hid hJ3
      clear hJ3 hk3 HFF
      gi_wp2
      go_end0
      exact ⟨⟨_, rfl⟩, .inl ⟨_, rfl, HJ3.out⟩⟩
    · have HJ3 := Lib.hid hJx3
      clear hJx3 HFF
      gi_wp2
      go_end0
      exact ⟨⟨_, rfl⟩, .inr ⟨_, List.take_prefix _ _, HJ3.out⟩⟩
theorem walk_in (m : Nat) (w : World) (a : Option Addr) (n c : Nat) : CallsIn Fence.wide m Tryd.prog 42 #[.slice a n c] w fun e w' => e = .returned (.func (.func 49) #[] #[.pointer (some ⟨w.heap.size, 0, none⟩)]) ∧ w' = w.alloc (.cells #[.slice a n c] 22) := by
    refine callsIn_of_wp Tryd.func42 rfl trivial ?_ rfl
    simp only [Tryd.ntmps42, List.size_toArray, List.length_cons, List.length_nil, Nat.reduceAdd, Nat.reduceSub, Array.replicate_succ, Array.replicate_zero, List.push_toArray, List.append_toArray, List.nil_append, List.cons_append]
    gi_wp2
    go_ret
    exact ⟨rfl, rfl⟩
theorem walk_loop {n i1 : Nat} {g0 : Operand} {assign body : Code} {Q : Exit → Act → World → Prop} {act : Act} {WL : World} (hn : 3 ≤ n) (bv : Nat) (vs : List Vl) (a : Option Addr) (m c : Nat) (G : Nat → Prop)
    (hg0 : act.eval g0 = .func (.func 49) #[] #[.pointer (some ⟨bv, 0, none⟩)])
    (hv : WL.cell? ⟨bv, 0, none⟩ = some (.slice a m c)) (hr : Vals (Out G) WL a m c vs) (hG : ∀ b, G b → b < WL.heap.size) (hbv : ¬ G bv)
    (I : List (ElW (visL vs)) → World → Prop) (Ix : Code → List (ElW (visL vs)) → World → Prop) (hI : OwnFrom WL.heap.size I) (hIx : ∀ c, OwnFrom WL.heap.size (Ix c)) (h0 : I [] WL)
    (Ax : ElW (visL vs) → Act → World → Prop) (hAx : ∀ x a', OwnFrom WL.heap.size (fun (_ : Unit) W => Ax x a' W))
    (hassign : ∀ (l : Nat) (pre : List (ElW (visL vs))) (x : ElW (visL vs)) (W : World) (K : Act → World → Prop), I pre W → (∀ a' W', KeepsFrom WL.heap.size W W' → KeepS (Out G) W W' → I pre W' → Ax x a' W' → K a' W') →
      assign.wpIn (Fence.wide.inRound l) (n - 1 - 1) Tryd.prog (Exit.then K (fun _ _ _ => False)) { tmps := (#[i1].zip (wkEnc _ x)).foldl (fun t (p, v) => t.setIfInBounds p v) act.tmps, defers := [] } W)
    (hbody : ∀ (l : Nat) (pre : List (ElW (visL vs))) (x : ElW (visL vs)) (a' : Act) (W : World), I pre W → Ax x a' W → pre.length < (elsW (visL vs)).length → body.wpIn (Fence.wide.inRound l) (n - 1 - 1) Tryd.prog (ownPostG WL.heap.size (KeepS (Out G)) I Ix (pre ++ [x]) W) a' W)
    (hdone : ∀ (D : Nat) (W : World), WL.heap.size ≤ D → I (elsW (visL vs)) W → W.heap[D]? = some (.deferred (some [])) → Q .normal { act with defers := { target := .collected D, args := #[] } :: act.defers } W)
    (hstop : ∀ (D : Nat) (c : Code) (pre : List (ElW (visL vs))) (W : World), WL.heap.size ≤ D → pre <+: elsW (visL vs) → Ix c pre W → W.heap[D]? = some (.deferred (some [])) → c.wpIn Fence.wide n Tryd.prog Q { act with defers := { target := .collected D, args := #[] } :: act.defers } W) :
    (Code.rangeFunc g0 #[i1] assign body).wpIn Fence.wide n Tryd.prog Q act WL :=
  wpIn_rangeFunc_ownH (α := ElW (visL vs)) (n := n) (F := Fence.wide) rfl (by omega) hg0 trivial (enters_of Tryd.func49 (by kernel_rfl) rfl)
    (walk_stops (n - 1) G bv WL vs a m c hr hv hG hbv) KeepS.trans
    (fun W _ _ o' _ h hc _ => KeepS.putObj W h hc o') (Below.refl _ _) (fun _ => rfl) I Ix hI hIx h0 Ax hAx hassign
    (fun l pre x a' W _ _ hp ha hlt => hbody l pre x a' W hp ha hlt) (fun D _ W hD he hp hd => hdone D W hD (he ▸ hp) hd) hstop
end Go.Proofs.YtbjanlmnmeegnaaDoor
