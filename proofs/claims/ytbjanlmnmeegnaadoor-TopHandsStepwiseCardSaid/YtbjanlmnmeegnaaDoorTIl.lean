/- transcript.places: the iterator's contract; a loop over all places. -/
import Derived.Test.YtbjanlmnmeegnaaDoorTIt
import Derived.Laws.EntriesVeiled
set_option linter.unusedVariables false
set_option linter.unusedSimpArgs false
namespace Go.Proofs.YtbjanlmnmeegnaaDoor
open Go.RowKit Go.Shelf
attribute [local go_sem] Oper.semAt_some

theorem roundIn_level {n n' : Nat} {P : Program} {l : Nat} {f : FuncId} {tmps : Array Value} {assign body : Code} {w : World} {R : Ending → World → Prop} (h : RoundIn Fence.wide n P l f tmps assign body w R) : RoundIn Fence.wide n' P l f tmps assign body w R :=
  ⟨h.1, fun c cs _ => h.2 c cs (room_wide _)⟩
theorem yieldAt_level {n n' : Nat} {P : Program} {l : Nat} {args : Array Value} {W : World} {R : Ending → World → Prop} (h : YieldAt Fence.wide n P l args W R) : YieldAt Fence.wide n' P l args W R := by
  obtain ⟨fn, tmps, assign, body, h1, h2⟩ := h
  exact ⟨fn, tmps, assign, body, h1, roundIn_level h2⟩

set_option maxRecDepth 100000 in
set_option maxHeartbeats 1000000 in
theorem places_stops (m : Nat) (G : Nat → Prop) (bv : Nat) (w : World) (vs : List Vl) (a : Option Addr) (n c : Nat) (hv : Vals (Out G) w a n c vs) (hc : w.cell? ⟨bv, 0, none⟩ = some (.slice a n c)) (hG : ∀ b, G b → b < w.heap.size) (hbv : ¬ G bv) :
    SeqStopsK Fence.wide m Tryd.prog 18 #[.pointer (some ⟨bv, 0, none⟩)] (plEnc (visP 17 0 false vs)) (KeepS (Out G)) (fun ys => ys = elsP (visP 17 0 false vs)) (fun pre => pre <+: elsP (visP 17 0 false vs)) (elsP (visP 17 0 false vs)).length w := fun l0 J Jx W0 hW hJ hJx hY h0 => by
    have Y : YlP (visP 17 0 false vs) G l0 W0.heap.size J Jx := ⟨hJ, hJx, fun b hb => Nat.lt_of_lt_of_le (hG b hb) hW.size, fun k' pre x W1 h1 h2 => yieldAt_level (hY pre x W1 h1 h2)⟩
    have hcW := cell_later hW hc
    have hvW := hv.below hW
    have hb1 : Below W0.heap.size W0 (W0.alloc (.cells #[.func (.yield l0) #[] #[]] 44)) := (Below.refl _ _).alloc (Nat.le_refl _) _
    have hb2 : Below W0.heap.size W0 (((W0.alloc (.cells #[.func (.yield l0) #[] #[]] 44))).alloc (.cells #[.func (.func 19) #[] #[.pointer (some ⟨W0.heap.size, 0, none⟩), .pointer (some ⟨W0.heap.size + 1, 0, none⟩)]] 23)) := hb1.alloc hb1.size _
    have hGs : ∀ b, W0.heap.size ≤ b → ¬ G b := fun b hb hg => by have := hG _ hg; have := hW.size; omega
    have HF : ∀ m', CallsIn Fence.wide m' Tryd.prog 19 #[.slice a n c, .int .i64 (0 : Nat), .pointer (some ⟨W0.heap.size, 0, none⟩), .pointer (some ⟨W0.heap.size + 1, 0, none⟩)] _ _ := fun m' =>
      walkP_in Y W0.heap.size (W0.heap.size + 1) (hGs _ (Nat.le_refl _)) (hGs _ (by omega)) 17 0 vs a n c 0 m' [] (((W0.alloc (.cells #[.func (.yield l0) #[] #[]] 44))).alloc (.cells #[.func (.func 19) #[] #[.pointer (some ⟨W0.heap.size, 0, none⟩), .pointer (some ⟨W0.heap.size + 1, 0, none⟩)]] 23)) rfl (by simp) (hvW.below hb2)
        (by rw [World.cell?_alloc_past _ _ _ (by simp), World.cell?_alloc_at _ _ _ _ rfl]; rfl) (by rw [World.cell?_alloc_at _ _ _ _ (by simp)]; rfl) hb2.size (abides_allocP hJ (abides_allocP hJ h0 _) _)
    have c1 := cell_later hb2 hcW
    have HFF := Lib.hid HF
    have HV : Hid (∀ N', (visP 17 0 false vs).drop N' = [] → (elsP (visP 17 0 false vs)).take N' = elsP (visP 17 0 false vs)) := fun N' h => List.take_of_length_le (by rw [elsP_len]; exact List.drop_eq_nil_iff.1 h)
    clear HF hY hJ hJx hv hvW hcW hc hb1 hb2 h0 Y
    refine callsIn_of_wp Tryd.func18 rfl trivial ?_ rfl
    simp only [Tryd.ntmps18, List.size_toArray, List.length_cons, List.length_nil, Nat.reduceAdd, Nat.reduceSub, Array.replicate_succ, Array.replicate_zero, List.push_toArray, List.append_toArray, List.nil_append, List.cons_append]
    gi_wp2_with (fail)
    refine ⟨trivial, (fun h => by cases h), ?_⟩
    refine (HFF.out _).mono ?_
    rintro e W3 (⟨rfl, ⟨N', hN', hJ3⟩, hk3⟩ | ⟨rfl, nx, hJx3⟩)
    · rw [HV.out N' hN'] at hJ3
      have HJ3 := Lib.hid hJ3
      clear hJ3 hk3 HFF
      gi_wp2
      go_end0
      exact ⟨⟨_, rfl⟩, .inl ⟨_, rfl, HJ3.out⟩⟩
    · have HJ3 := Lib.hid hJx3
      clear hJx3 HFF
      gi_wp2
      go_end0
      exact ⟨⟨_, rfl⟩, .inr ⟨_, List.take_prefix _ _, HJ3.out⟩⟩
theorem places_in (m : Nat) (w : World) (a : Option Addr) (n c : Nat) : CallsIn Fence.wide m Tryd.prog 12 #[.slice a n c] w fun e w' => e = .returned (.func (.func 18) #[] #[.pointer (some ⟨w.heap.size, 0, none⟩)]) ∧ w' = w.alloc (.cells #[.slice a n c] 22) := by
    refine callsIn_of_wp Tryd.func12 rfl trivial ?_ rfl
    simp only [Tryd.ntmps12, List.size_toArray, List.length_cons, List.length_nil, Nat.reduceAdd, Nat.reduceSub, Array.replicate_succ, Array.replicate_zero, List.push_toArray, List.append_toArray, List.nil_append, List.cons_append]
    gi_wp2
    go_ret
    exact ⟨rfl, rfl⟩
theorem places_loop {n i1 : Nat} {g0 : Operand} {assign body : Code} {Q : Exit → Act → World → Prop} {act : Act} {WL : World} (hn : 3 ≤ n) (bv : Nat) (vs : List Vl) (a : Option Addr) (m c : Nat) (G : Nat → Prop)
    (hg0 : act.eval g0 = .func (.func 18) #[] #[.pointer (some ⟨bv, 0, none⟩)])
    (hv : WL.cell? ⟨bv, 0, none⟩ = some (.slice a m c)) (hr : Vals (Out G) WL a m c vs) (hG : ∀ b, G b → b < WL.heap.size) (hbv : ¬ G bv)
    (I : List (ElP (visP 17 0 false vs)) → World → Prop) (Ix : Code → List (ElP (visP 17 0 false vs)) → World → Prop) (hI : OwnFrom WL.heap.size I) (hIx : ∀ c, OwnFrom WL.heap.size (Ix c)) (h0 : I [] WL)
    (Ax : ElP (visP 17 0 false vs) → Act → World → Prop) (hAx : ∀ x a', OwnFrom WL.heap.size (fun (_ : Unit) W => Ax x a' W))
    (hassign : ∀ (l : Nat) (pre : List (ElP (visP 17 0 false vs))) (x : ElP (visP 17 0 false vs)) (W : World) (K : Act → World → Prop), I pre W → (∀ a' W', KeepsFrom WL.heap.size W W' → KeepS (Out G) W W' → I pre W' → Ax x a' W' → K a' W') →
      assign.wpIn (Fence.wide.inRound l) (n - 1 - 1) Tryd.prog (Exit.then K (fun _ _ _ => False)) { tmps := (#[i1].zip (plEnc _ x)).foldl (fun t (p, v) => t.setIfInBounds p v) act.tmps, defers := [] } W)
    (hbody : ∀ (l : Nat) (pre : List (ElP (visP 17 0 false vs))) (x : ElP (visP 17 0 false vs)) (a' : Act) (W : World), I pre W → Ax x a' W → pre.length < (elsP (visP 17 0 false vs)).length → body.wpIn (Fence.wide.inRound l) (n - 1 - 1) Tryd.prog (ownPostG WL.heap.size (KeepS (Out G)) I Ix (pre ++ [x]) W) a' W)
    (hdone : ∀ (D : Nat) (W : World), WL.heap.size ≤ D → I (elsP (visP 17 0 false vs)) W → W.heap[D]? = some (.deferred (some [])) → Q .normal { act with defers := { target := .collected D, args := #[] } :: act.defers } W)
    (hstop : ∀ (D : Nat) (c : Code) (pre : List (ElP (visP 17 0 false vs))) (W : World), WL.heap.size ≤ D → pre <+: elsP (visP 17 0 false vs) → Ix c pre W → W.heap[D]? = some (.deferred (some [])) → c.wpIn Fence.wide n Tryd.prog Q { act with defers := { target := .collected D, args := #[] } :: act.defers } W) :
    (Code.rangeFunc g0 #[i1] assign body).wpIn Fence.wide n Tryd.prog Q act WL :=
  wpIn_rangeFunc_ownH (α := ElP (visP 17 0 false vs)) (n := n) (F := Fence.wide) rfl (by omega) hg0 trivial (enters_of Tryd.func18 (by kernel_rfl) rfl)
    (places_stops (n - 1) G bv WL vs a m c hr hv hG hbv) KeepS.trans
    (fun W _ _ o' _ h hc _ => KeepS.putObj W h hc o') (Below.refl _ _) (fun _ => rfl) I Ix hI hIx h0 Ax hAx hassign
    (fun l pre x a' W _ _ hp ha hlt => hbody l pre x a' W hp ha hlt) (fun D _ W hD he hp hd => hdone D W hD (he ▸ hp) hd) hstop
end Go.Proofs.YtbjanlmnmeegnaaDoor
