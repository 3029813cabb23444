/- Joined: CIter, CAll, CLoop, CMsr. -/
import Derived.Test.YtlbcmeebcfalpaaGreatDoorR01
import Derived.Test.YtlbcmeebcfalpaaGreatDoorR02
import Derived.RangeFuncNested
import Derived.RangeFuncBound
import Derived.RangeFuncCalls
import Derived.RangeFuncLeaves
import Derived.Shelf.Abstract
import Derived.OwnWalkIn
import Derived.TacticsInMore
import Derived.LoopNIn
import Derived.LoopIn
import Derived.Laws.EntriesVeiled
set_option linter.unusedVariables false
set_option linter.unusedSimpArgs false
set_option maxRecDepth 100000
set_option maxHeartbeats 16000000
namespace Go.Proofs.YtlbcmeebcfalpaaGreatDoor
open Go.RowKit Go.Shelf
attribute [local go_sem] Oper.semAt_some

theorem roundIn_level {n n' : Nat} {P : Program} {l : Nat} {f : FuncId} {tmps : Array Value} {assign body : Code} {w : World} {R : Ending -> World -> Prop} (h : RoundIn Fence.wide n P l f tmps assign body w R) : RoundIn Fence.wide n' P l f tmps assign body w R :=
  ⟨h.1, fun c cs _ => h.2 c cs (room_wide _)⟩
theorem yieldAt_level {n n' : Nat} {P : Program} {l : Nat} {args : Array Value} {W : World} {R : Ending -> World -> Prop} (h : YieldAt Fence.wide n P l args W R) : YieldAt Fence.wide n' P l args W R := by
  obtain ⟨fn, tmps, assign, body, h1, h2⟩ := h
  exact ⟨fn, tmps, assign, body, h1, roundIn_level h2⟩

/-- A value in v, with its depth. -/
abbrev El (v : Vl) := { p : Nat × Vl // p ∈ vis v }
abbrev elEnc (v : Vl) (x : El v) : Array Value := #[.int .i64 (x.1.1 : Int), x.1.2.val]
def els (v : Vl) : List (El v) := (vis v).attach
theorem els_len (v : Vl) : (els v).length = (vis v).length := by simp [els]
theorem els_at {v : Vl} {n : Nat} {p : Nat × Vl} (h : (vis v)[n]? = some p) : ∃ x : El v, (els v)[n]? = some x /\ x.1 = p := by
  obtain ⟨hn, e⟩ := List.getElem?_eq_some_iff.1 h
  exact ⟨⟨(vis v)[n], List.getElem_mem hn⟩, by simp [els, hn], e⟩

/-- The blocks that the body does not turn. -/
abbrev Out (G : Nat -> Prop) : Nat -> Prop := fun b => ¬ G b
/-- What the iterator is told: by its yields, from state n to state n + 1. -/
structure Yl (v : Vl) (G : Nat -> Prop) (l B0 : Nat) (J Jx : List (El v) -> World -> Prop) : Prop where
  abj : AbidesFrom B0 J
  abx : AbidesFrom B0 Jx
  low : ∀ b, G b -> b < B0
  yield_ : ∀ (k : Nat) (pre : List (El v)) (x : El v) (W1 : World), J pre W1 -> pre.length < (els v).length -> YieldAt Fence.wide k Tryz.prog l (elEnc v x) W1 fun e W' =>
    (e = .returned (.bool true) /\ J (pre ++ [x]) W' /\ KeepS (Out G) W1 W') \/ (e = .returned (.bool false) /\ Jx (pre ++ [x]) W')
theorem abides_alloc {β : Type} {B : Nat} {J : β -> World -> Prop} (h : AbidesFrom B J) {s : β} {W : World} (hJ : J s W) (o : Obj) : J s (W.alloc o) :=
  h s W _ none hJ (World.grownBy_alloc W o none) (fun r e => by cases e)
/-- How the walk ends. -/
def WalkEnd (v : Vl) (G : Nat -> Prop) (J Jx : List (El v) -> World -> Prop) (n : Nat) (W : World) (e : Ending) (W' : World) : Prop :=
  (e = .returned (.bool true) /\ J ((els v).take n) W' /\ KeepS (Out G) W W') \/ (e = .returned (.bool false) /\ ∃ n', Jx ((els v).take n') W')
theorem take_els {v : Vl} {n : Nat} {x : El v} (h : (els v)[n]? = some x) : (els v).take n ++ [x] = (els v).take (n + 1) := by
  rw [List.take_add_one, h]; rfl
theorem drop_cons {α : Type} {l : List α} {n : Nat} {x : α} {r : List α} (h : l.drop n = x :: r) : l[n]? = some x /\ l.drop (n + 1) = r := by
  have hn : n < l.length := by
    rcases Nat.lt_or_ge n l.length with e | e
    · exact e
    · rw [List.drop_of_length_le e] at h; cases h
  rw [List.drop_eq_getElem_cons hn] at h
  obtain ⟨h1, h2⟩ := List.cons.inj h
  exact ⟨by rw [List.getElem?_eq_getElem hn, h1], h2⟩
theorem drop_app {α : Type} {l : List α} {n : Nat} {a b : List α} (h : l.drop n = a ++ b) : l.drop (n + a.length) = b := by
  rw [<- List.drop_drop, h]; simp

theorem walk_in {v : Vl} {G : Nat -> Prop} {l0 B0 : Nat} {J Jx : List (El v) -> World -> Prop} (hY : Yl v G l0 B0 J Jx) (by_ bw : Nat) : ∀ (f d : Nat) (u : Vl) (n m : Nat) (post : List (Nat × Vl)) (W : World), d + f = 65 -> (vis v).drop n = visits f d u ++ post ->
    Rd (Out G) W u -> W.cell? ⟨by_, 0, none⟩ = some (.func (.yield l0) #[] #[]) -> W.cell? ⟨bw, 0, none⟩ = some (.func (.func 221) #[] #[.pointer (some ⟨by_, 0, none⟩), .pointer (some ⟨bw, 0, none⟩)]) -> ¬ G by_ -> ¬ G bw -> B0 <= W.heap.size -> J ((els v).take n) W ->
    CallsIn Fence.wide m Tryz.prog 221 #[u.val, .int .i64 d, .pointer (some ⟨by_, 0, none⟩), .pointer (some ⟨bw, 0, none⟩)] W (WalkEnd v G J Jx (n + (visits f d u).length) W)
  | f, d, .mk k nn t a c l, n, m, post, w, h65, hdr, hrd, hcy, hcw, hGy, hGw, hB0, hJ => by
    have HY := hiq hY
    have HGY := hiq hGy
    have HGW := hiq hGw
    have HGB : Hid (∀ b, B0 <= b -> ¬ G b) := fun b hb hg => by have := hY.low b hg; omega
    have hB := boxed (Out G) w _ hrd
    have hBE := hB.below
    have hlt := hB.lt
    have hL := hB.rd.vals.2.2.1
    change l.length * 56 <= _ at hL
    have hvis : ∃ r, visits f d (Vl.mk k nn t a c l) = (d, Vl.mk k nn t a c l) :: r := by cases f <;> exact ⟨_, rfl⟩
    obtain ⟨vr, hvr⟩ := hvis
    obtain ⟨hn0, hdr1⟩ := drop_cons (hdr.trans (by rw [hvr]; rfl))
    obtain ⟨x, hx, hx1⟩ := els_at hn0
    have hnl : n < (els v).length := (List.getElem?_eq_some_iff.1 hx).1
    have hJ1 := abides_alloc hY.abj hJ (.cells (Vl.mk k nn t a c l).cells 24)
    obtain ⟨fn, tmps, assign, body, hy, hR⟩ := hY.yield_ (m - 1) _ x _ hJ1 (by rw [List.length_take]; omega)
    change (Instr.yield l0 #[.int .i64 (x.1.1 : Int), x.1.2.val]).run _ _ = _ at hy
    rw [hx1] at hy
    rw [take_els hx] at hR
    change Boxed (Out G) w (w.alloc (.cells #[.int .i64 k, .int .i64 nn, .string t, .slice a l.length c] 24)) _ _ at hB
    change Below _ w (w.alloc (.cells #[.int .i64 k, .int .i64 nn, .string t, .slice a l.length c] 24)) at hBE
    change w.heap.size <= (w.alloc (.cells #[.int .i64 k, .int .i64 nn, .string t, .slice a l.length c] 24)).heap.size at hlt
    change (Instr.yield l0 #[.int .i64 (d : Int), .agg #[.int .i64 k, .int .i64 nn, .string t, .slice a l.length c]]).run Tryz.prog (w.alloc (.cells #[.int .i64 k, .int .i64 nn, .string t, .slice a l.length c] 24)) = .ok (.round l0 fn tmps assign body) (w.alloc (.cells #[.int .i64 k, .int .i64 nn, .string t, .slice a l.length c] 24)) at hy
    dsimp only [Vl.val, Vl.cells, Vl.kind, Vl.num, Vl.text, Vl.sl, Vl.addr, Vl.items, Vl.cap] at hR
    have HRR := hiq hR
    have cy := clq hBE hcy
    have cw := clq hBE hcw
    obtain ⟨E, hE⟩ : ∃ E, E = n + (visits f d (Vl.mk k nn t a c l)).length := ⟨_, rfl⟩
    rw [<- hE]
    have HE : Hid (E = n + 1 + vr.length) := by show _ = _; rw [hE, hvr, List.length_cons]; omega
    have HVR := hiq hvr
    have HDR := hiq hdr1
    have hd64 : d <= 65 := by omega
    have H65 := hiq h65
    clear hY hR hGy hGw hrd hJ hJ1 hx hx1 hn0 hdr hcy hcw hdr1 hE hvr h65
    change CallsIn _ _ _ _ #[.agg #[.int .i64 k, .int .i64 nn, .string t, .slice a l.length c], _, _, _] _ _
    refine callsIn_of_wp Tryz.func221 rfl trivial ?_ rfl
    simp only [Tryz.ntmps221, List.size_toArray, List.length_cons, List.length_nil, Nat.reduceAdd, Nat.reduceSub, Array.replicate_succ, Array.replicate_zero, List.push_toArray, List.append_toArray, List.nil_append, List.cons_append]
    gi_wp2
    refine ⟨(fun h => by cases h), ?_⟩
    have hsW : w.heap.size < (w.alloc (.cells #[.int .i64 k, .int .i64 nn, .string t, .slice a l.length c] 24)).heap.size := by simp
    generalize w.alloc (.cells #[.int .i64 k, .int .i64 nn, .string t, .slice a l.length c] 24) = W1 at *
    refine HRR.out.mono ?_
    rintro e W2 (⟨rfl, hJ2, hk2⟩ | ⟨rfl, hJx2⟩)
    · have hbx := hB.at_
      have c1 := hk2.cell (a := ⟨w.heap.size, 0, none⟩) (HGB.out _ hB0) hbx.1
      have c4 := hk2.cell (a := ⟨w.heap.size, 0 + 3, none⟩) (HGB.out _ hB0) hbx.2.2.2
      have cy2 := hk2.cell (a := ⟨by_, 0, none⟩) HGY.out cy
      have cw2 := hk2.cell (a := ⟨bw, 0, none⟩) HGW.out cw
      change W2.cell? ⟨w.heap.size, 0, none⟩ = some (.int .i64 k) at c1
      change W2.cell? ⟨w.heap.size, 3, none⟩ = some (.slice a l.length c) at c4
      have hrd2 := hiq (hB.rd.keep hk2)
      have HJ2 := hiq hJ2
      have HK2 : Hid (KeepS (Out G) w W2) := (KeepS.below hBE).trans hk2
      have hsz2 := hk2.1
      clear hJ2 hk2 HRR hy hbx cy cw
      by_cases hk : k = 3
      · subst hk
        cases f with
        | zero =>
          have hv0 : Hid (E = n + 1) := by
            show _ = _
            have e0 : vr = [] := by have := HVR.out; simp [visits] at this; exact this
            rw [HE.out, e0]; rfl
          obtain rfl : d = 65 := by have := H65.out; omega
          gi_wp2
          go_ret
          exact .inl ⟨rfl, by rw [hv0.out]; exact HJ2.out, HK2.out⟩
        | succ f =>
          have hv0 : Hid (vr = l.flatMap (visits f (d + 1))) := by
            have := HVR.out
            rw [visits, if_pos (by rfl)] at this
            exact (List.cons.inj this).2.symm
          have hd : d <= 64 := by have := H65.out; omega
          have hd1 : (d : Int) + 1 <= 65 := by omega
          have dd1 : decide ((d : Int) <= 64) = true := by rw [decide_eq_true_eq]; omega
          have swd : IntKind.i64.wrap ((d : Int) + 1) = (d : Int) + 1 := IntWalk.i64_in _ (by omega)
          gi_wp2
          gi_loopw [24] (fun p wr => ∃ j : Nat, p = .int .i64 (j : Int) /\ j <= l.length /\ Hid (J ((els v).take (n + 1 + ((l.take j).flatMap (visits f (d + 1))).length)) wr) /\ Hid (KeepS (Out G) W2 wr)) (fun p _ => l.length - (intOf p).toNat)
          case atStart => exact ⟨0, rfl, Nat.zero_le _, HJ2.out, KeepS.refl _ _⟩
          case round =>
            clear HJ2
            obtain ⟨j, rfl, hj, hJr, hKr⟩ := hrel
            by_cases hlj : j < l.length
            · obtain ⟨u, bb, off, hu, -, ea, hSb, hbl, hat, hru⟩ := (hrd2.out.keep hKr.out).vals.get hlj
              change a = _ at ea
              change l[j]? = _ at hu
              subst ea
              have cy3 := hKr.out.cell (a := ⟨by_, 0, none⟩) HGY.out cy2
              have cw3 := hKr.out.cell (a := ⟨bw, 0, none⟩) HGW.out cw2
              have hsp : l = l.take j ++ (u :: l.drop (j + 1)) := by
                rw [<- (List.getElem?_eq_some_iff.1 hu).2, <- List.drop_eq_getElem_cons hlj, List.take_append_drop]
              have hfl : l.flatMap (visits f (d + 1)) = (l.take j).flatMap (visits f (d + 1)) ++ (visits f (d + 1) u ++ (l.drop (j + 1)).flatMap (visits f (d + 1))) := by
                conv => lhs; rw [hsp]
                rw [List.flatMap_append, List.flatMap_cons]
              have hdrj : (vis v).drop (n + 1 + ((l.take j).flatMap (visits f (d + 1))).length) = visits f (d + 1) u ++ ((l.drop (j + 1)).flatMap (visits f (d + 1)) ++ post) := by
                refine drop_app (a := (l.take j).flatMap (visits f (d + 1))) ?_
                rw [HDR.out, hv0.out, hfl]; simp [List.append_assoc]
              have hlen : Hid (n + 1 + ((l.take (j + 1)).flatMap (visits f (d + 1))).length = n + 1 + ((l.take j).flatMap (visits f (d + 1))).length + (visits f (d + 1) u).length) := by
                show _ = _
                rw [List.take_add_one, hu, List.flatMap_append, List.length_append]; simp; omega
              have hbu : Below wr.heap.size wr (wr.alloc (.cells u.cells 24)) := (Below.refl _ _).alloc (Nat.le_refl _) _
              have HF := fun m' => walk_in HY.out by_ bw f (d + 1) u _ m' _ (wr.alloc (.cells u.cells 24)) (by have := H65.out; omega) hdrj (hru.below hbu) (clq hbu cy3) (clq hbu cw3) HGY.out HGW.out (by have := hKr.out.1; have := hbu.size; omega) (abides_alloc HY.out.abj hJr.out _)
              have c14 := hKr.out.cell (a := ⟨w.heap.size, 3, none⟩) (HGB.out _ hB0) c4
              obtain ⟨d1, d2, d3, d4⟩ := hat
              obtain ⟨uk, un, ut, ua, uc, ul⟩ := u
              dsimp only [Vl.val, Vl.cells, Vl.kind, Vl.num, Vl.text, Vl.sl, Vl.addr, Vl.items, Vl.cap] at d1 d2 d3 d4 HF hbu
              rw [show (((d + 1 : Nat) : Int)) = (d : Int) + 1 by omega] at HF
              have cw4 := clq hbu cw3
              have HFF := hiq HF
              clear HF hru hsp hfl hdrj hu hJr
              gi_wp2_with (fail)
              refine ⟨trivial, (fun h => by cases h), ?_⟩
              refine (HFF.out _).mono ?_
              rintro e W3 (⟨rfl, hJ3, hk3⟩ | ⟨rfl, nx, hJx3⟩)
              · have HJ3 := hiq hJ3
                have HK3 : Hid (KeepS (Out G) W2 W3) := (hKr.out.trans (KeepS.below hbu)).trans hk3
                clear hJ3 hk3 HFF
                gi_wp2
                go_roundw
                case rel => exact ⟨j + 1, by go_num, by omega, by rw [hlen.out]; exact HJ3.out, HK3.out⟩
                case measure => simp [intOf]; omega
              · have HJ3 := hiq hJx3
                clear hJx3 HFF
                gi_wp2
                go_ret
                exact .inr ⟨rfl, nx, HJ3.out⟩
            · obtain rfl : j = l.length := by omega
              have hfin : Hid (J ((els v).take E) wr) := by
                have := hJr.out
                rw [List.take_of_length_le (Nat.le_refl _)] at this
                rw [HE.out, hv0.out]; exact this
              have hk : Hid (KeepS (Out G) w wr) := HK2.out.trans hKr.out
              clear hJr
              gi_wp2
              go_ret
              exact .inl ⟨rfl, hfin.out, hk.out⟩
      · have hv0 : Hid (E = n + 1) := by
          show _ = _
          have := HVR.out
          have e0 : vr = [] := by
            cases f with
            | zero => simp [visits] at this; exact this
            | succ f => rw [visits, show (Vl.mk k nn t a c l).kind = k from rfl, if_neg hk] at this; exact (List.cons.inj this).2.symm
          rw [HE.out, e0]; rfl
        have dk : ((k : Int) == 3) = false := by simp; omega
        clear hk
        gi_wp2
        go_ret
        exact .inl ⟨rfl, by rw [hv0.out]; exact HJ2.out, HK2.out⟩
    · have HJX2 := hiq hJx2
      clear hJx2 HRR hy
      gi_wp2
      go_ret
      exact .inr ⟨rfl, _, HJX2.out⟩
termination_by f => f
end Go.Proofs.YtlbcmeebcfalpaaGreatDoor
namespace Go.Proofs.YtlbcmeebcfalpaaGreatDoor
open Go.RowKit Go.Shelf
attribute [local go_sem] Oper.semAt_some

theorem all_stops (m : Nat) (G : Nat -> Prop) (bv : Nat) (w : World) : ∀ (v : Vl), VAt w bv 0 v -> Rd (Out G) w v -> (∀ b, G b -> b < w.heap.size) -> ¬ G bv ->
    SeqStopsK Fence.wide m Tryz.prog 220 #[.pointer (some ⟨bv, 0, none⟩)] (elEnc v) (KeepS (Out G)) (fun ys => ys = els v) (fun pre => pre <+: els v) (els v).length w
  | .mk k nn t a c l, hv, hr, hG, hbv => fun l0 J Jx W0 hW hJ hJx hY h0 => by
    have Y : Yl (.mk k nn t a c l) G l0 W0.heap.size J Jx := ⟨hJ, hJx, fun b hb => Nat.lt_of_lt_of_le (hG b hb) hW.size, fun k' pre x W1 h1 h2 => yieldAt_level (hY pre x W1 h1 h2)⟩
    have hvW := hv.later hW
    have hb1 : Below W0.heap.size W0 (W0.alloc (.cells #[.func (.yield l0) #[] #[]] 280)) := (Below.refl _ _).alloc (Nat.le_refl _) _
    have hb2 : Below W0.heap.size W0 ((W0.alloc (.cells #[.func (.yield l0) #[] #[]] 280)).alloc (.cells #[.func (.func 221) #[] #[.pointer (some ⟨W0.heap.size, 0, none⟩), .pointer (some ⟨W0.heap.size + 1, 0, none⟩)]] 132)) := hb1.alloc hb1.size _
    have HF : ∀ m', CallsIn Fence.wide m' Tryz.prog 221 #[.agg #[.int .i64 k, .int .i64 nn, .string t, .slice a l.length c], .int .i64 (1 : Nat), .pointer (some ⟨W0.heap.size, 0, none⟩), .pointer (some ⟨W0.heap.size + 1, 0, none⟩)] _ _ := fun m' =>
      walk_in Y W0.heap.size (W0.heap.size + 1) 64 1 (.mk k nn t a c l) 0 m' [] ((W0.alloc (.cells #[.func (.yield l0) #[] #[]] 280)).alloc (.cells #[.func (.func 221) #[] #[.pointer (some ⟨W0.heap.size, 0, none⟩), .pointer (some ⟨W0.heap.size + 1, 0, none⟩)]] 132)) rfl (by simp [vis]) ((hr.below hW).below hb2)
        (by rw [World.cell?_alloc_past _ _ _ (by simp), World.cell?_alloc_at _ _ _ _ rfl]; rfl) (by rw [World.cell?_alloc_at _ _ _ _ (by simp)]; rfl) (fun h => by have := hG _ h; have := hW.size; omega) (fun h => by have := hG _ h; have := hW.size; omega) hb2.size (abides_alloc hJ (abides_alloc hJ h0 _) _)
    obtain ⟨c1, c2, c3, c4⟩ := hvW.later hb2
    dsimp only [Vl.val, Vl.cells, Vl.kind, Vl.num, Vl.text, Vl.sl, Vl.addr, Vl.items, Vl.cap] at c1 c2 c3 c4
    rw [Nat.zero_add] at c2 c3 c4
    have HFF := hiq HF
    have HV : Hid ((els (.mk k nn t a c l)).take (0 + (visits 64 1 (Vl.mk k nn t a c l)).length) = els (.mk k nn t a c l)) := by
      show _ = _
      rw [Nat.zero_add]; exact List.take_of_length_le (by rw [els_len]; exact Nat.le_refl _)
    clear HF hY hJ hJx hv hvW hb1 hb2 h0 hr Y
    refine callsIn_of_wp Tryz.func220 rfl trivial ?_ rfl
    simp only [Tryz.ntmps220, List.size_toArray, List.length_cons, List.length_nil, Nat.reduceAdd, Nat.reduceSub, Array.replicate_succ, Array.replicate_zero, List.push_toArray, List.append_toArray, List.nil_append, List.cons_append]
    gi_wp2_with (fail)
    refine ⟨trivial, (fun h => by cases h), ?_⟩
    refine (HFF.out _).mono ?_
    rintro e W3 (⟨rfl, hJ3, hk3⟩ | ⟨rfl, nx, hJx3⟩)
    · rw [HV.out] at hJ3
      have HJ3 := hiq hJ3
      clear hJ3 hk3 HFF
      gi_wp2
      go_end0
      exact ⟨⟨_, rfl⟩, .inl ⟨_, rfl, HJ3.out⟩⟩
    · have HJ3 := hiq hJx3
      clear hJx3 HFF
      gi_wp2
      go_end0
      exact ⟨⟨_, rfl⟩, .inr ⟨_, List.take_prefix _ _, HJ3.out⟩⟩
end Go.Proofs.YtlbcmeebcfalpaaGreatDoor
namespace Go.Proofs.YtlbcmeebcfalpaaGreatDoor
open Go.RowKit Go.Shelf
attribute [local go_sem] Oper.semAt_some

theorem all_in (m : Nat) (w : World) : ∀ (v : Vl), CallsIn Fence.wide m Tryz.prog 150 #[v.val] w fun e w' => e = .returned (.func (.func 220) #[] #[.pointer (some ⟨w.heap.size, 0, none⟩)]) /\ w' = w.alloc (.cells v.cells 24)
  | .mk k nn t a c l => by
    refine callsIn_of_wp Tryz.func150 rfl trivial ?_ rfl
    simp only [Tryz.ntmps150, List.size_toArray, List.length_cons, List.length_nil, Nat.reduceAdd, Nat.reduceSub, Array.replicate_succ, Array.replicate_zero, List.push_toArray, List.append_toArray, List.nil_append, List.cons_append]
    dsimp only [Vl.val, Vl.cells, Vl.kind, Vl.num, Vl.text, Vl.sl, Vl.addr, Vl.items, Vl.cap]
    gi_wp2
    go_ret
    exact ⟨rfl, rfl⟩
/-- What is kept stays kept when an object that is no cells turns. -/
theorem KeepS.own {S : Nat -> Prop} {A W W' : World} {B : Nat} {row : Option Nat} (h : KeepS S A W) (hg : W.grownBy W' row) (hr : ∀ r, row = some r -> B <= r /\ ∃ o : Obj, W.heap[r]? = some o /\ o.isCells = false) : KeepS S A W' :=
  ⟨Nat.le_trans h.1 hg.size, fun b cs t fr hs hb => by
    have hb' := h.2 b cs t fr hs hb
    rw [hg.block b (Array.getElem?_eq_some_iff.1 hb').1 (fun e => by
      obtain ⟨_, o, ho, hc⟩ := hr b e.symm
      rw [hb'] at ho; cases ho; cases hc)]
    exact hb'⟩
theorem cells_own {W W' : World} {B b : Nat} {row : Option Nat} {cs : Array Value} {t : TypeId} {fr : Nat × Nat} (h : W.heap[b]? = some (.cells cs t fr)) (hg : W.grownBy W' row) (hr : ∀ r, row = some r -> B <= r /\ ∃ o : Obj, W.heap[r]? = some o /\ o.isCells = false) : W'.heap[b]? = some (.cells cs t fr) := by
  rw [hg.block b (Array.getElem?_eq_some_iff.1 h).1 (fun e => by
    obtain ⟨_, o, ho, hc⟩ := hr b e.symm
    rw [h] at ho; cases ho; cases hc)]
  exact h
theorem all_loop {n i1 i2 : Nat} {g0 : Operand} {assign body : Code} {Q : Exit -> Act -> World -> Prop} {act : Act} {WL : World} (hn : 3 <= n) (bv : Nat) (v : Vl) (G : Nat -> Prop)
    (hg0 : act.eval g0 = .func (.func 220) #[] #[.pointer (some ⟨bv, 0, none⟩)])
    (hv : VAt WL bv 0 v) (hr : Rd (Out G) WL v) (hG : ∀ b, G b -> b < WL.heap.size) (hbv : ¬ G bv)
    (I : List (El v) -> World -> Prop) (Ix : Code -> List (El v) -> World -> Prop) (hI : OwnFrom WL.heap.size I) (hIx : ∀ c, OwnFrom WL.heap.size (Ix c)) (h0 : I [] WL)
    (Ax : El v -> Act -> World -> Prop) (hAx : ∀ x a', OwnFrom WL.heap.size (fun (_ : Unit) W => Ax x a' W))
    (hassign : ∀ (l : Nat) (pre : List (El v)) (x : El v) (W : World) (K : Act -> World -> Prop), I pre W -> (∀ a' W', KeepsFrom WL.heap.size W W' -> KeepS (Out G) W W' -> I pre W' -> Ax x a' W' -> K a' W') ->
      assign.wpIn (Fence.wide.inRound l) (n - 1 - 1) Tryz.prog (Exit.then K (fun _ _ _ => False)) { tmps := (#[i1, i2].zip (elEnc v x)).foldl (fun t (p, v) => t.setIfInBounds p v) act.tmps, defers := [] } W)
    (hbody : ∀ (l : Nat) (pre : List (El v)) (x : El v) (a' : Act) (W : World), I pre W -> Ax x a' W -> pre.length < (els v).length -> body.wpIn (Fence.wide.inRound l) (n - 1 - 1) Tryz.prog (ownPostG WL.heap.size (KeepS (Out G)) I Ix (pre ++ [x]) W) a' W)
    (hdone : ∀ (D : Nat) (W : World), WL.heap.size <= D -> I (els v) W -> W.heap[D]? = some (.deferred (some [])) -> Q .normal { act with defers := { target := .collected D, args := #[] } :: act.defers } W)
    (hstop : ∀ (D : Nat) (c : Code) (pre : List (El v)) (W : World), WL.heap.size <= D -> pre <+: els v -> Ix c pre W -> W.heap[D]? = some (.deferred (some [])) -> c.wpIn Fence.wide n Tryz.prog Q { act with defers := { target := .collected D, args := #[] } :: act.defers } W) :
    (Code.rangeFunc g0 #[i1, i2] assign body).wpIn Fence.wide n Tryz.prog Q act WL :=
  wpIn_rangeFunc_ownH (α := El v) (n := n) (F := Fence.wide) rfl (by omega) hg0 trivial (enters_of Tryz.func220 (by kernel_rfl) rfl)
    (all_stops (n - 1) G bv WL v hv hr hG hbv) KeepS.trans
    (fun W _ _ o' _ h hc _ => KeepS.putObj W h hc o') (Below.refl _ _) (fun _ => rfl) I Ix hI hIx h0 Ax hAx hassign
    (fun l pre x a' W _ _ hp ha hlt => hbody l pre x a' W hp ha hlt) (fun D _ W hD he hp hd => hdone D W hD (he ▸ hp) hd) hstop
end Go.Proofs.YtlbcmeebcfalpaaGreatDoor
namespace Go.Proofs.YtlbcmeebcfalpaaGreatDoor
open Go.RowKit Go.Shelf
attribute [local go_sem] Oper.semAt_some
/-- The marks that loops over iterators have left. -/
def Marks (hi : Nat) : List Deferred -> World -> Prop
  | [], _ => True
  | d :: ds, W => ∃ D, d = { target := .collected D, args := #[] } /\ hi <= D /\ W.heap[D]? = some (.deferred (some [])) /\ (∀ e ∈ ds, e ≠ d) /\ Marks hi ds W
theorem Marks.one {hi D : Nat} {W : World} (h : hi <= D) (hd : W.heap[D]? = some (.deferred (some []))) : Marks hi [{ target := .collected D, args := #[] }] W := ⟨D, rfl, h, hd, by simp, trivial⟩
theorem Marks.put {hi D : Nat} {A : World} : ∀ {ds : List Deferred}, Marks hi ds A -> (∀ d' ∈ ds, d' ≠ { target := .collected D, args := #[] }) -> Marks hi ds (A.putObj D (.deferred none))
  | [], _, _ => trivial
  | _ :: ds, ⟨D', e, h1, h2, h3, h4⟩, hne => by
    refine ⟨D', e, h1, ?_, h3, Marks.put h4 (fun d hd => hne d (by simp [hd]))⟩
    have : D' ≠ D := fun e2 => hne _ (List.mem_cons_self) (by rw [e, e2])
    rw [World.putObj_heap_other this]; exact h2
/-- A function leaves over its marks. -/
theorem leaves_marks {F : Fence} {n hi : Nat} {P : Program} {fn : Func} {tmps : Array Value} {R : Ending -> World -> Prop} {u : FrameMode} (hu : u ≠ .run) {Φ : World -> Prop}
    (hΦ : ∀ (W : World) (D : Nat), Φ W -> hi <= D -> W.heap[D]? = some (.deferred (some [])) -> Φ (W.putObj D (.deferred none)))
    (hend : ∀ W, Φ W -> LeavesInM F n P fn tmps R [] u W) : ∀ (ds : List Deferred) (W : World), Marks hi ds W -> Φ W -> LeavesInM F n P fn tmps R ds u W
  | [], W, _, h => hend W h
  | _ :: ds, W, ⟨D, e, h1, h2, h3, h4⟩, h => by
    subst e
    exact ⟨hu, .inl ⟨D, _, rfl, run_takeDeferred h2, leaves_marks hu hΦ hend ds _ (h4.put (fun d hd => h3 d hd)) (hΦ W D h h1 h2)⟩⟩
theorem cells_putObj {W : World} {b D : Nat} {cs : Array Value} {t : TypeId} {fr : Nat × Nat} {o : Obj} (h : W.heap[b]? = some (.cells cs t fr)) (hd : W.heap[D]? = some o) (ho : o.isCells = false) (o' : Obj) : (W.putObj D o').heap[b]? = some (.cells cs t fr) := by
  have hne : b ≠ D := fun e => by subst e; rw [h] at hd; cases hd; cases ho
  rw [World.putObj_heap_other hne]; exact h
theorem below_putObj {n₀ : Nat} {A W : World} (h : Below n₀ A W) {D : Nat} (hD : n₀ <= D) {o : Obj} (hd : W.heap[D]? = some o) (o' : Obj) : Below n₀ A (W.putObj D o') :=
  h.trans ((Below.refl n₀ W).grown (grownBy_putObj' W D o') (by have := (Array.getElem?_eq_some_iff.1 hd).1; omega) (fun k e => by cases e; omega))
theorem heap_setCell_self {W : World} {b j : Nat} {cs : Array Value} {t : TypeId} {fr : Nat × Nat} (h : W.heap[b]? = some (.cells cs t fr)) (v : Value) : (W.setCell ⟨b, j, none⟩ v).heap[b]? = some (.cells (cs.setIfInBounds j v) t fr) := by
  simp [World.setCell, Array.getElem?_modify, h]
theorem heap_setCell_other {W : World} {b b' j : Nat} (h : b' ≠ b) (v : Value) : (W.setCell ⟨b, j, none⟩ v).heap[b']? = W.heap[b']? := Below.heap_setCell _ _ _ _ (by simpa using h)

theorem below_setc {n₀ : Nat} {A W : World} (h : Below n₀ A W) {b : Nat} (hb : n₀ <= b) (j : Nat) (v : Value) : Below n₀ A (W.setCell ⟨b, j, none⟩ v) := h.setCell (p := ⟨b, j, none⟩) hb v
/-- What the loop of measure keeps. -/
structure MI (v : Vl) (w WL : World) (pre : List (El v)) (W : World) : Prop where
  cnt : W.heap[w.heap.size + 1 + 1 + 1]? = some (.cells #[.int .i64 (pre.length : Int)] 3 (0, 0))
  r1 : W.heap[w.heap.size + 1]? = some (.cells #[.int .i64 0] 3 (0, 0))
  r2 : W.heap[w.heap.size + 1 + 1]? = some (.cells #[.bool false] 4 (0, 0))
  below : Below w.heap.size w W
  ok : (∀ x ∈ pre, x.1.1 <= 64) /\ pre.length <= 65536
structure MX (v : Vl) (w : World) (W : World) : Prop where
  r1 : W.heap[w.heap.size + 1]? = some (.cells #[.int .i64 0] 3 (0, 0))
  r2 : W.heap[w.heap.size + 1 + 1]? = some (.cells #[.bool false] 4 (0, 0))
  below : Below w.heap.size w W
  no : ¬ okM v
theorem measure_any (S : Nat -> Prop) : ∀ (v : Vl) (w : World), Rd S w v ->
    Calls Tryz.prog 149 #[v.val] w fun e w' => e = .returned (.tuple #[.int .i64 (mgot (measR 64 65536 v.er)), .bool (!mbad (measR 64 65536 v.er))]) /\ Below w.heap.size w w'
  | .mk k nn t a c l, w, h => by
    change Calls _ _ #[.agg #[.int .i64 k, .int .i64 nn, .string t, .slice a l.length c]] _ _
    have HA := hiq (fun m W => all_in m W (.mk k nn t a c l))
    dsimp only [Vl.val, Vl.cells, Vl.kind, Vl.num, Vl.text, Vl.sl, Vl.addr, Vl.items, Vl.cap] at HA
    refine (callsIn_wide (n := 10)).1 ?_
    refine callsIn_of_wp_marks Tryz.func149 rfl trivial ?_ rfl
    simp only [Tryz.ntmps149, List.size_toArray, List.length_cons, List.length_nil, Nat.reduceAdd, Nat.reduceSub, Array.replicate_succ, Array.replicate_zero, List.push_toArray, List.append_toArray, List.nil_append, List.cons_append]
    gi_wp2_with (refine ⟨trivial, ?_⟩; gi_at_call 150; refine (HA.out _ _).mono ?_; rintro e w' ⟨rfl, rfl⟩)
    obtain ⟨WL, hWL⟩ : ∃ WL, WL = ((((w.alloc (.cells #[.int .i64 k, .int .i64 nn, .string t, .slice a l.length c] 24)).alloc (.cells #[.int .i64 0] 3)).alloc (.cells #[.bool false] 4)).alloc (.cells #[.int .i64 0] 3)).alloc (.cells #[.int .i64 k, .int .i64 nn, .string t, .slice a l.length c] 24) := ⟨_, rfl⟩
    have hsz : WL.heap.size = w.heap.size + 1 + 1 + 1 + 1 + 1 := by rw [hWL]; simp
    have hbL : Below w.heap.size w WL := by rw [hWL]; exact (((((Below.refl _ w).alloc (Nat.le_refl _) _).alloc (by simp) _).alloc (by simp; omega) _).alloc (by simp; omega) _).alloc (by simp; omega) _
    have hat : VAt WL (w.heap.size + 1 + 1 + 1 + 1) 0 (.mk k nn t a c l) := by
      rw [hWL]; refine ⟨?_, ?_, ?_, ?_⟩ <;> (rw [World.cell?_alloc_at _ _ _ _ (by simp)]; rfl)
    have h0 : MI (.mk k nn t a c l) w WL [] WL := by
      refine ⟨?_, ?_, ?_, hbL, by simp, by simp⟩
      · rw [hWL, Below.heap_alloc _ _ _ (by simp)]; have := World.alloc_heap_new (((w.alloc (.cells #[.int .i64 k, .int .i64 nn, .string t, .slice a l.length c] 24)).alloc (.cells #[.int .i64 0] 3)).alloc (.cells #[.bool false] 4)) (.cells #[.int .i64 0] 3); simpa using this
      · rw [hWL, Below.heap_alloc _ _ _ (by simp), Below.heap_alloc _ _ _ (by simp), Below.heap_alloc _ _ _ (by simp)]; have := World.alloc_heap_new (w.alloc (.cells #[.int .i64 k, .int .i64 nn, .string t, .slice a l.length c] 24)) (.cells #[.int .i64 0] 3); simpa using this
      · rw [hWL, Below.heap_alloc _ _ _ (by simp), Below.heap_alloc _ _ _ (by simp)]; have := World.alloc_heap_new ((w.alloc (.cells #[.int .i64 k, .int .i64 nn, .string t, .slice a l.length c] 24)).alloc (.cells #[.int .i64 0] 3)) (.cells #[.bool false] 4); simpa using this
    rw [<- hWL]
    clear hWL
    have hrd : Rd (Out (· = w.heap.size + 1 + 1 + 1)) WL (.mk k nn t a c l) := (h.mono (S' := fun b => b < w.heap.size) (fun b _ hb => hb)).keep (.below hbL) |>.mono (fun b hb _ e => by have e : b = w.heap.size + 1 + 1 + 1 := e; have : b < w.heap.size := hb; omega)
    have HM := hiq (measR_vis (.mk k nn t a c l))
    refine all_loop (n := 10) (by omega) (w.heap.size + 1 + 1 + 1 + 1) (.mk k nn t a c l) (· = w.heap.size + 1 + 1 + 1) rfl hat hrd (fun b hb => by have hb : b = w.heap.size + 1 + 1 + 1 := hb; omega) (fun e => by have e : w.heap.size + 1 + 1 + 1 + 1 = w.heap.size + 1 + 1 + 1 := e; omega)
      (MI (.mk k nn t a c l) w WL) (fun c' _ W => c' = .ret /\ MX (.mk k nn t a c l) w W) ?hI ?hIx h0 (fun x a' _ => a' = { tmps := #[.agg #[.int .i64 k, .int .i64 nn, .string t, .slice a l.length c], .pointer (some ⟨w.heap.size, 0, none⟩), .pointer (some ⟨w.heap.size + 1, 0, none⟩), .pointer (some ⟨w.heap.size + 1 + 1, 0, none⟩), .pointer (some ⟨w.heap.size + 1 + 1 + 1, 0, none⟩), .int .i64 (x.1.1 : Int), .agg #[.int .i64 k, .int .i64 nn, .string t, .slice a l.length c], .func (.func 220) #[] #[.pointer (some ⟨w.heap.size + 1 + 1 + 1 + 1, 0, none⟩)], .int .i64 (x.1.1 : Int), x.1.2.val, undef, undef, undef, undef, undef, undef, undef, undef, undef], defers := [] }) ?hAx ?assign ?body ?done ?stop
    case hI =>
      rintro pre W W' row ⟨g1, g2, g3, g4, g5⟩ hg hr
      exact ⟨cells_own g1 hg hr, cells_own g2 hg hr, cells_own g3 hg hr, g4.grown hg g4.size (fun r e => by have := (hr r e).1; omega), g5⟩
    case hIx =>
      rintro c' pre W W' row ⟨g0, g2, g3, g4, g5⟩ hg hr
      exact ⟨g0, cells_own g2 hg hr, cells_own g3 hg hr, g4.grown hg g4.size (fun r e => by have := (hr r e).1; omega), g5⟩
    case hAx => intro x a' _ W W' row h _ _; exact h
    case assign =>
      intro l0 pre x W K hI hK
      gi_wp2
      exact hK _ W (KeepsFrom.refl _ _) (KeepS.refl _ _) hI rfl
    case body =>
      rintro l0 pre x a' W ⟨g1, g2, g3, g4, g5⟩ rfl hlt
      have c1 := cell_of_one g1
      have c2 := cell_of_one g2
      have c3 := cell_of_one g3
      have f1 : W.frozen? ⟨w.heap.size + 1 + 1 + 1, 0, none⟩ = false := by simp [World.frozen?, g1]
      have f2 : W.frozen? ⟨w.heap.size + 1, 0, none⟩ = false := by simp [World.frozen?, g2]
      have f3 : W.frozen? ⟨w.heap.size + 1 + 1, 0, none⟩ = false := by simp [World.frozen?, g3]
      have hx := x.2
      have HX := hiq hx
      have hle := g5.2
      have HG := hiq (⟨g1, g2, g3, g4, g5⟩ : MI (.mk k nn t a c l) w WL pre W)
      have hnx : Hid (MI (.mk k nn t a c l) w WL (pre ++ [x]) (W.setCell ⟨w.heap.size + 1 + 1 + 1, 0, none⟩ (.int .i64 ((pre.length : Int) + 1))) \/ ¬ (x.1.1 <= 64 /\ pre.length + 1 <= 65536)) := by
        by_cases hc : x.1.1 <= 64 /\ pre.length + 1 <= 65536
        · refine .inl ⟨?_, ?_, ?_, below_setc g4 (by omega) _ _, ?_, by rw [List.length_append]; exact hc.2⟩
          · rw [heap_setCell_self g1]; simp
          · rw [heap_setCell_other (by omega)]; exact g2
          · rw [heap_setCell_other (by omega)]; exact g3
          · intro y hy
            rcases List.mem_append.1 hy with hy | hy
            · exact g5.1 y hy
            · simp at hy; subst hy; exact hc.1
        · exact .inr hc
      have hxx : Hid (¬ (x.1.1 <= 64 /\ pre.length + 1 <= 65536) -> MX (.mk k nn t a c l) w (((W.setCell ⟨w.heap.size + 1 + 1 + 1, 0, none⟩ (.int .i64 ((pre.length : Int) + 1))).setCell ⟨w.heap.size + 1, 0, none⟩ (.int .i64 0)).setCell ⟨w.heap.size + 1 + 1, 0, none⟩ (.bool false))) := fun hno => by
        refine ⟨?_, ?_, below_setc (below_setc (below_setc g4 (by omega) _ _) (by omega) _ _) (by omega) _ _, fun hok => hno ⟨hok.1 _ hx, ?_⟩⟩
        · rw [heap_setCell_other (by omega), heap_setCell_self (by rw [heap_setCell_other (by omega)]; exact g2)]; simp
        · rw [heap_setCell_self (by rw [heap_setCell_other (by omega), heap_setCell_other (by omega)]; exact g3)]; simp
        · have := hok.2; rw [els_len] at hlt; omega
      have sw : IntKind.i64.wrap ((pre.length : Int) + 1) = (pre.length : Int) + 1 := IntWalk.i64_in _ (by omega)
      clear g1 g2 g3 g4 g5 hx
      generalize x.1.1 = dx at *
      by_cases hd : dx <= 64
      · by_cases hn : pre.length + 1 <= 65536
        · have hnx2 := hiq (hnx.out.resolve_right (fun h => h ⟨hd, hn⟩))
          clear hnx hxx
          gi_wp2
          exact ⟨(KeepsOthers.setCell _ _ _).from _, KeepS.setCell (S := Out (· = w.heap.size + 1 + 1 + 1)) W (fun h => h rfl) _, hnx2.out⟩
        · have hxx2 := hiq (hxx.out (fun h => hn h.2))
          clear hnx hxx
          gi_wp2
          exact ⟨(((KeepsOthers.setCell _ _ _).trans (KeepsOthers.setCell _ _ _)).trans (KeepsOthers.setCell _ _ _)).from _, rfl, hxx2.out⟩
      · have hxx2 := hiq (hxx.out (fun h => hd h.1))
        clear hnx hxx
        gi_wp2
        exact ⟨(((KeepsOthers.setCell _ _ _).trans (KeepsOthers.setCell _ _ _)).trans (KeepsOthers.setCell _ _ _)).from _, rfl, hxx2.out⟩
    case done =>
      rintro D W hD ⟨g1, g2, g3, g4, g5⟩ hd
      have c1 := cell_of_one g1
      have c2 := cell_of_one g2
      have c3 := cell_of_one g3
      have f2 : W.frozen? ⟨w.heap.size + 1, 0, none⟩ = false := by simp [World.frozen?, g2]
      have f3 : W.frozen? ⟨w.heap.size + 1 + 1, 0, none⟩ = false := by simp [World.frozen?, g3]
      have hR : Hid (measR 64 65536 (Vl.mk k nn t a c l).er = some ((els (Vl.mk k nn t a c l)).length : Int)) := by
        show _ = _
        rw [els_len]
        exact HM.out.1 ⟨fun p hp => by
          obtain ⟨j, hj⟩ := List.mem_iff_getElem?.1 hp
          obtain ⟨x, hx, hx1⟩ := els_at hj
          rw [<- hx1]; exact g5.1 x (List.mem_of_getElem? hx), by rw [<- els_len]; exact g5.2⟩
      have HG1 := hiq g1
      have HG2 := hiq g2
      have HG3 := hiq g3
      have HD := hiq hd
      clear g1 g2 g3 g5 hd
      have hend : Hid (((W.setCell ⟨w.heap.size + 1, 0, none⟩ (.int .i64 ((els (Vl.mk k nn t a c l)).length : Int))).setCell ⟨w.heap.size + 1 + 1, 0, none⟩ (.bool true)).heap[w.heap.size + 1]? = some (.cells #[.int .i64 ((els (Vl.mk k nn t a c l)).length : Int)] 3 (0, 0)) /\ ((W.setCell ⟨w.heap.size + 1, 0, none⟩ (.int .i64 ((els (Vl.mk k nn t a c l)).length : Int))).setCell ⟨w.heap.size + 1 + 1, 0, none⟩ (.bool true)).heap[w.heap.size + 1 + 1]? = some (.cells #[.bool true] 4 (0, 0)) /\
          ((W.setCell ⟨w.heap.size + 1, 0, none⟩ (.int .i64 ((els (Vl.mk k nn t a c l)).length : Int))).setCell ⟨w.heap.size + 1 + 1, 0, none⟩ (.bool true)).heap[D]? = some (.deferred (some []))) := by
        refine ⟨?_, ?_, ?_⟩
        · rw [heap_setCell_other (by omega), heap_setCell_self HG2.out]; simp
        · rw [heap_setCell_self (by rw [heap_setCell_other (by omega)]; exact HG3.out)]; simp
        · rw [heap_setCell_other (by omega), heap_setCell_other (by omega)]; exact HD.out
      have hb5 := below_setc (below_setc g4 (b := w.heap.size + 1) (by omega) 0 (.int .i64 ((els (Vl.mk k nn t a c l)).length : Int))) (b := w.heap.size + 1 + 1) (by omega) 0 (.bool true)
      gi_wp2
      refine leaves_marks (hi := w.heap.size) (by simp) (Φ := fun W => W.heap[w.heap.size + 1]? = some (.cells #[.int .i64 ((els (Vl.mk k nn t a c l)).length : Int)] 3 (0, 0)) /\ W.heap[w.heap.size + 1 + 1]? = some (.cells #[.bool true] 4 (0, 0)) /\ Below w.heap.size w W) ?_ ?_ _ _ (Marks.one (by omega) hend.out.2.2) ⟨hend.out.1, hend.out.2.1, hb5⟩
      · rintro W D ⟨h1, h2, h3⟩ hD hd
        exact ⟨cells_putObj h1 hd rfl _, cells_putObj h2 hd rfl _, below_putObj h3 hD hd _⟩
      · rintro W ⟨h1, h2, h3⟩
        have e1 := cell_of_one h1
        have e2 := cell_of_one h2
        refine ⟨_, by simp [results, Tryz.results149, go_sem, e1, e2]; rfl, ?_, h3⟩
        rw [hR.out]; rfl
    case stop =>
      rintro D c' pre W hD _ ⟨rfl, g2, g3, g4, g5⟩ hd
      have hR : Hid (measR 64 65536 (Vl.mk k nn t a c l).er = none) := HM.out.2 g5
      gi_wp2
      refine leaves_marks (hi := w.heap.size) (by simp) (Φ := fun W => W.heap[w.heap.size + 1]? = some (.cells #[.int .i64 0] 3 (0, 0)) /\ W.heap[w.heap.size + 1 + 1]? = some (.cells #[.bool false] 4 (0, 0)) /\ Below w.heap.size w W) ?_ ?_ _ _ (Marks.one (by omega) hd) ⟨g2, g3, g4⟩
      · rintro W D ⟨h1, h2, h3⟩ hD hd
        exact ⟨cells_putObj h1 hd rfl _, cells_putObj h2 hd rfl _, below_putObj h3 hD hd _⟩
      · rintro W ⟨h1, h2, h3⟩
        have e1 := cell_of_one h1
        have e2 := cell_of_one h2
        refine ⟨_, by simp [results, Tryz.results149, go_sem, e1, e2]; rfl, ?_, h3⟩
        rw [hR.out]; rfl
end Go.Proofs.YtlbcmeebcfalpaaGreatDoor
