/- codec.all: the iterator over all values in a value. -/
import Derived.Test.YtancjkaoocgeeaaDoorCPure1
import Derived.Test.YtancjkaoocgeeaaDoorCRefA
import Derived.RangeFuncNested
import Derived.RangeFuncBound
import Derived.RangeFuncCalls
import Derived.RangeFuncLeaves
import Derived.Shelf.Abstract
import Derived.OwnWalkIn
import Derived.TacticsInMore
import Derived.LoopNIn
import Derived.LoopIn
namespace Go.Proofs.YtancjkaoocgeeaaDoor
open Go.RowKit Go.Shelf
attribute [local go_sem] Oper.semAt_some

theorem roundIn_level {n n' : Nat} {P : Program} {l : Nat} {f : FuncId} {tmps : Array Value} {assign body : Code} {w : World} {R : Ending → World → Prop} (h : RoundIn Fence.wide n P l f tmps assign body w R) : RoundIn Fence.wide n' P l f tmps assign body w R :=
  ⟨h.1, fun c cs _ => h.2 c cs (room_wide _)⟩
theorem yieldAt_level {n n' : Nat} {P : Program} {l : Nat} {args : Array Value} {W : World} {R : Ending → World → Prop} (h : YieldAt Fence.wide n P l args W R) : YieldAt Fence.wide n' P l args W R := by
  obtain ⟨fn, tmps, assign, body, h1, h2⟩ := h
  exact ⟨fn, tmps, assign, body, h1, roundIn_level h2⟩

/-- A value in v, with its depth. -/
abbrev El (v : Vl) := { p : Nat × Vl // p ∈ vis v }
abbrev elEnc (v : Vl) (x : El v) : Array Value := #[.int .i64 (x.1.1 : Int), x.1.2.val]
def els (v : Vl) : List (El v) := (vis v).attach
theorem els_len (v : Vl) : (els v).length = (vis v).length := by simp [els]
theorem els_at {v : Vl} {n : Nat} {p : Nat × Vl} (h : (vis v)[n]? = some p) : ∃ x : El v, (els v)[n]? = some x ∧ x.1 = p := by
  obtain ⟨hn, e⟩ := List.getElem?_eq_some_iff.1 h
  exact ⟨⟨(vis v)[n], List.getElem_mem hn⟩, by simp [els, hn], e⟩

/-- The blocks that the body does not turn. -/
abbrev Out (G : Nat → Prop) : Nat → Prop := fun b => ¬ G b
/-- What the iterator is told: by its yields, from state n to state n + 1. -/
structure Yl (v : Vl) (G : Nat → Prop) (l B0 : Nat) (J Jx : List (El v) → World → Prop) : Prop where
  abj : AbidesFrom B0 J
  abx : AbidesFrom B0 Jx
  low : ∀ b, G b → b < B0
  yield_ : ∀ (k : Nat) (pre : List (El v)) (x : El v) (W1 : World), J pre W1 → pre.length < (els v).length → YieldAt Fence.wide k Tryd.prog l (elEnc v x) W1 fun e W' =>
    (e = .returned (.bool true) ∧ J (pre ++ [x]) W' ∧ KeepS (Out G) W1 W') ∨ (e = .returned (.bool false) ∧ Jx (pre ++ [x]) W')
theorem abides_alloc {β : Type} {B : Nat} {J : β → World → Prop} (h : AbidesFrom B J) {s : β} {W : World} (hJ : J s W) (o : Obj) : J s (W.alloc o) :=
  h s W _ none hJ (World.grownBy_alloc W o none) (fun r e => by cases e)
/-- How the walk ends. -/
def WalkEnd (v : Vl) (G : Nat → Prop) (J Jx : List (El v) → World → Prop) (n : Nat) (W : World) (e : Ending) (W' : World) : Prop :=
  (e = .returned (.bool true) ∧ J ((els v).take n) W' ∧ KeepS (Out G) W W') ∨ (e = .returned (.bool false) ∧ ∃ n', Jx ((els v).take n') W')
theorem take_els {v : Vl} {n : Nat} {x : El v} (h : (els v)[n]? = some x) : (els v).take n ++ [x] = (els v).take (n + 1) := by
  rw [List.take_add_one, h]; rfl
theorem drop_cons {α : Type} {l : List α} {n : Nat} {x : α} {r : List α} (h : l.drop n = x :: r) : l[n]? = some x ∧ l.drop (n + 1) = r := by
  have hn : n < l.length := by
    rcases Nat.lt_or_ge n l.length with e | e
    · exact e
    · rw [List.drop_of_length_le e] at h; cases h
  rw [List.drop_eq_getElem_cons hn] at h
  obtain ⟨h1, h2⟩ := List.cons.inj h
  exact ⟨by rw [List.getElem?_eq_getElem hn, h1], h2⟩
theorem drop_app {α : Type} {l : List α} {n : Nat} {a b : List α} (h : l.drop n = a ++ b) : l.drop (n + a.length) = b := by
  rw [← List.drop_drop, h]; simp

set_option maxRecDepth 100000 in
set_option maxHeartbeats 4000000 in
theorem walk_in {v : Vl} {G : Nat → Prop} {l0 B0 : Nat} {J Jx : List (El v) → World → Prop} (hY : Yl v G l0 B0 J Jx) (by_ bw : Nat) : ∀ (f d : Nat) (u : Vl) (n m : Nat) (post : List (Nat × Vl)) (W : World), d + f = 65 → (vis v).drop n = visits f d u ++ post →
    Rd (Out G) W u → W.cell? ⟨by_, 0, none⟩ = some (.func (.yield l0) #[] #[]) → W.cell? ⟨bw, 0, none⟩ = some (.func (.func 55) #[] #[.pointer (some ⟨by_, 0, none⟩), .pointer (some ⟨bw, 0, none⟩)]) → ¬ G by_ → ¬ G bw → B0 ≤ W.heap.size → J ((els v).take n) W →
    CallsIn Fence.wide m Tryd.prog 55 #[u.val, .int .i64 d, .pointer (some ⟨by_, 0, none⟩), .pointer (some ⟨bw, 0, none⟩)] W (WalkEnd v G J Jx (n + (visits f d u).length) W)
  | f, d, .mk k nn t a c l, n, m, post, w, h65, hdr, hrd, hcy, hcw, hGy, hGw, hB0, hJ => by
    have HY := Lib.hid hY
    have HGY := Lib.hid hGy
    have HGW := Lib.hid hGw
    have HGB : Hid (∀ b, B0 ≤ b → ¬ G b) := fun b hb hg => by have := hY.low b hg; omega
    have hB := boxed (Out G) w _ hrd
    have hBE := hB.below
    have hlt := hB.lt
    have hL := hB.rd.vals.2.2.1
    change l.length * 56 ≤ _ at hL
    have hvis : ∃ r, visits f d (Vl.mk k nn t a c l) = (d, Vl.mk k nn t a c l) :: r := by cases f <;> exact ⟨_, rfl⟩
    obtain ⟨vr, hvr⟩ := hvis
    obtain ⟨hn0, hdr1⟩ := drop_cons (hdr.trans (by rw [hvr]; rfl))
    obtain ⟨x, hx, hx1⟩ := els_at hn0
    have hnl : n < (els v).length := (List.getElem?_eq_some_iff.1 hx).1
    have hJ1 := abides_alloc hY.abj hJ (.cells (Vl.mk k nn t a c l).cells 24)
    obtain ⟨fn, tmps, assign, body, hy, hR⟩ := hY.yield_ (m - 1) _ x _ hJ1 (by rw [List.length_take]; omega)
    change (Instr.yield l0 #[.int .i64 (x.1.1 : Int), x.1.2.val]).run _ _ = _ at hy
    rw [hx1] at hy
    rw [take_els hx] at hR
    change Boxed (Out G) w (w.alloc (.cells #[.int .i64 k, .int .i64 nn, .string t, .slice a l.length c] 24)) _ _ at hB
    change Below _ w (w.alloc (.cells #[.int .i64 k, .int .i64 nn, .string t, .slice a l.length c] 24)) at hBE
    change w.heap.size ≤ (w.alloc (.cells #[.int .i64 k, .int .i64 nn, .string t, .slice a l.length c] 24)).heap.size at hlt
    change (Instr.yield l0 #[.int .i64 (d : Int), .agg #[.int .i64 k, .int .i64 nn, .string t, .slice a l.length c]]).run Tryd.prog (w.alloc (.cells #[.int .i64 k, .int .i64 nn, .string t, .slice a l.length c] 24)) = .ok (.round l0 fn tmps assign body) (w.alloc (.cells #[.int .i64 k, .int .i64 nn, .string t, .slice a l.length c] 24)) at hy
    dsimp only [Vl.val, Vl.cells, Vl.kind, Vl.num, Vl.text, Vl.sl, Vl.addr, Vl.items, Vl.cap] at hR
    have HRR := Lib.hid hR
    have cy := cell_later hBE hcy
    have cw := cell_later hBE hcw
    obtain ⟨E, hE⟩ : ∃ E, E = n + (visits f d (Vl.mk k nn t a c l)).length := ⟨_, rfl⟩
    rw [← hE]
    have HE : Hid (E = n + 1 + vr.length) := by show _ = _; rw [hE, hvr, List.length_cons]; omega
    have HVR := Lib.hid hvr
    have HDR := Lib.hid hdr1
    have hd64 : d ≤ 65 := by omega
    have H65 := Lib.hid h65
    clear hY hR hGy hGw hrd hJ hJ1 hx hx1 hn0 hdr hcy hcw hdr1 hE hvr h65
    change CallsIn _ _ _ _ #[.agg #[.int .i64 k, .int .i64 nn, .string t, .slice a l.length c], _, _, _] _ _
    refine callsIn_of_wp Tryd.func55 rfl trivial ?_ rfl
    simp only [Tryd.ntmps55, List.size_toArray, List.length_cons, List.length_nil, Nat.reduceAdd, Nat.reduceSub, Array.replicate_succ, Array.replicate_zero, List.push_toArray, List.append_toArray, List.nil_append, List.cons_append]
    gi_wp2
    refine ⟨(fun h => by cases h), ?_⟩
    have hsW : w.heap.size < (w.alloc (.cells #[.int .i64 k, .int .i64 nn, .string t, .slice a l.length c] 24)).heap.size := by simp
    generalize w.alloc (.cells #[.int .i64 k, .int .i64 nn, .string t, .slice a l.length c] 24) = W1 at *
    refine HRR.out.mono ?_
    rintro e W2 (⟨rfl, hJ2, hk2⟩ | ⟨rfl, hJx2⟩)
    · have hbx := hB.at_
      have c1 := hk2.cell (a := ⟨w.heap.size, 0, none⟩) (HGB.out _ hB0) hbx.1
      have c4 := hk2.cell (a := ⟨w.heap.size, 0 + 3, none⟩) (HGB.out _ hB0) hbx.2.2.2
      have cy2 := hk2.cell (a := ⟨by_, 0, none⟩) HGY.out cy
      have cw2 := hk2.cell (a := ⟨bw, 0, none⟩) HGW.out cw
      change W2.cell? ⟨w.heap.size, 0, none⟩ = some (.int .i64 k) at c1
      change W2.cell? ⟨w.heap.size, 3, none⟩ = some (.slice a l.length c) at c4
      have hrd2 := Lib.hid (hB.rd.keep hk2)
      have HJ2 := Lib.hid hJ2
      have HK2 : Hid (KeepS (Out G) w W2) := (KeepS.below hBE).trans hk2
      have hsz2 := hk2.1
      clear hJ2 hk2 HRR hy hbx cy cw
      by_cases hk : k = 3
      · subst hk
        cases f with
        | zero =>
          have hv0 : Hid (E = n + 1) := by
            show _ = _
            have e0 : vr = [] := by have := HVR.out; simp [visits] at this; exact this
            rw [HE.out, e0]; rfl
          obtain rfl : d = 65 := by have := H65.out; omega
          gi_wp2
          go_ret
          exact .inl ⟨rfl, by rw [hv0.out]; exact HJ2.out, HK2.out⟩
        | succ f =>
          have hv0 : Hid (vr = l.flatMap (visits f (d + 1))) := by
            have := HVR.out
            rw [visits, if_pos (by rfl)] at this
            exact (List.cons.inj this).2.symm
          have hd : d ≤ 64 := by have := H65.out; omega
          have hd1 : (d : Int) + 1 ≤ 65 := by omega
          have dd1 : decide ((d : Int) ≤ 64) = true := by rw [decide_eq_true_eq]; omega
          have swd : IntKind.i64.wrap ((d : Int) + 1) = (d : Int) + 1 := IntWalk.i64_in _ (by omega)
          gi_wp2
          gi_loopw [24] (fun p wr => ∃ j : Nat, p = .int .i64 (j : Int) ∧ j ≤ l.length ∧ Hid (J ((els v).take (n + 1 + ((l.take j).flatMap (visits f (d + 1))).length)) wr) ∧ Hid (KeepS (Out G) W2 wr)) (fun p _ => l.length - (intOf p).toNat)
          case atStart => exact ⟨0, rfl, Nat.zero_le _, HJ2.out, KeepS.refl _ _⟩
          case round =>
            clear HJ2
            obtain ⟨j, rfl, hj, hJr, hKr⟩ := hrel
            by_cases hlj : j < l.length
            · obtain ⟨u, bb, off, hu, -, ea, hSb, hbl, hat, hru⟩ := (hrd2.out.keep hKr.out).vals.get hlj
              change a = _ at ea
              change l[j]? = _ at hu
              subst ea
              have cy3 := hKr.out.cell (a := ⟨by_, 0, none⟩) HGY.out cy2
              have cw3 := hKr.out.cell (a := ⟨bw, 0, none⟩) HGW.out cw2
              have hsp : l = l.take j ++ (u :: l.drop (j + 1)) := by
                rw [← (List.getElem?_eq_some_iff.1 hu).2, ← List.drop_eq_getElem_cons hlj, List.take_append_drop]
              have hfl : l.flatMap (visits f (d + 1)) = (l.take j).flatMap (visits f (d + 1)) ++ (visits f (d + 1) u ++ (l.drop (j + 1)).flatMap (visits f (d + 1))) := by
                conv => lhs; rw [hsp]
                rw [List.flatMap_append, List.flatMap_cons]
              have hdrj : (vis v).drop (n + 1 + ((l.take j).flatMap (visits f (d + 1))).length) = visits f (d + 1) u ++ ((l.drop (j + 1)).flatMap (visits f (d + 1)) ++ post) := by
                refine drop_app (a := (l.take j).flatMap (visits f (d + 1))) ?_
                rw [HDR.out, hv0.out, hfl]; simp [List.append_assoc]
              have hlen : Hid (n + 1 + ((l.take (j + 1)).flatMap (visits f (d + 1))).length = n + 1 + ((l.take j).flatMap (visits f (d + 1))).length + (visits f (d + 1) u).length) := by
                show _ = _
                rw [List.take_add_one, hu, List.flatMap_append, List.length_append]; simp; omega
              have hbu : Below wr.heap.size wr (wr.alloc (.cells u.cells 24)) := (Below.refl _ _).alloc (Nat.le_refl _) _
              have HF := fun m' => walk_in HY.out by_ bw f (d + 1) u _ m' _ (wr.alloc (.cells u.cells 24)) (by have := H65.out; omega) hdrj (hru.below hbu) (cell_later hbu cy3) (cell_later hbu cw3) HGY.out HGW.out (by have := hKr.out.1; have := hbu.size; omega) (abides_alloc HY.out.abj hJr.out _)
              have c14 := hKr.out.cell (a := ⟨w.heap.size, 3, none⟩) (HGB.out _ hB0) c4
              obtain ⟨d1, d2, d3, d4⟩ := hat
              obtain ⟨uk, un, ut, ua, uc, ul⟩ := u
              dsimp only [Vl.val, Vl.cells, Vl.kind, Vl.num, Vl.text, Vl.sl, Vl.addr, Vl.items, Vl.cap] at d1 d2 d3 d4 HF hbu
              rw [show (((d + 1 : Nat) : Int)) = (d : Int) + 1 by omega] at HF
              have cw4 := cell_later hbu cw3
              have HFF := Lib.hid HF
              clear HF hru hsp hfl hdrj hu hJr
              gi_wp2_with (fail)
              refine ⟨trivial, (fun h => by cases h), ?_⟩
              refine (HFF.out _).mono ?_
              rintro e W3 (⟨rfl, hJ3, hk3⟩ | ⟨rfl, nx, hJx3⟩)
              · have HJ3 := Lib.hid hJ3
                have HK3 : Hid (KeepS (Out G) W2 W3) := (hKr.out.trans (KeepS.below hbu)).trans hk3
                clear hJ3 hk3 HFF
                gi_wp2
                go_roundw
                case rel => exact ⟨j + 1, by go_num, by omega, by rw [hlen.out]; exact HJ3.out, HK3.out⟩
                case measure => simp [intOf]; omega
              · have HJ3 := Lib.hid hJx3
                clear hJx3 HFF
                gi_wp2
                go_ret
                exact .inr ⟨rfl, nx, HJ3.out⟩
            · obtain rfl : j = l.length := by omega
              have hfin : Hid (J ((els v).take E) wr) := by
                have := hJr.out
                rw [List.take_of_length_le (Nat.le_refl _)] at this
                rw [HE.out, hv0.out]; exact this
              have hk : Hid (KeepS (Out G) w wr) := HK2.out.trans hKr.out
              clear hJr
              gi_wp2
              go_ret
              exact .inl ⟨rfl, hfin.out, hk.out⟩
      · have hv0 : Hid (E = n + 1) := by
          show _ = _
          have := HVR.out
          have e0 : vr = [] := by
            cases f with
            | zero => simp [visits] at this; exact this
            | succ f => rw [visits, show (Vl.mk k nn t a c l).kind = k from rfl, if_neg hk] at this; exact (List.cons.inj this).2.symm
          rw [HE.out, e0]; rfl
        have dk : ((k : Int) == 3) = false := by simp; omega
        clear hk
        gi_wp2
        go_ret
        exact .inl ⟨rfl, by rw [hv0.out]; exact HJ2.out, HK2.out⟩
    · have HJX2 := Lib.hid hJx2
      clear hJx2 HRR hy
      gi_wp2
      go_ret
      exact .inr ⟨rfl, _, HJX2.out⟩
termination_by f => f
end Go.Proofs.YtancjkaoocgeeaaDoor
