/- transcript.places: the iterator over all nodes, with their depth and what stands before them. -/
import Derived.Test.YtbjanlmnmeegnaaDoorTGre
import Derived.Test.YtbjanlmnmeegnaaDoorEPut
import Derived.RangeFuncNested
import Derived.RangeFuncBound
import Derived.RangeFuncCalls
import Derived.RangeFuncLeaves
import Derived.Shelf.Abstract
import Derived.OwnWalkIn
import Derived.TacticsInMore
import Derived.LoopNIn
import Derived.LoopIn
set_option linter.unusedVariables false
set_option linter.unusedSimpArgs false
namespace Go.Proofs.YtbjanlmnmeegnaaDoor
open Go.RowKit Go.Shelf
attribute [local go_sem] Oper.semAt_some

/-- A place: depth, node, whether a text stands before it. -/
abbrev Pl := Nat × Vl × Bool
def lstP (g : List Vl → List Pl) (d : Nat) : Bool → List Vl → List Pl
  | _, [] => []
  | tx, v :: r => (d, v, tx) :: (g v.items ++ lstP g d (decide (v.kind = 1)) r)
/-- All places, f levels deep. -/
def visP : Nat → Nat → Bool → List Vl → List Pl
  | 0, d, tx, l => lstP (fun _ => []) d tx l
  | f + 1, d, tx, l => lstP (visP f (d + 1) false) d tx l
abbrev ElP (L : List Pl) := { p : Pl // p ∈ L }
abbrev plEnc (L : List Pl) (x : ElP L) : Array Value := #[.agg #[.int .i64 x.1.2.1.kind, .string x.1.2.1.text, .int .i64 x.1.2.1.num, x.1.2.1.sl, .int .i64 (x.1.1 : Int), .bool x.1.2.2]]
def elsP (L : List Pl) : List (ElP L) := L.attach
theorem elsP_len (L : List Pl) : (elsP L).length = L.length := by simp [elsP]
theorem elsP_at {L : List Pl} {n : Nat} {p : Pl} (h : L[n]? = some p) : ∃ x : ElP L, (elsP L)[n]? = some x ∧ x.1 = p := by
  obtain ⟨hn, e⟩ := List.getElem?_eq_some_iff.1 h
  exact ⟨⟨L[n], List.getElem_mem hn⟩, by simp [elsP, hn], e⟩
abbrev Out (G : Nat → Prop) : Nat → Prop := fun b => ¬ G b
/-- What the iterator is told. -/
structure YlP (L : List Pl) (G : Nat → Prop) (l B0 : Nat) (J Jx : List (ElP L) → World → Prop) : Prop where
  abj : AbidesFrom B0 J
  abx : AbidesFrom B0 Jx
  low : ∀ b, G b → b < B0
  yield_ : ∀ (k : Nat) (pre : List (ElP L)) (x : ElP L) (W1 : World), J pre W1 → pre.length < (elsP L).length → YieldAt Fence.wide k Tryd.prog l (plEnc L x) W1 fun e W' =>
    (e = .returned (.bool true) ∧ J (pre ++ [x]) W' ∧ KeepS (Out G) W1 W') ∨ (e = .returned (.bool false) ∧ Jx (pre ++ [x]) W')
theorem abides_allocP {β : Type} {B : Nat} {J : β → World → Prop} (h : AbidesFrom B J) {s : β} {W : World} (hJ : J s W) (o : Obj) : J s (W.alloc o) :=
  h s W _ none hJ (World.grownBy_alloc W o none) (fun r e => by cases e)
theorem take_elsP {L : List Pl} {n : Nat} {x : ElP L} (h : (elsP L)[n]? = some x) : (elsP L).take n ++ [x] = (elsP L).take (n + 1) := by
  rw [List.take_add_one, h]; rfl
theorem drop_consP {α : Type} {l : List α} {n : Nat} {x : α} {r : List α} (h : l.drop n = x :: r) : l[n]? = some x ∧ l.drop (n + 1) = r := by
  have hn : n < l.length := by
    rcases Nat.lt_or_ge n l.length with e | e
    · exact e
    · rw [List.drop_of_length_le e] at h; cases h
  rw [List.drop_eq_getElem_cons hn] at h
  obtain ⟨h1, h2⟩ := List.cons.inj h
  exact ⟨by rw [List.getElem?_eq_getElem hn, h1], h2⟩
/-- How a walk ends. -/
def EndP (L : List Pl) (G : Nat → Prop) (J Jx : List (ElP L) → World → Prop) (post : List Pl) (W : World) (e : Ending) (W' : World) : Prop :=
  (e = .returned (.bool true) ∧ (∃ N', L.drop N' = post ∧ J ((elsP L).take N') W') ∧ KeepS (Out G) W W') ∨ (e = .returned (.bool false) ∧ ∃ n', Jx ((elsP L).take n') W')
def gP (f d : Nat) : List Vl → List Pl := match f with | 0 => fun _ => [] | f + 1 => visP f (d + 1) false
theorem visP_eq (f d : Nat) (tx : Bool) (l : List Vl) : visP f d tx l = lstP (gP f d) d tx l := by cases f <;> rfl

def WalkP (L : List Pl) (G : Nat → Prop) (l0 B0 : Nat) (J Jx : List (ElP L) → World → Prop) (by_ bw f : Nat) : Prop :=
  ∀ (d : Nat) (vs : List Vl) (a : Option Addr) (n c N m : Nat) (post : List Pl) (W : World), d + f = 17 → L.drop N = visP f d false vs ++ post →
    Vals (Out G) W a n c vs → W.cell? ⟨by_, 0, none⟩ = some (.func (.yield l0) #[] #[]) → W.cell? ⟨bw, 0, none⟩ = some (.func (.func 19) #[] #[.pointer (some ⟨by_, 0, none⟩), .pointer (some ⟨bw, 0, none⟩)]) → B0 ≤ W.heap.size → J ((elsP L).take N) W →
    CallsIn Fence.wide m Tryd.prog 19 #[.slice a n c, .int .i64 (d : Int), .pointer (some ⟨by_, 0, none⟩), .pointer (some ⟨bw, 0, none⟩)] W (EndP L G J Jx post W)
set_option maxRecDepth 100000 in
set_option maxHeartbeats 4000000 in
theorem walkP_step {L : List Pl} {G : Nat → Prop} {l0 B0 : Nat} {J Jx : List (ElP L) → World → Prop} (hY : YlP L G l0 B0 J Jx) (by_ bw : Nat) (hGy : ¬ G by_) (hGw : ¬ G bw) (f : Nat) (IH : ∀ f', f = f' + 1 → WalkP L G l0 B0 J Jx by_ bw f') : WalkP L G l0 B0 J Jx by_ bw f := by
    intro d vs a n c N m post w h17 hdr hv hcy hcw hB0 hJ
    have HY := Lib.hid hY
    have HIH := Lib.hid IH
    clear IH
    have HGY := Lib.hid hGy
    have HGW := Lib.hid hGw
    have HGB : Hid (∀ b, B0 ≤ b → ¬ G b) := fun b hb hg => by have := hY.low b hg; omega
    have HV := Lib.hid hv
    have hnb := hv.2.2.1
    have H17 := Lib.hid h17
    have hd17 : d ≤ 17 := by omega
    have HCY := Lib.hid hcy
    have HCW := Lib.hid hcw
    have HJ0 := Lib.hid hJ
    have HDR : Hid (L.drop N = lstP (gP f d) d false (vs.drop 0) ++ post) := by show _ = _; rw [List.drop_zero, ← visP_eq]; exact hdr
    clear hY hGy hGw hv h17 hcy hcw hJ hdr
    refine callsIn_of_wp Tryd.func19 rfl trivial ?_ rfl
    simp only [Tryd.ntmps19, List.size_toArray, List.length_cons, List.length_nil, Nat.reduceAdd, Nat.reduceSub, Array.replicate_succ, Array.replicate_zero, List.push_toArray, List.append_toArray, List.nil_append, List.cons_append]
    gi_wp2
    gi_loopw [12, 7] (fun p q wr => ∃ (j N : Nat) (tx : Bool), p = .int .i64 (j : Int) ∧ q = .bool tx ∧ j ≤ n ∧ Hid (L.drop N = lstP (gP f d) d tx (vs.drop j) ++ post) ∧ Hid (J ((elsP L).take N) wr) ∧ Hid (KeepS (Out G) w wr)) (fun p _ _ => n - (intOf p).toNat)
    case atStart => exact ⟨0, N, false, rfl, rfl, Nat.zero_le _, HDR.out, HJ0.out, KeepS.refl _ _⟩
    case round =>
      clear HDR HJ0
      obtain ⟨j, N, tx, rfl, rfl, hj, hdr, hJ, hK⟩ := hrel
      by_cases hjl : j < n
      · obtain ⟨v, bb, off, hu, -, ea, hSb, hbl, hat, hrv⟩ := (HV.out.keep hK.out).get hjl
        subst ea
        have hsp : vs.drop j = v :: vs.drop (j + 1) := by
          rw [List.drop_eq_getElem_cons (by rw [← HV.out.1]; exact hjl), (List.getElem?_eq_some_iff.1 hu).2]
        have hdr1 : L.drop N = (d, v, tx) :: (gP f d v.items ++ (lstP (gP f d) d (decide (v.kind = 1)) (vs.drop (j + 1)) ++ post)) := by
          rw [hdr.out, hsp, lstP, List.cons_append, List.append_assoc]
        obtain ⟨hn0, hdr2⟩ := drop_consP hdr1
        obtain ⟨x, hx, hx1⟩ := elsP_at hn0
        have hNl : N < (elsP L).length := (List.getElem?_eq_some_iff.1 hx).1
        have hw1 := hK.out.1
        have hb1 : Below wr.heap.size wr (wr.alloc (.cells v.cells 37)) := (Below.refl _ _).alloc (Nat.le_refl _) _
        have hJ1 := abides_allocP HY.out.abj hJ.out (.cells v.cells 37)
        obtain ⟨fn, tmps, assign, body, hy, hR⟩ := HY.out.yield_ (m - 1) _ x _ hJ1 (by rw [List.length_take]; omega)
        change (Instr.yield l0 #[.agg #[.int .i64 x.1.2.1.kind, .string x.1.2.1.text, .int .i64 x.1.2.1.num, x.1.2.1.sl, .int .i64 (x.1.1 : Int), .bool x.1.2.2]]).run _ _ = _ at hy
        rw [hx1] at hy
        rw [take_elsP hx] at hR
        have HRV := Lib.hid (rd_iff.1 hrv).2.2.2
        have cy := cell_later hb1 (hK.out.cell (a := ⟨by_, 0, none⟩) HGY.out HCY.out)
        have cw := cell_later hb1 (hK.out.cell (a := ⟨bw, 0, none⟩) HGW.out HCW.out)
        have hbx := World.alloc_heap_new wr (.cells v.cells 37)
        have HDR2 := Lib.hid hdr2
        obtain ⟨e0, e1, e2, e3⟩ := hat
        obtain ⟨k, nn, t, ax, cx, lx⟩ := v
        dsimp only [Vl.val, Vl.cells, Vl.kind, Vl.num, Vl.text, Vl.sl, Vl.addr, Vl.items, Vl.cap] at e0 e1 e2 e3 hy HRV HDR2 hbx hb1 hR cy cw
        change Below _ wr (wr.alloc (.cells #[.int .i64 k, .string t, .int .i64 nn, .slice ax lx.length cx] 37)) at hb1
        change ((wr.alloc (.cells #[.int .i64 k, .string t, .int .i64 nn, .slice ax lx.length cx] 37))).heap[wr.heap.size]? = some (.cells #[.int .i64 k, .string t, .int .i64 nn, .slice ax lx.length cx] 37 (0, 0)) at hbx
        change (Instr.yield l0 #[.agg #[.int .i64 k, .string t, .int .i64 nn, .slice ax lx.length cx, .int .i64 (d : Int), .bool tx]]).run Tryd.prog (wr.alloc (.cells #[.int .i64 k, .string t, .int .i64 nn, .slice ax lx.length cx] 37)) = _ at hy
        obtain ⟨x0, x1, x2, x3, -⟩ := box_cells4 hbx
        have HRR := Lib.hid hR
        have HB1 := Lib.hid hb1
        have HBX := Lib.hid hbx
        clear hJ hx hx1 hn0 hdr hdr1 hdr2 hJ1 hR hb1 hbx hu hsp hrv hSb hbl
        gi_wp2
        refine ⟨(fun h => by cases h), ?_⟩
        generalize (wr.alloc (.cells #[.int .i64 k, .string t, .int .i64 nn, .slice ax lx.length cx] 37)) = U1 at *
        refine HRR.out.mono ?_
        rintro e U2 (⟨rfl, hJ2, hk2⟩ | ⟨rfl, hJx2⟩)
        · have hgb := HGB.out wr.heap.size (by omega)
          have x0b := hk2.cell (a := ⟨wr.heap.size, 0, none⟩) hgb x0
          have x3b := hk2.cell (a := ⟨wr.heap.size, 3, none⟩) hgb x3
          have cy2 := hk2.cell (a := ⟨by_, 0, none⟩) HGY.out cy
          have cw2 := hk2.cell (a := ⟨bw, 0, none⟩) HGW.out cw
          have HRV2 := Lib.hid ((HRV.out.below HB1.out).keep hk2)
          have HJ2 := Lib.hid hJ2
          have HK2 : Hid (KeepS (Out G) w U2) := (hK.out.trans (KeepS.below HB1.out)).trans hk2
          have hu2 := HK2.out.1
          clear x0 x1 x2 x3 cy cw hy hJ2 hk2 HRR HRV hK HB1 HBX
          cases f with
          | zero =>
            have dd1 : decide ((d : Int) ≤ 16) = false := by rw [decide_eq_false_iff_not]; have := H17.out; omega
            gi_wp2
            (with_reducible refine And.intro (fun f h => by cases h) ?_)
            gi_wp2
            go_roundw
            case rel => exact ⟨j + 1, N + 1, _, by go_num, rfl, by omega, HDR2.out, HJ2.out, HK2.out⟩
            case measure => simp [intOf]; omega
          | succ f =>
            have dd1 : decide ((d : Int) ≤ 16) = true := by rw [decide_eq_true_eq]; have := H17.out; omega
            have swd : IntKind.i64.wrap ((d : Int) + 1) = (d : Int) + 1 := IntWalk.i64_in _ (by omega)
            have HF := fun m' => HIH.out f rfl (d + 1) lx ax lx.length cx (N + 1) m' _ U2 (by have := H17.out; omega) HDR2.out HRV2.out cy2 cw2 (by omega) HJ2.out
            rw [show (((d + 1 : Nat) : Int)) = (d : Int) + 1 by omega] at HF
            have HFF := Lib.hid HF
            clear HF HJ2
            gi_wp2_with (fail)
            refine ⟨trivial, (fun h => by cases h), ?_⟩
            refine (HFF.out _).mono ?_
            rintro e U3 (⟨rfl, ⟨N3, hN3, hJ3⟩, hk3⟩ | ⟨rfl, nx, hJx3⟩)
            · have x0c := hk3.cell (a := ⟨wr.heap.size, 0, none⟩) hgb x0b
              have HN3 := Lib.hid hN3
              have HJ3 := Lib.hid hJ3
              have HK3 := Lib.hid (HK2.out.trans hk3)
              clear hN3 hJ3 hk3 HFF
              gi_wp2
              go_roundw
              case rel => exact ⟨j + 1, N3, _, by go_num, rfl, by omega, HN3.out, HJ3.out, HK3.out⟩
              case measure => simp [intOf]; omega
            · have HJ3 := Lib.hid hJx3
              clear hJx3 HFF
              gi_wp2
              go_ret
              exact .inr ⟨rfl, nx, HJ3.out⟩
        · have HJX2 := Lib.hid hJx2
          clear hJx2 HRR hy
          gi_wp2
          all_goals first
            | (have hq : ∃ b, some undef = some (Value.bool b) := ⟨_, by assumption⟩
               obtain ⟨b, hq⟩ := hq
               cases hq
               done)
            | (with_reducible refine And.intro (fun f h => by cases h) ?_
               gi_wp2
               go_ret
               exact .inr ⟨rfl, _, HJX2.out⟩)
      · obtain rfl : j = n := by omega
        have HE : Hid (L.drop N = post) := by
          have := hdr.out
          have h0 : vs.drop j = [] := List.drop_of_length_le (by rw [← HV.out.1]; exact Nat.le_refl _)
          rw [h0] at this
          exact this
        clear hdr
        gi_wp2
        go_ret
        exact .inl ⟨rfl, ⟨N, HE.out, hJ.out⟩, hK.out⟩
theorem walkP_in {L : List Pl} {G : Nat → Prop} {l0 B0 : Nat} {J Jx : List (ElP L) → World → Prop} (hY : YlP L G l0 B0 J Jx) (by_ bw : Nat) (hGy : ¬ G by_) (hGw : ¬ G bw) : ∀ f, WalkP L G l0 B0 J Jx by_ bw f
  | 0 => walkP_step hY by_ bw hGy hGw 0 (fun f' e => by cases e)
  | f + 1 => walkP_step hY by_ bw hGy hGw (f + 1) (fun f' e => by cases e; exact walkP_in hY by_ bw hGy hGw f)
end Go.Proofs.YtbjanlmnmeegnaaDoor
