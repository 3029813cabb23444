/- Joined: CWri, CIter, CAll. -/
import Derived.Test.YtlbcmeebcfalpaaGreatDoorP18
import Derived.Deep.QuietTactic
import Derived.BigQuiet
import Derived.IntWalk
import Derived.Test.YtlbcmeebcfalpaaGreatDoorP01
import Derived.Test.YtlbcmeebcfalpaaGreatDoorP02
import Derived.RangeFuncNested
import Derived.RangeFuncBound
import Derived.RangeFuncCalls
import Derived.RangeFuncLeaves
import Derived.Shelf.Abstract
import Derived.OwnWalkIn
import Derived.TacticsInMore
import Derived.LoopNIn
import Derived.LoopIn
import Derived.Laws.EntriesVeiled
set_option linter.unusedVariables false
set_option linter.unusedSimpArgs false
set_option maxRecDepth 100000
set_option maxHeartbeats 16000000
namespace Go.Proofs.YtlbcmeebcfalpaaGreatDoor
open Go.RowKit Go.Shelf

/-- How write ends. -/
def WriPost (B b : Nat) (out ev : List UInt8) (w : World) (e : Ending) (w' : World) : Prop := ∃ (ok : Bool) (r : List UInt8), e = .returned (.bool ok) /\ Bld B b (Lib.byteCells r) w' /\ Below B w w' /\ KeepT b w w' /\
  (out.length + ev.length <= 1048576 -> ok = true /\ r = out ++ ev) /\ (1048576 < out.length + ev.length -> ok = false)
theorem strCells_eq {s : ByteArray} {l : List UInt8} (h : s.data.toList = l) : Lib.strCells s = Lib.byteCells l := by rw [Lib.strCells, h]; rfl
theorem size_eq {s : ByteArray} {l : List UInt8} (h : s.data.toList = l) : s.size = l.length := by rw [<- h]; simp
theorem cat3 (a b c : List UInt8) : (({ data := a.toArray } : ByteArray) ++ { data := b.toArray } ++ { data := c.toArray }).data.toList = a ++ b ++ c := by
  simp [ByteArray.data_append]
theorem byteCells_append (a b : List UInt8) : Lib.byteCells (a ++ b) = Lib.byteCells a ++ Lib.byteCells b := by simp [Lib.byteCells]
theorem Bld.below {B b : Nat} {bs : List Value} {w w' : World} (h : Bld B b bs w) (hb : Below w.heap.size w w') : Bld B b bs w' := by
  have key : ∀ p, Lib.BuilderAt 265 5 B b p bs w -> Lib.BuilderAt 265 5 B b p bs w' := by
    rintro p ⟨h1, v, h2, h3, h4⟩
    exact ⟨h1, v, by rw [hb.block b (Array.getElem?_eq_some_iff.1 h2).1]; exact h2, ownsRow_below h3 hb, h4⟩
  exact h.elim (fun x => .inl (key _ x)) (fun x => .inr (key _ x))
theorem Bld.lt {B b : Nat} {bs : List Value} {w : World} (h : Bld B b bs w) : B <= b /\ b < w.heap.size := by
  rcases h with h | h <;> exact ⟨h.1, h.lt⟩
theorem write_int (S : Nat -> Prop) (B b bw : Nat) (out : List UInt8) (nn : Int) (t : ByteArray) (aa : Option Addr) (cc : Nat) (l : List Vl) (w : World) (hrd : Rd S w (.mk 1 nn t aa cc l)) (ho : Bld B b (Lib.byteCells out) w) (hn : out.length <= 1100000) (hBw : B <= w.heap.size) (hE : EnvB B w) :
    Calls Tryz.prog 196 #[.agg #[.int .i64 1, .int .i64 nn, .string t, .slice aa l.length cc], .pointer (some ⟨b, 0, none⟩), .pointer (some ⟨bw, 0, none⟩)] w (WriPost B b out (leafV (.mk 1 nn t (l.map Vl.er))) w) := by
  have hI := (rd_iff.1 hrd).2.1
  change I64 nn at hI
  have hil := Lib.itoa_length_le nn hI.1 hI.2
  have IT : Hid (∀ W, EnvB B W -> _) := fun W hE' => itoa_any nn hI W hE'.env
  have hb1 : Below w.heap.size w (w.alloc (.cells #[.int .i64 1, .int .i64 nn, .string t, .slice aa l.length cc] 24)) := (Below.refl _ _).alloc (Nat.le_refl _) _
  have hE1 := hE.below (hb1.mono hBw)
  have hs1 : w.heap.size <= (w.alloc (.cells #[.int .i64 1, .int .i64 nn, .string t, .slice aa l.length cc] 24)).heap.size := hb1.size
  have ho1 := ho.below hb1
  have hst : ({ data := #[105] } ++ { data := (Lib.itoa nn).toArray } ++ { data := #[59] } : ByteArray).data.toList = [105] ++ Lib.itoa nn ++ [59] := cat3 [105] _ [59]
  have hlf : leafV (.mk 1 nn t (l.map Vl.er)) = [105] ++ Lib.itoa nn ++ [59] := by
    show (if (1 : Int) = 1 then (105 :: (Lib.itoa nn ++ [59])) else _) = _
    simp
  rw [hlf]
  have HC := hiq (strCells_eq hst)
  have HZ := hiq (size_eq hst)
  have hll : ([105] ++ Lib.itoa nn ++ [59]).length <= 23 := by simp; omega
  generalize [105] ++ Lib.itoa nn ++ [59] = LF at *
  clear hI hrd hst hlf hE ho
  go_enter Tryz.func196, Tryz.ntmps196
  go_wp2_with (go_at_call 198; refine (IT.out _ hE1).mono ?_; rintro e w2 ⟨rfl, b2⟩; have z2 := b2.size; have o2 := ho1.below b2; have hb2 := hb1.trans (b2.mono hb1.size))
  generalize ({ data := #[105] } ++ { data := (Lib.itoa nn).toArray } ++ { data := #[59] } : ByteArray) = TX at *
  refine (writeString_K B b _ TX w2 o2 (by rw [Lib.byteCells_length, HZ.out]; omega) (by omega)).mono ?_
  rintro e w3 ⟨rfl, o3, b3, k3⟩
  rw [HC.out, <- byteCells_append] at o3
  have hb3 := (hb2.mono hBw).trans b3
  have hk3 := (KeepT.below (b := b) hb2).trans k3
  have LN := Tryz.Builder_Len B b _ w3 o3
  rw [Lib.byteCells_length] at LN
  have HLN := hiq LN
  clear LN HC HZ IT
  generalize hX : out ++ LF = X at *
  have hXl : X.length = out.length + LF.length := by rw [<- hX, List.length_append]
  have HX := hiq hX
  have HXL := hiq hXl
  clear hX hXl
  by_cases hM : X.length <= 1048576
  · go_wp2_with (go_at_call 199; refine HLN.out.mono ?_; rintro e w4 ⟨rfl, rfl⟩)
    go_ret
    have dM : decide ((X.length : Int) <= 1048576) = true := by rw [decide_eq_true_eq]; omega
    exact ⟨true, X, by simp; omega, o3, hb3, hk3, fun _ => ⟨rfl, HX.out.symm⟩, fun h => by have := HXL.out; omega⟩
  · go_wp2_with (go_at_call 199; refine HLN.out.mono ?_; rintro e w4 ⟨rfl, rfl⟩)
    go_ret
    exact ⟨false, X, by simp; omega, o3, hb3, hk3, fun h => by have := HXL.out; omega, fun _ => rfl⟩
end Go.Proofs.YtlbcmeebcfalpaaGreatDoor

namespace Go.Proofs.YtlbcmeebcfalpaaGreatDoor
open Go.RowKit Go.Shelf

theorem Bld.drew {B b : Nat} {bs : List Value} {w : World} (h : Bld B b bs w) (k : Nat) : Bld B b bs (w.drewN k) := h.below (below_drewN (Below.refl _ _) k)
theorem write_text (B b bw : Nat) (out : List UInt8) (nn : Int) (t : ByteArray) (aa : Option Addr) (cc : Nat) (l : List Vl) (w : World) (htz : t.size <= 1048576) (ho : Bld B b (Lib.byteCells out) w) (hn : out.length <= 1100000) (hBw : B <= w.heap.size) (hE : EnvB B w) :
    Calls Tryz.prog 196 #[.agg #[.int .i64 2, .int .i64 nn, .string t, .slice aa l.length cc], .pointer (some ⟨b, 0, none⟩), .pointer (some ⟨bw, 0, none⟩)] w (WriPost B b out (leafV (.mk 2 nn t (l.map Vl.er))) w) := by
  have hI : I64 (t.size : Int) := ⟨by omega, by omega⟩
  have hil := Lib.itoa_length_le (t.size : Int) hI.1 hI.2
  have IT : Hid (∀ W, EnvB B W -> _) := fun W hE' => itoa_any (t.size : Int) hI W hE'.env
  have hb1 : Below w.heap.size w (w.alloc (.cells #[.int .i64 2, .int .i64 nn, .string t, .slice aa l.length cc] 24)) := (Below.refl _ _).alloc (Nat.le_refl _) _
  have hE1 := hE.below (hb1.mono hBw)
  have hs1 : w.heap.size <= (w.alloc (.cells #[.int .i64 2, .int .i64 nn, .string t, .slice aa l.length cc] 24)).heap.size := hb1.size
  have ho1 := ho.below hb1
  have x2 : (w.alloc (.cells #[.int .i64 2, .int .i64 nn, .string t, .slice aa l.length cc] 24)).heap[w.heap.size]? = some (.cells #[.int .i64 2, .int .i64 nn, .string t, .slice aa l.length cc] 24 (0, 0)) := (by simp only [World.alloc]; exact Array.getElem?_push_size)
  have hbne : w.heap.size ≠ b := by have := ho.lt; omega
  have HNE := hiq hbne
  have hst : ({ data := #[115] } ++ { data := (Lib.itoa (t.size : Int)).toArray } ++ { data := #[58] } : ByteArray).data.toList = [115] ++ Lib.itoa (t.size : Int) ++ [58] := cat3 [115] _ [58]
  have hlf : leafV (.mk 2 nn t (l.map Vl.er)) = ([115] ++ Lib.itoa (t.size : Int) ++ [58]) ++ t.data.toList := by
    simp [leafV, V.kind, V.text]
  rw [hlf]
  have HC := hiq (strCells_eq hst)
  have HZ := hiq (size_eq hst)
  have hll : ([115] ++ Lib.itoa (t.size : Int) ++ [58]).length <= 23 := by simp; omega
  generalize [115] ++ Lib.itoa (t.size : Int) ++ [58] = LF at *
  have htl : t.data.toList.length = t.size := by simp
  have HTL := hiq htl
  have HX2 := hiq x2
  clear hI hst hlf hE ho hbne htl x2
  go_enter Tryz.func196, Tryz.ntmps196
  go_wp2_with (go_at_call 198; refine (IT.out _ hE1).mono ?_; rintro e w2 ⟨rfl, b2⟩; have z2 := b2.size; have o2 := ho1.below b2; have hb2 := hb1.trans (b2.mono hb1.size))
  generalize ({ data := #[115] } ++ { data := (Lib.itoa (t.size : Int)).toArray } ++ { data := #[58] } : ByteArray) = TX at *
  refine (writeString_K B b _ TX w2 o2 (by rw [Lib.byteCells_length, HZ.out]; omega) (by omega)).mono ?_
  rintro e w3 ⟨rfl, o3, b3, k3⟩
  rw [HC.out, <- byteCells_append] at o3
  have hb3 := (hb2.mono hBw).trans b3
  have hk3 := (KeepT.below (b := b) hb2).trans k3
  have X3 := hiq (((KeepT.below (b := b) b2).trans k3).2 _ _ _ _ HNE.out (by decide) HX2.out)
  have x32 : w3.cell? ⟨w.heap.size, 2, none⟩ = some (.string t) := by rw [Lib.cell_of_heap X3.out]; rfl
  have LN : ∀ k, Calls Tryz.prog 199 #[.pointer (some ⟨b, 0, none⟩)] (w3.drewN k) fun e w' => e = .returned (.int .i64 (out ++ LF).length) /\ w' = w3.drewN k := fun k => by
    have := Tryz.Builder_Len B b _ _ (o3.drew k)
    rwa [Lib.byteCells_length] at this
  have HLN := hiq LN
  have hzz := b3.size
  clear LN HC HZ IT
  generalize hX : out ++ LF = X at *
  have hXl : X.length = out.length + LF.length := by rw [<- hX, List.length_append]
  have HX := hiq hX
  have HXL := hiq hXl
  have hXb : X.length <= 1200000 := by omega
  clear hX hXl
  have hw1 : IntKind.i64.wrap ((X.length : Int) + (t.size : Int)) = (X.length : Int) + (t.size : Int) := IntWalk.i64_in _ (by omega)
  by_cases hM : X.length + t.size <= 1048576
  · have dM : decide ((X.length : Int) + (t.size : Int) <= 1048576) = true := by rw [decide_eq_true_eq]; omega
    go_wp2_with fail
    go_quiet ((go_at_call 199; exact Calls.quiet_of_same (HLN.out _)))
    have o4 := o3.drew nq
    have b4 : Below w3.heap.size w3 (w3.drewN nq) := below_drewN (Below.refl _ _) nq
    have hb4 := hb3.trans (b4.mono (by have := hb3.size; omega))
    have hk4 := hk3.trans (KeepT.below (b := b) b4)
    have x42 : (w3.drewN nq).cell? ⟨w.heap.size, 2, none⟩ = some (.string t) := by rw [World.cell?_drewN]; exact x32
    have z4 := b4.size
    generalize w3.drewN nq = w4 at *
    clear HLN x32 dM b4
    go_wp2_with fail
    refine (writeString_K B b _ t w4 o4 (by rw [Lib.byteCells_length]; omega) (by omega)).mono ?_
    rintro e w5 ⟨rfl, o5, b5, k5⟩
    rw [strCells_eq rfl, <- byteCells_append] at o5
    have hb5 := hb4.trans b5
    have hk5 := hk4.trans k5
    have LN5 := Tryz.Builder_Len B b _ w5 o5
    rw [Lib.byteCells_length] at LN5
    have HLN5 := hiq LN5
    clear LN5
    generalize hY : X ++ t.data.toList = Y at *
    have hYl : Y.length = X.length + t.size := by rw [<- hY, List.length_append, HTL.out]
    have HY := hiq hY
    have HYL := hiq hYl
    clear hY hYl
    go_wp2_with (go_at_call 199; refine HLN5.out.mono ?_; rintro e w6 ⟨rfl, rfl⟩)
    go_ret
    have h1 := HYL.out
    have h2 := HXL.out
    have h3 := HTL.out
    refine ⟨true, Y, by simp; omega, o5, hb5, hk5, fun _ => ⟨rfl, by rw [<- HY.out, <- HX.out, List.append_assoc]⟩, fun h => ?_⟩
    rw [List.length_append] at h; omega
  · have dM : decide ((X.length : Int) + (t.size : Int) <= 1048576) = false := by rw [decide_eq_false_iff_not]; omega
    go_wp2_with fail
    go_quiet ((go_at_call 199; exact Calls.quiet_of_same (HLN.out _)))
    have o4 := o3.drew nq
    have b4 : Below w3.heap.size w3 (w3.drewN nq) := below_drewN (Below.refl _ _) nq
    have hb4 := hb3.trans (b4.mono (by have := hb3.size; omega))
    have hk4 := hk3.trans (KeepT.below (b := b) b4)
    clear HLN x32 dM b4
    go_wp2
    go_ret
    have h2 := HXL.out
    have h3 := HTL.out
    refine ⟨false, X, rfl, o4, hb4, hk4, fun h => ?_, fun _ => rfl⟩
    rw [List.length_append] at h; omega
end Go.Proofs.YtlbcmeebcfalpaaGreatDoor

namespace Go.Proofs.YtlbcmeebcfalpaaGreatDoor
open Go.RowKit Go.Shelf

theorem WriPost.pre {B b : Nat} {out ev : List UInt8} {w w1 : World} {e : Ending} {w' : World} (hb : Below B w w1) (hk : KeepT b w w1) (h : WriPost B b out ev w1 e w') : WriPost B b out ev w e w' := by
  obtain ⟨ok, r, h1, h2, h3, h4, h5, h6⟩ := h
  exact ⟨ok, r, h1, h2, hb.trans h3, hk.trans h4, h5, h6⟩
/-- The closure write, as it lies in its own variable. -/
abbrev wriFn (b bw : Nat) : Value := .func (.func 196) #[] #[.pointer (some ⟨b, 0, none⟩), .pointer (some ⟨bw, 0, none⟩)]
theorem write_any (b bw B : Nat) (hne : bw ≠ b) : ∀ (f : Nat) (S : Nat -> Prop) (v : Vl) (w : World) (out : List UInt8), f <= 64 -> GoodD f v.er -> Rd S w v -> (∀ x, S x -> x < B) -> Bld B b (Lib.byteCells out) w -> out.length + f <= 1048641 -> B <= w.heap.size -> EnvB B w ->
    w.heap[bw]? = some (.cells #[wriFn b bw] 25 (0, 0)) ->
    Calls Tryz.prog 196 #[v.val, .pointer (some ⟨b, 0, none⟩), .pointer (some ⟨bw, 0, none⟩)] w (WriPost B b out (encV v.er) w)
  | f, S, .mk k nn t aa cc l, w, out, hf, hg, hrd, hS, ho, hn, hBw, hE, hw => by
    have hs := singV_ok (allV_items hg.2).1
    have hker : (Vl.mk k nn t aa cc l).er = .mk k nn t (l.map Vl.er) := by rw [Vl.er, Vl.erL_map]
    rw [hker] at hs
    by_cases h1 : k = 1
    · subst h1
      have : encV (Vl.mk 1 nn t aa cc l).er = leafV (.mk 1 nn t (l.map Vl.er)) := by rw [hker, encV, if_pos (.inl rfl)]
      rw [this]
      exact write_int S B b bw out nn t aa cc l w hrd ho (by omega) hBw hE
    · by_cases h2 : k = 2
      · subst h2
        have : encV (Vl.mk 2 nn t aa cc l).er = leafV (.mk 2 nn t (l.map Vl.er)) := by rw [hker, encV, if_pos (.inr rfl)]
        rw [this]
        exact write_text B b bw out nn t aa cc l w hs.2.1 ho (by omega) hBw hE
      · have h3 : k = 3 := by have := hs.1; change k = 1 \/ k = 2 \/ k = 3 at this; omega
        subst h3
        cases f with
        | zero => exact absurd rfl hg.1
        | succ f =>
          have IH := hiq (fun (u : Vl) (W : World) (o : List UInt8) => write_any b bw B hne f S u W o (by omega))
          have hgi : Hid (∀ u ∈ l.map Vl.er, GoodD f u) := fun u hu => by
            rw [hker] at hg
            exact hg.items rfl u hu
          have hr : encV (Vl.mk 3 nn t aa cc l).er = 108 :: (encL (l.map Vl.er) ++ [101]) := by rw [hker, encV, if_neg (by omega)]
          have hb1 : Below w.heap.size w (w.alloc (.cells #[.int .i64 3, .int .i64 nn, .string t, .slice aa l.length cc] 24)) := (Below.refl _ _).alloc (Nat.le_refl _) _
          have hs1 : (w.alloc (.cells #[.int .i64 3, .int .i64 nn, .string t, .slice aa l.length cc] 24)).heap.size = w.heap.size + 1 := by simp
          have x3 : (w.alloc (.cells #[.int .i64 3, .int .i64 nn, .string t, .slice aa l.length cc] 24)).heap[w.heap.size]? = some (.cells #[.int .i64 3, .int .i64 nn, .string t, .slice aa l.length cc] 24 (0, 0)) := (by simp only [World.alloc]; exact Array.getElem?_push_size)
          have hbne : w.heap.size ≠ b := by have := ho.lt; omega
          have ho1 := ho.below hb1
          have hE1 := hE.below (hb1.mono hBw)
          have hw1 : (w.alloc (.cells #[.int .i64 3, .int .i64 nn, .string t, .slice aa l.length cc] 24)).heap[bw]? = _ := (hb1.block bw (Array.getElem?_eq_some_iff.1 hw).1).trans hw
          have hv1 := (hrd.below hb1).vals
          change Vals S _ aa l.length cc l at hv1
          have hL := hv1.2.2.1
          rw [hr]
          have HS := hiq hS
          have HNE := hiq hbne
          have HWN := hiq hne
          have HX3 := hiq x3
          have HW1 := hiq hw1
          change Calls _ _ #[.agg #[.int .i64 3, .int .i64 nn, .string t, .slice aa l.length cc], _, _] _ _
          clear ho hE hg hrd hr hker hS h1 h2 hs x3 hw hw1 hbne hne
          go_enter Tryz.func196, Tryz.ntmps196
          go_wp2_with fail
          generalize w.alloc (.cells #[.int .i64 3, .int .i64 nn, .string t, .slice aa l.length cc] 24) = W1 at *
          refine (writeByte_K B b _ 108 W1 ho1 (by rw [Lib.byteCells_length]; omega) (by omega)).mono ?_
          rintro e W2 ⟨rfl, o2, b2, k2⟩
          have X32 := k2.2 _ _ _ _ HNE.out (by decide) HX3.out
          have c23 : W2.cell? ⟨w.heap.size, 3, none⟩ = some (.slice aa l.length cc) := by rw [Lib.cell_of_heap X32]; rfl
          have HW2 := hiq (k2.2 _ _ _ _ HWN.out (by decide) HW1.out)
          have o2' : Bld B b (Lib.byteCells (out ++ 108 :: encL ((l.map Vl.er).take 0))) W2 := by
            rw [byteCells_append]; exact o2
          have hb2 := (hb1.mono hBw).trans b2
          have hk2 := (KeepT.below (b := b) hb1).trans k2
          have hv2 := hv1.keep (.belowB b2 k2.1 HS.out)
          have hE2 := hE1.below b2
          have z2 := k2.1
          clear o2 X32 hv1 hE1 HX3 HW1 ho1 k2 b2 hb1
          go_wp2_with fail
          go_loopw [13] (fun i wr => ∃ j : Nat, i = .int .i64 j /\ j <= l.length /\ Bld B b (Lib.byteCells (out ++ 108 :: encL ((l.map Vl.er).take j))) wr /\ Below B W2 wr /\ KeepT b W2 wr /\ (out ++ 108 :: encL ((l.map Vl.er).take j)).length + f <= 1048641) (fun i _ => l.length - (intOf i).toNat)
          case atStart => exact ⟨0, rfl, Nat.zero_le _, o2', .refl _ _, .refl _ _, by simp [encL]; omega⟩
          case round =>
            clear o2'
            obtain ⟨j, rfl, hj, oj, bj, kj, nj⟩ := hrel
            have zj := kj.1
            by_cases hlj : j < l.length
            · obtain ⟨u, bb, off, hu, -, rfl, -, -, ⟨c1, c2, c3, c4⟩, hru⟩ := (hv2.keep (.belowB bj zj HS.out)).get hlj
              have hbu : Below wr.heap.size wr (wr.alloc (.cells u.cells 24)) := (Below.refl _ _).alloc (Nat.le_refl _) _
              have hgu := hgi.out u.er (List.mem_map_of_mem (List.mem_of_getElem? hu))
              have hwj := kj.2 _ _ _ _ HWN.out (by decide) HW2.out
              have hwj2 : (wr.alloc (.cells u.cells 24)).heap[bw]? = _ := (hbu.block bw (Array.getElem?_eq_some_iff.1 hwj).1).trans hwj
              have F := IH.out u _ _ hgu (hru.below hbu) HS.out (oj.below hbu) nj (by have := hbu.size; omega) ((hE2.below bj).below (hbu.mono (by omega))) hwj2
              have hst : Hid (encL ((l.map Vl.er).take (j + 1)) = encL ((l.map Vl.er).take j) ++ encV u.er) := by
                show _ = _
                rw [take_er hu, encL_append]; simp [encL]
              have hsp : Hid (encL (l.map Vl.er) = encL ((l.map Vl.er).take (j + 1)) ++ encL ((l.map Vl.er).drop (j + 1))) := by
                show _ = _
                rw [<- encL_append, List.take_append_drop]
              have cw : wr.cell? ⟨bw, 0, none⟩ = some (wriFn b bw) := by rw [Lib.cell_of_heap hwj]; rfl
              have cw2 : (wr.alloc (.cells u.cells 24)).cell? ⟨bw, 0, none⟩ = some (wriFn b bw) := by rw [Lib.cell_of_heap hwj2]; rfl
              have hbu' := hbu
              generalize hEU : encV u.er = EU at *
              obtain ⟨uk, un, ut, ua, uc, ul⟩ := u
              dsimp only [Vl.val, Vl.cells, Vl.kind, Vl.num, Vl.text, Vl.sl, Vl.addr, Vl.items, Vl.cap] at c1 c2 c3 c4 F cw2 hbu'
              have HF := hiq F
              clear F hru hu oj hgu hwj hwj2 hEU
              go_wp2_with fail
              refine HF.out.mono ?_
              rintro e W5 ⟨ok, r, rfl, o5, b5, k5, h5, h6⟩
              have kj5 := (kj.trans (KeepT.below (b := b) hbu)).trans k5
              have bj5 := (bj.trans (hbu.mono (by omega))).trans b5
              by_cases hM : (out ++ 108 :: encL ((l.map Vl.er).take j)).length + EU.length <= 1048576
              · obtain ⟨rfl, hr5⟩ := h5 hM
                have hst5 : out ++ 108 :: encL ((l.map Vl.er).take (j + 1)) = r := by rw [hr5, hst.out]; simp
                have hln5 : r.length <= 1048576 := by rw [hr5, List.length_append]; omega
                have HST := hiq hst5
                clear h5 h6 HF hst5 hr5 hM
                go_wp2
                go_roundw
                case rel => exact ⟨j + 1, by go_num, by omega, by rw [HST.out]; exact o5, bj5, kj5, by rw [HST.out]; omega⟩
                case measure => simp [intOf]; omega
              · obtain rfl := h6 (by omega)
                have hbig : Hid (1048576 < out.length + (108 :: (encL (l.map Vl.er) ++ [101])).length) := by
                  show _ < _
                  rw [hsp.out, hst.out]
                  rw [List.length_append] at hM
                  simp only [List.length_append, List.length_cons] at hM ⊢
                  omega
                clear h5 h6 HF hM
                go_wp2
                go_ret
                exact ⟨false, r, rfl, o5, hb2.trans bj5, hk2.trans kj5, fun h => by have := hbig.out; omega, fun _ => rfl⟩
            · obtain rfl : j = l.length := by omega
              rw [List.take_of_length_le (by simp)] at oj nj
              generalize encL (l.map Vl.er) = EL at *
              have F9 := writeByte_K B b _ 101 wr oj (by rw [Lib.byteCells_length]; omega) (by omega)
              have HF9 := hiq F9
              clear F9 oj
              go_wp2_with fail
              refine HF9.out.mono ?_
              rintro e W9 ⟨rfl, o9, b9, k9⟩
              have o9' : Bld B b (Lib.byteCells (out ++ 108 :: (EL ++ [101]))) W9 := by
                have : Lib.byteCells (out ++ 108 :: (EL ++ [101])) = Lib.byteCells (out ++ 108 :: EL) ++ [.int .u8 101] := by
                  rw [show out ++ 108 :: (EL ++ [101]) = (out ++ 108 :: EL) ++ [101] by simp, byteCells_append]; rfl
                rw [this]; exact o9
              have LN := Tryz.Builder_Len B b _ W9 o9'
              rw [Lib.byteCells_length] at LN
              have HLN := hiq LN
              clear LN o9 HF9
              have hb9 := (hb2.trans bj).trans b9
              have hk9 := (hk2.trans kj).trans k9
              have HXL : Hid ((out ++ 108 :: (EL ++ [101])).length = out.length + (108 :: (EL ++ [101])).length) := by show _ = _; rw [List.length_append]
              generalize hX : out ++ 108 :: (EL ++ [101]) = X at *
              have HX := hiq hX.symm
              clear hX
              go_wp2_with (go_at_call 199; refine HLN.out.mono ?_; rintro e w4 ⟨rfl, rfl⟩)
              go_ret
              by_cases hM : X.length <= 1048576
              · exact ⟨true, X, by simp; omega, o9', hb9, hk9, fun _ => ⟨rfl, HX.out⟩, fun h => by have := HXL.out; omega⟩
              · exact ⟨false, X, by simp; omega, o9', hb9, hk9, fun h => by have := HXL.out; omega, fun _ => rfl⟩
termination_by f => f
end Go.Proofs.YtlbcmeebcfalpaaGreatDoor
namespace Go.Proofs.YtlbcmeebcfalpaaGreatDoor
open Go.RowKit Go.Shelf
attribute [local go_sem] Oper.semAt_some

theorem roundIn_level {n n' : Nat} {P : Program} {l : Nat} {f : FuncId} {tmps : Array Value} {assign body : Code} {w : World} {R : Ending -> World -> Prop} (h : RoundIn Fence.wide n P l f tmps assign body w R) : RoundIn Fence.wide n' P l f tmps assign body w R :=
  ⟨h.1, fun c cs _ => h.2 c cs (room_wide _)⟩
theorem yieldAt_level {n n' : Nat} {P : Program} {l : Nat} {args : Array Value} {W : World} {R : Ending -> World -> Prop} (h : YieldAt Fence.wide n P l args W R) : YieldAt Fence.wide n' P l args W R := by
  obtain ⟨fn, tmps, assign, body, h1, h2⟩ := h
  exact ⟨fn, tmps, assign, body, h1, roundIn_level h2⟩

/-- A value in v, with its depth. -/
abbrev El (v : Vl) := { p : Nat × Vl // p ∈ vis v }
abbrev elEnc (v : Vl) (x : El v) : Array Value := #[.int .i64 (x.1.1 : Int), x.1.2.val]
def els (v : Vl) : List (El v) := (vis v).attach
theorem els_len (v : Vl) : (els v).length = (vis v).length := by simp [els]
theorem els_at {v : Vl} {n : Nat} {p : Nat × Vl} (h : (vis v)[n]? = some p) : ∃ x : El v, (els v)[n]? = some x /\ x.1 = p := by
  obtain ⟨hn, e⟩ := List.getElem?_eq_some_iff.1 h
  exact ⟨⟨(vis v)[n], List.getElem_mem hn⟩, by simp [els, hn], e⟩

/-- The blocks that the body does not turn. -/
abbrev Out (G : Nat -> Prop) : Nat -> Prop := fun b => ¬ G b
/-- What the iterator is told: by its yields, from state n to state n + 1. -/
structure Yl (v : Vl) (G : Nat -> Prop) (l B0 : Nat) (J Jx : List (El v) -> World -> Prop) : Prop where
  abj : AbidesFrom B0 J
  abx : AbidesFrom B0 Jx
  low : ∀ b, G b -> b < B0
  yield_ : ∀ (k : Nat) (pre : List (El v)) (x : El v) (W1 : World), J pre W1 -> pre.length < (els v).length -> YieldAt Fence.wide k Tryz.prog l (elEnc v x) W1 fun e W' =>
    (e = .returned (.bool true) /\ J (pre ++ [x]) W' /\ KeepS (Out G) W1 W') \/ (e = .returned (.bool false) /\ Jx (pre ++ [x]) W')
theorem abides_alloc {β : Type} {B : Nat} {J : β -> World -> Prop} (h : AbidesFrom B J) {s : β} {W : World} (hJ : J s W) (o : Obj) : J s (W.alloc o) :=
  h s W _ none hJ (World.grownBy_alloc W o none) (fun r e => by cases e)
/-- How the walk ends. -/
def WalkEnd (v : Vl) (G : Nat -> Prop) (J Jx : List (El v) -> World -> Prop) (n : Nat) (W : World) (e : Ending) (W' : World) : Prop :=
  (e = .returned (.bool true) /\ J ((els v).take n) W' /\ KeepS (Out G) W W') \/ (e = .returned (.bool false) /\ ∃ n', Jx ((els v).take n') W')
theorem take_els {v : Vl} {n : Nat} {x : El v} (h : (els v)[n]? = some x) : (els v).take n ++ [x] = (els v).take (n + 1) := by
  rw [List.take_add_one, h]; rfl
theorem drop_cons {α : Type} {l : List α} {n : Nat} {x : α} {r : List α} (h : l.drop n = x :: r) : l[n]? = some x /\ l.drop (n + 1) = r := by
  have hn : n < l.length := by
    rcases Nat.lt_or_ge n l.length with e | e
    · exact e
    · rw [List.drop_of_length_le e] at h; cases h
  rw [List.drop_eq_getElem_cons hn] at h
  obtain ⟨h1, h2⟩ := List.cons.inj h
  exact ⟨by rw [List.getElem?_eq_getElem hn, h1], h2⟩
theorem drop_app {α : Type} {l : List α} {n : Nat} {a b : List α} (h : l.drop n = a ++ b) : l.drop (n + a.length) = b := by
  rw [<- List.drop_drop, h]; simp

theorem walk_in {v : Vl} {G : Nat -> Prop} {l0 B0 : Nat} {J Jx : List (El v) -> World -> Prop} (hY : Yl v G l0 B0 J Jx) (by_ bw : Nat) : ∀ (f d : Nat) (u : Vl) (n m : Nat) (post : List (Nat × Vl)) (W : World), d + f = 65 -> (vis v).drop n = visits f d u ++ post ->
    Rd (Out G) W u -> W.cell? ⟨by_, 0, none⟩ = some (.func (.yield l0) #[] #[]) -> W.cell? ⟨bw, 0, none⟩ = some (.func (.func 221) #[] #[.pointer (some ⟨by_, 0, none⟩), .pointer (some ⟨bw, 0, none⟩)]) -> ¬ G by_ -> ¬ G bw -> B0 <= W.heap.size -> J ((els v).take n) W ->
    CallsIn Fence.wide m Tryz.prog 221 #[u.val, .int .i64 d, .pointer (some ⟨by_, 0, none⟩), .pointer (some ⟨bw, 0, none⟩)] W (WalkEnd v G J Jx (n + (visits f d u).length) W)
  | f, d, .mk k nn t a c l, n, m, post, w, h65, hdr, hrd, hcy, hcw, hGy, hGw, hB0, hJ => by
    have HY := hiq hY
    have HGY := hiq hGy
    have HGW := hiq hGw
    have HGB : Hid (∀ b, B0 <= b -> ¬ G b) := fun b hb hg => by have := hY.low b hg; omega
    have hB := boxed (Out G) w _ hrd
    have hBE := hB.below
    have hlt := hB.lt
    have hL := hB.rd.vals.2.2.1
    change l.length * 56 <= _ at hL
    have hvis : ∃ r, visits f d (Vl.mk k nn t a c l) = (d, Vl.mk k nn t a c l) :: r := by cases f <;> exact ⟨_, rfl⟩
    obtain ⟨vr, hvr⟩ := hvis
    obtain ⟨hn0, hdr1⟩ := drop_cons (hdr.trans (by rw [hvr]; rfl))
    obtain ⟨x, hx, hx1⟩ := els_at hn0
    have hnl : n < (els v).length := (List.getElem?_eq_some_iff.1 hx).1
    have hJ1 := abides_alloc hY.abj hJ (.cells (Vl.mk k nn t a c l).cells 24)
    obtain ⟨fn, tmps, assign, body, hy, hR⟩ := hY.yield_ (m - 1) _ x _ hJ1 (by rw [List.length_take]; omega)
    change (Instr.yield l0 #[.int .i64 (x.1.1 : Int), x.1.2.val]).run _ _ = _ at hy
    rw [hx1] at hy
    rw [take_els hx] at hR
    change Boxed (Out G) w (w.alloc (.cells #[.int .i64 k, .int .i64 nn, .string t, .slice a l.length c] 24)) _ _ at hB
    change Below _ w (w.alloc (.cells #[.int .i64 k, .int .i64 nn, .string t, .slice a l.length c] 24)) at hBE
    change w.heap.size <= (w.alloc (.cells #[.int .i64 k, .int .i64 nn, .string t, .slice a l.length c] 24)).heap.size at hlt
    change (Instr.yield l0 #[.int .i64 (d : Int), .agg #[.int .i64 k, .int .i64 nn, .string t, .slice a l.length c]]).run Tryz.prog (w.alloc (.cells #[.int .i64 k, .int .i64 nn, .string t, .slice a l.length c] 24)) = .ok (.round l0 fn tmps assign body) (w.alloc (.cells #[.int .i64 k, .int .i64 nn, .string t, .slice a l.length c] 24)) at hy
    dsimp only [Vl.val, Vl.cells, Vl.kind, Vl.num, Vl.text, Vl.sl, Vl.addr, Vl.items, Vl.cap] at hR
    have HRR := hiq hR
    have cy := clq hBE hcy
    have cw := clq hBE hcw
    obtain ⟨E, hE⟩ : ∃ E, E = n + (visits f d (Vl.mk k nn t a c l)).length := ⟨_, rfl⟩
    rw [<- hE]
    have HE : Hid (E = n + 1 + vr.length) := by show _ = _; rw [hE, hvr, List.length_cons]; omega
    have HVR := hiq hvr
    have HDR := hiq hdr1
    have hd64 : d <= 65 := by omega
    have H65 := hiq h65
    clear hY hR hGy hGw hrd hJ hJ1 hx hx1 hn0 hdr hcy hcw hdr1 hE hvr h65
    change CallsIn _ _ _ _ #[.agg #[.int .i64 k, .int .i64 nn, .string t, .slice a l.length c], _, _, _] _ _
    refine callsIn_of_wp Tryz.func221 rfl trivial ?_ rfl
    simp only [Tryz.ntmps221, List.size_toArray, List.length_cons, List.length_nil, Nat.reduceAdd, Nat.reduceSub, Array.replicate_succ, Array.replicate_zero, List.push_toArray, List.append_toArray, List.nil_append, List.cons_append]
    gi_wp2
    refine ⟨(fun h => by cases h), ?_⟩
    have hsW : w.heap.size < (w.alloc (.cells #[.int .i64 k, .int .i64 nn, .string t, .slice a l.length c] 24)).heap.size := by simp
    generalize w.alloc (.cells #[.int .i64 k, .int .i64 nn, .string t, .slice a l.length c] 24) = W1 at *
    refine HRR.out.mono ?_
    rintro e W2 (⟨rfl, hJ2, hk2⟩ | ⟨rfl, hJx2⟩)
    · have hbx := hB.at_
      have c1 := hk2.cell (a := ⟨w.heap.size, 0, none⟩) (HGB.out _ hB0) hbx.1
      have c4 := hk2.cell (a := ⟨w.heap.size, 0 + 3, none⟩) (HGB.out _ hB0) hbx.2.2.2
      have cy2 := hk2.cell (a := ⟨by_, 0, none⟩) HGY.out cy
      have cw2 := hk2.cell (a := ⟨bw, 0, none⟩) HGW.out cw
      change W2.cell? ⟨w.heap.size, 0, none⟩ = some (.int .i64 k) at c1
      change W2.cell? ⟨w.heap.size, 3, none⟩ = some (.slice a l.length c) at c4
      have hrd2 := hiq (hB.rd.keep hk2)
      have HJ2 := hiq hJ2
      have HK2 : Hid (KeepS (Out G) w W2) := (KeepS.below hBE).trans hk2
      have hsz2 := hk2.1
      clear hJ2 hk2 HRR hy hbx cy cw
      by_cases hk : k = 3
      · subst hk
        cases f with
        | zero =>
          have hv0 : Hid (E = n + 1) := by
            show _ = _
            have e0 : vr = [] := by have := HVR.out; simp [visits] at this; exact this
            rw [HE.out, e0]; rfl
          obtain rfl : d = 65 := by have := H65.out; omega
          gi_wp2
          go_ret
          exact .inl ⟨rfl, by rw [hv0.out]; exact HJ2.out, HK2.out⟩
        | succ f =>
          have hv0 : Hid (vr = l.flatMap (visits f (d + 1))) := by
            have := HVR.out
            rw [visits, if_pos (by rfl)] at this
            exact (List.cons.inj this).2.symm
          have hd : d <= 64 := by have := H65.out; omega
          have hd1 : (d : Int) + 1 <= 65 := by omega
          have dd1 : decide ((d : Int) <= 64) = true := by rw [decide_eq_true_eq]; omega
          have swd : IntKind.i64.wrap ((d : Int) + 1) = (d : Int) + 1 := IntWalk.i64_in _ (by omega)
          gi_wp2
          gi_loopw [24] (fun p wr => ∃ j : Nat, p = .int .i64 (j : Int) /\ j <= l.length /\ Hid (J ((els v).take (n + 1 + ((l.take j).flatMap (visits f (d + 1))).length)) wr) /\ Hid (KeepS (Out G) W2 wr)) (fun p _ => l.length - (intOf p).toNat)
          case atStart => exact ⟨0, rfl, Nat.zero_le _, HJ2.out, KeepS.refl _ _⟩
          case round =>
            clear HJ2
            obtain ⟨j, rfl, hj, hJr, hKr⟩ := hrel
            by_cases hlj : j < l.length
            · obtain ⟨u, bb, off, hu, -, ea, hSb, hbl, hat, hru⟩ := (hrd2.out.keep hKr.out).vals.get hlj
              change a = _ at ea
              change l[j]? = _ at hu
              subst ea
              have cy3 := hKr.out.cell (a := ⟨by_, 0, none⟩) HGY.out cy2
              have cw3 := hKr.out.cell (a := ⟨bw, 0, none⟩) HGW.out cw2
              have hsp : l = l.take j ++ (u :: l.drop (j + 1)) := by
                rw [<- (List.getElem?_eq_some_iff.1 hu).2, <- List.drop_eq_getElem_cons hlj, List.take_append_drop]
              have hfl : l.flatMap (visits f (d + 1)) = (l.take j).flatMap (visits f (d + 1)) ++ (visits f (d + 1) u ++ (l.drop (j + 1)).flatMap (visits f (d + 1))) := by
                conv => lhs; rw [hsp]
                rw [List.flatMap_append, List.flatMap_cons]
              have hdrj : (vis v).drop (n + 1 + ((l.take j).flatMap (visits f (d + 1))).length) = visits f (d + 1) u ++ ((l.drop (j + 1)).flatMap (visits f (d + 1)) ++ post) := by
                refine drop_app (a := (l.take j).flatMap (visits f (d + 1))) ?_
                rw [HDR.out, hv0.out, hfl]; simp [List.append_assoc]
              have hlen : Hid (n + 1 + ((l.take (j + 1)).flatMap (visits f (d + 1))).length = n + 1 + ((l.take j).flatMap (visits f (d + 1))).length + (visits f (d + 1) u).length) := by
                show _ = _
                rw [List.take_add_one, hu, List.flatMap_append, List.length_append]; simp; omega
              have hbu : Below wr.heap.size wr (wr.alloc (.cells u.cells 24)) := (Below.refl _ _).alloc (Nat.le_refl _) _
              have HF := fun m' => walk_in HY.out by_ bw f (d + 1) u _ m' _ (wr.alloc (.cells u.cells 24)) (by have := H65.out; omega) hdrj (hru.below hbu) (clq hbu cy3) (clq hbu cw3) HGY.out HGW.out (by have := hKr.out.1; have := hbu.size; omega) (abides_alloc HY.out.abj hJr.out _)
              have c14 := hKr.out.cell (a := ⟨w.heap.size, 3, none⟩) (HGB.out _ hB0) c4
              obtain ⟨d1, d2, d3, d4⟩ := hat
              obtain ⟨uk, un, ut, ua, uc, ul⟩ := u
              dsimp only [Vl.val, Vl.cells, Vl.kind, Vl.num, Vl.text, Vl.sl, Vl.addr, Vl.items, Vl.cap] at d1 d2 d3 d4 HF hbu
              rw [show (((d + 1 : Nat) : Int)) = (d : Int) + 1 by omega] at HF
              have cw4 := clq hbu cw3
              have HFF := hiq HF
              clear HF hru hsp hfl hdrj hu hJr
              gi_wp2_with (fail)
              refine ⟨trivial, (fun h => by cases h), ?_⟩
              refine (HFF.out _).mono ?_
              rintro e W3 (⟨rfl, hJ3, hk3⟩ | ⟨rfl, nx, hJx3⟩)
              · have HJ3 := hiq hJ3
                have HK3 : Hid (KeepS (Out G) W2 W3) := (hKr.out.trans (KeepS.below hbu)).trans hk3
                clear hJ3 hk3 HFF
                gi_wp2
                go_roundw
                case rel => exact ⟨j + 1, by go_num, by omega, by rw [hlen.out]; exact HJ3.out, HK3.out⟩
                case measure => simp [intOf]; omega
              · have HJ3 := hiq hJx3
                clear hJx3 HFF
                gi_wp2
                go_ret
                exact .inr ⟨rfl, nx, HJ3.out⟩
            · obtain rfl : j = l.length := by omega
              have hfin : Hid (J ((els v).take E) wr) := by
                have := hJr.out
                rw [List.take_of_length_le (Nat.le_refl _)] at this
                rw [HE.out, hv0.out]; exact this
              have hk : Hid (KeepS (Out G) w wr) := HK2.out.trans hKr.out
              clear hJr
              gi_wp2
              go_ret
              exact .inl ⟨rfl, hfin.out, hk.out⟩
      · have hv0 : Hid (E = n + 1) := by
          show _ = _
          have := HVR.out
          have e0 : vr = [] := by
            cases f with
            | zero => simp [visits] at this; exact this
            | succ f => rw [visits, show (Vl.mk k nn t a c l).kind = k from rfl, if_neg hk] at this; exact (List.cons.inj this).2.symm
          rw [HE.out, e0]; rfl
        have dk : ((k : Int) == 3) = false := by simp; omega
        clear hk
        gi_wp2
        go_ret
        exact .inl ⟨rfl, by rw [hv0.out]; exact HJ2.out, HK2.out⟩
    · have HJX2 := hiq hJx2
      clear hJx2 HRR hy
      gi_wp2
      go_ret
      exact .inr ⟨rfl, _, HJX2.out⟩
termination_by f => f
end Go.Proofs.YtlbcmeebcfalpaaGreatDoor
namespace Go.Proofs.YtlbcmeebcfalpaaGreatDoor
open Go.RowKit Go.Shelf
attribute [local go_sem] Oper.semAt_some

theorem all_stops (m : Nat) (G : Nat -> Prop) (bv : Nat) (w : World) : ∀ (v : Vl), VAt w bv 0 v -> Rd (Out G) w v -> (∀ b, G b -> b < w.heap.size) -> ¬ G bv ->
    SeqStopsK Fence.wide m Tryz.prog 220 #[.pointer (some ⟨bv, 0, none⟩)] (elEnc v) (KeepS (Out G)) (fun ys => ys = els v) (fun pre => pre <+: els v) (els v).length w
  | .mk k nn t a c l, hv, hr, hG, hbv => fun l0 J Jx W0 hW hJ hJx hY h0 => by
    have Y : Yl (.mk k nn t a c l) G l0 W0.heap.size J Jx := ⟨hJ, hJx, fun b hb => Nat.lt_of_lt_of_le (hG b hb) hW.size, fun k' pre x W1 h1 h2 => yieldAt_level (hY pre x W1 h1 h2)⟩
    have hvW := hv.later hW
    have hb1 : Below W0.heap.size W0 (W0.alloc (.cells #[.func (.yield l0) #[] #[]] 280)) := (Below.refl _ _).alloc (Nat.le_refl _) _
    have hb2 : Below W0.heap.size W0 ((W0.alloc (.cells #[.func (.yield l0) #[] #[]] 280)).alloc (.cells #[.func (.func 221) #[] #[.pointer (some ⟨W0.heap.size, 0, none⟩), .pointer (some ⟨W0.heap.size + 1, 0, none⟩)]] 132)) := hb1.alloc hb1.size _
    have HF : ∀ m', CallsIn Fence.wide m' Tryz.prog 221 #[.agg #[.int .i64 k, .int .i64 nn, .string t, .slice a l.length c], .int .i64 (1 : Nat), .pointer (some ⟨W0.heap.size, 0, none⟩), .pointer (some ⟨W0.heap.size + 1, 0, none⟩)] _ _ := fun m' =>
      walk_in Y W0.heap.size (W0.heap.size + 1) 64 1 (.mk k nn t a c l) 0 m' [] ((W0.alloc (.cells #[.func (.yield l0) #[] #[]] 280)).alloc (.cells #[.func (.func 221) #[] #[.pointer (some ⟨W0.heap.size, 0, none⟩), .pointer (some ⟨W0.heap.size + 1, 0, none⟩)]] 132)) rfl (by simp [vis]) ((hr.below hW).below hb2)
        (by rw [World.cell?_alloc_past _ _ _ (by simp), World.cell?_alloc_at _ _ _ _ rfl]; rfl) (by rw [World.cell?_alloc_at _ _ _ _ (by simp)]; rfl) (fun h => by have := hG _ h; have := hW.size; omega) (fun h => by have := hG _ h; have := hW.size; omega) hb2.size (abides_alloc hJ (abides_alloc hJ h0 _) _)
    obtain ⟨c1, c2, c3, c4⟩ := hvW.later hb2
    dsimp only [Vl.val, Vl.cells, Vl.kind, Vl.num, Vl.text, Vl.sl, Vl.addr, Vl.items, Vl.cap] at c1 c2 c3 c4
    rw [Nat.zero_add] at c2 c3 c4
    have HFF := hiq HF
    have HV : Hid ((els (.mk k nn t a c l)).take (0 + (visits 64 1 (Vl.mk k nn t a c l)).length) = els (.mk k nn t a c l)) := by
      show _ = _
      rw [Nat.zero_add]; exact List.take_of_length_le (by rw [els_len]; exact Nat.le_refl _)
    clear HF hY hJ hJx hv hvW hb1 hb2 h0 hr Y
    refine callsIn_of_wp Tryz.func220 rfl trivial ?_ rfl
    simp only [Tryz.ntmps220, List.size_toArray, List.length_cons, List.length_nil, Nat.reduceAdd, Nat.reduceSub, Array.replicate_succ, Array.replicate_zero, List.push_toArray, List.append_toArray, List.nil_append, List.cons_append]
    gi_wp2_with (fail)
    refine ⟨trivial, (fun h => by cases h), ?_⟩
    refine (HFF.out _).mono ?_
    rintro e W3 (⟨rfl, hJ3, hk3⟩ | ⟨rfl, nx, hJx3⟩)
    · rw [HV.out] at hJ3
      have HJ3 := hiq hJ3
      clear hJ3 hk3 HFF
      gi_wp2
      go_end0
      exact ⟨⟨_, rfl⟩, .inl ⟨_, rfl, HJ3.out⟩⟩
    · have HJ3 := hiq hJx3
      clear hJx3 HFF
      gi_wp2
      go_end0
      exact ⟨⟨_, rfl⟩, .inr ⟨_, List.take_prefix _ _, HJ3.out⟩⟩
end Go.Proofs.YtlbcmeebcfalpaaGreatDoor
