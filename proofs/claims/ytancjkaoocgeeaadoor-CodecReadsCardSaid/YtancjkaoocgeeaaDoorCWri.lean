/- The function literal of Encode: write. -/
import Derived.Test.YtancjkaoocgeeaaDoorCBldK
import Derived.Deep.QuietTactic
import Derived.BigQuiet
import Derived.IntWalk
import Derived.Test.YtancjkaoocgeeaaDoorCEncR
namespace Go.Proofs.YtancjkaoocgeeaaDoor
open Go.RowKit Go.Shelf

/-- How write ends. -/
def WriPost (B b : Nat) (out ev : List UInt8) (w : World) (e : Ending) (w' : World) : Prop := ∃ (ok : Bool) (r : List UInt8), e = .returned (.bool ok) ∧ Bld B b (Lib.byteCells r) w' ∧ Below B w w' ∧ KeepT b w w' ∧
  (out.length + ev.length ≤ 1048576 → ok = true ∧ r = out ++ ev) ∧ (1048576 < out.length + ev.length → ok = false)
theorem strCells_eq {s : ByteArray} {l : List UInt8} (h : s.data.toList = l) : Lib.strCells s = Lib.byteCells l := by rw [Lib.strCells, h]; rfl
theorem size_eq {s : ByteArray} {l : List UInt8} (h : s.data.toList = l) : s.size = l.length := by rw [← h]; simp
theorem cat3 (a b c : List UInt8) : (({ data := a.toArray } : ByteArray) ++ { data := b.toArray } ++ { data := c.toArray }).data.toList = a ++ b ++ c := by
  simp [ByteArray.data_append]
theorem byteCells_append (a b : List UInt8) : Lib.byteCells (a ++ b) = Lib.byteCells a ++ Lib.byteCells b := by simp [Lib.byteCells]
theorem Bld.below {B b : Nat} {bs : List Value} {w w' : World} (h : Bld B b bs w) (hb : Below w.heap.size w w') : Bld B b bs w' := by
  have key : ∀ p, Lib.BuilderAt 50 5 B b p bs w → Lib.BuilderAt 50 5 B b p bs w' := by
    rintro p ⟨h1, v, h2, h3, h4⟩
    exact ⟨h1, v, by rw [hb.block b (Array.getElem?_eq_some_iff.1 h2).1]; exact h2, ownsRow_below h3 hb, h4⟩
  exact h.elim (fun x => .inl (key _ x)) (fun x => .inr (key _ x))
theorem Bld.lt {B b : Nat} {bs : List Value} {w : World} (h : Bld B b bs w) : B ≤ b ∧ b < w.heap.size := by
  rcases h with h | h <;> exact ⟨h.1, h.lt⟩
set_option maxRecDepth 100000 in
set_option maxHeartbeats 4000000 in
theorem write_int (S : Nat → Prop) (B b bw : Nat) (out : List UInt8) (nn : Int) (t : ByteArray) (aa : Option Addr) (cc : Nat) (l : List Vl) (w : World) (hrd : Rd S w (.mk 1 nn t aa cc l)) (ho : Bld B b (Lib.byteCells out) w) (hn : out.length ≤ 1100000) (hBw : B ≤ w.heap.size) (hE : EnvB B w) :
    Calls Tryd.prog 33 #[.agg #[.int .i64 1, .int .i64 nn, .string t, .slice aa l.length cc], .pointer (some ⟨b, 0, none⟩), .pointer (some ⟨bw, 0, none⟩)] w (WriPost B b out (leafV (.mk 1 nn t (l.map Vl.er))) w) := by
  have hI := (rd_iff.1 hrd).2.1
  change I64 nn at hI
  have hil := Lib.itoa_length_le nn hI.1 hI.2
  have IT : Hid (∀ W, EnvB B W → _) := fun W hE' => itoa_any nn hI W hE'.env
  have hb1 : Below w.heap.size w (w.alloc (.cells #[.int .i64 1, .int .i64 nn, .string t, .slice aa l.length cc] 24)) := (Below.refl _ _).alloc (Nat.le_refl _) _
  have hE1 := hE.below (hb1.mono hBw)
  have hs1 : w.heap.size ≤ (w.alloc (.cells #[.int .i64 1, .int .i64 nn, .string t, .slice aa l.length cc] 24)).heap.size := hb1.size
  have ho1 := ho.below hb1
  have hst : ({ data := #[105] } ++ { data := (Lib.itoa nn).toArray } ++ { data := #[59] } : ByteArray).data.toList = [105] ++ Lib.itoa nn ++ [59] := cat3 [105] _ [59]
  have hlf : leafV (.mk 1 nn t (l.map Vl.er)) = [105] ++ Lib.itoa nn ++ [59] := by
    show (if (1 : Int) = 1 then (105 :: (Lib.itoa nn ++ [59])) else _) = _
    simp
  rw [hlf]
  have HC := Lib.hid (strCells_eq hst)
  have HZ := Lib.hid (size_eq hst)
  have hll : ([105] ++ Lib.itoa nn ++ [59]).length ≤ 23 := by simp; omega
  generalize [105] ++ Lib.itoa nn ++ [59] = LF at *
  clear hI hrd hst hlf hE ho
  go_enter Tryd.func33, Tryd.ntmps33
  go_wp2_with (go_at_call 35; refine (IT.out _ hE1).mono ?_; rintro e w2 ⟨rfl, b2⟩; have z2 := b2.size; have o2 := ho1.below b2; have hb2 := hb1.trans (b2.mono hb1.size))
  generalize ({ data := #[105] } ++ { data := (Lib.itoa nn).toArray } ++ { data := #[59] } : ByteArray) = TX at *
  refine (writeString_K B b _ TX w2 o2 (by rw [Lib.byteCells_length, HZ.out]; omega) (by omega)).mono ?_
  rintro e w3 ⟨rfl, o3, b3, k3⟩
  rw [HC.out, ← byteCells_append] at o3
  have hb3 := (hb2.mono hBw).trans b3
  have hk3 := (KeepT.below (b := b) hb2).trans k3
  have LN := Tryd.Builder_Len B b _ w3 o3
  rw [Lib.byteCells_length] at LN
  have HLN := Lib.hid LN
  clear LN HC HZ IT
  generalize hX : out ++ LF = X at *
  have hXl : X.length = out.length + LF.length := by rw [← hX, List.length_append]
  have HX := Lib.hid hX
  have HXL := Lib.hid hXl
  clear hX hXl
  by_cases hM : X.length ≤ 1048576
  · go_wp2_with (go_at_call 36; refine HLN.out.mono ?_; rintro e w4 ⟨rfl, rfl⟩)
    go_ret
    have dM : decide ((X.length : Int) ≤ 1048576) = true := by rw [decide_eq_true_eq]; omega
    exact ⟨true, X, by simp; omega, o3, hb3, hk3, fun _ => ⟨rfl, HX.out.symm⟩, fun h => by have := HXL.out; omega⟩
  · go_wp2_with (go_at_call 36; refine HLN.out.mono ?_; rintro e w4 ⟨rfl, rfl⟩)
    go_ret
    exact ⟨false, X, by simp; omega, o3, hb3, hk3, fun h => by have := HXL.out; omega, fun _ => rfl⟩
end Go.Proofs.YtancjkaoocgeeaaDoor

namespace Go.Proofs.YtancjkaoocgeeaaDoor
open Go.RowKit Go.Shelf

theorem Bld.drew {B b : Nat} {bs : List Value} {w : World} (h : Bld B b bs w) (k : Nat) : Bld B b bs (w.drewN k) := h.below (below_drewN (Below.refl _ _) k)
set_option maxRecDepth 100000 in
set_option maxHeartbeats 4000000 in
theorem write_text (B b bw : Nat) (out : List UInt8) (nn : Int) (t : ByteArray) (aa : Option Addr) (cc : Nat) (l : List Vl) (w : World) (htz : t.size ≤ 1048576) (ho : Bld B b (Lib.byteCells out) w) (hn : out.length ≤ 1100000) (hBw : B ≤ w.heap.size) (hE : EnvB B w) :
    Calls Tryd.prog 33 #[.agg #[.int .i64 2, .int .i64 nn, .string t, .slice aa l.length cc], .pointer (some ⟨b, 0, none⟩), .pointer (some ⟨bw, 0, none⟩)] w (WriPost B b out (leafV (.mk 2 nn t (l.map Vl.er))) w) := by
  have hI : I64 (t.size : Int) := ⟨by omega, by omega⟩
  have hil := Lib.itoa_length_le (t.size : Int) hI.1 hI.2
  have IT : Hid (∀ W, EnvB B W → _) := fun W hE' => itoa_any (t.size : Int) hI W hE'.env
  have hb1 : Below w.heap.size w (w.alloc (.cells #[.int .i64 2, .int .i64 nn, .string t, .slice aa l.length cc] 24)) := (Below.refl _ _).alloc (Nat.le_refl _) _
  have hE1 := hE.below (hb1.mono hBw)
  have hs1 : w.heap.size ≤ (w.alloc (.cells #[.int .i64 2, .int .i64 nn, .string t, .slice aa l.length cc] 24)).heap.size := hb1.size
  have ho1 := ho.below hb1
  have x2 : (w.alloc (.cells #[.int .i64 2, .int .i64 nn, .string t, .slice aa l.length cc] 24)).heap[w.heap.size]? = some (.cells #[.int .i64 2, .int .i64 nn, .string t, .slice aa l.length cc] 24 (0, 0)) := (by simp only [World.alloc]; exact Array.getElem?_push_size)
  have hbne : w.heap.size ≠ b := by have := ho.lt; omega
  have HNE := Lib.hid hbne
  have hst : ({ data := #[115] } ++ { data := (Lib.itoa (t.size : Int)).toArray } ++ { data := #[58] } : ByteArray).data.toList = [115] ++ Lib.itoa (t.size : Int) ++ [58] := cat3 [115] _ [58]
  have hlf : leafV (.mk 2 nn t (l.map Vl.er)) = ([115] ++ Lib.itoa (t.size : Int) ++ [58]) ++ t.data.toList := by
    simp [leafV, V.kind, V.text]
  rw [hlf]
  have HC := Lib.hid (strCells_eq hst)
  have HZ := Lib.hid (size_eq hst)
  have hll : ([115] ++ Lib.itoa (t.size : Int) ++ [58]).length ≤ 23 := by simp; omega
  generalize [115] ++ Lib.itoa (t.size : Int) ++ [58] = LF at *
  have htl : t.data.toList.length = t.size := by simp
  have HTL := Lib.hid htl
  have HX2 := Lib.hid x2
  clear hI hst hlf hE ho hbne htl x2
  go_enter Tryd.func33, Tryd.ntmps33
  go_wp2_with (go_at_call 35; refine (IT.out _ hE1).mono ?_; rintro e w2 ⟨rfl, b2⟩; have z2 := b2.size; have o2 := ho1.below b2; have hb2 := hb1.trans (b2.mono hb1.size))
  generalize ({ data := #[115] } ++ { data := (Lib.itoa (t.size : Int)).toArray } ++ { data := #[58] } : ByteArray) = TX at *
  refine (writeString_K B b _ TX w2 o2 (by rw [Lib.byteCells_length, HZ.out]; omega) (by omega)).mono ?_
  rintro e w3 ⟨rfl, o3, b3, k3⟩
  rw [HC.out, ← byteCells_append] at o3
  have hb3 := (hb2.mono hBw).trans b3
  have hk3 := (KeepT.below (b := b) hb2).trans k3
  have X3 := Lib.hid (((KeepT.below (b := b) b2).trans k3).2 _ _ _ _ HNE.out (by decide) HX2.out)
  have x32 : w3.cell? ⟨w.heap.size, 2, none⟩ = some (.string t) := by rw [Lib.cell_of_heap X3.out]; rfl
  have LN : ∀ k, Calls Tryd.prog 36 #[.pointer (some ⟨b, 0, none⟩)] (w3.drewN k) fun e w' => e = .returned (.int .i64 (out ++ LF).length) ∧ w' = w3.drewN k := fun k => by
    have := Tryd.Builder_Len B b _ _ (o3.drew k)
    rwa [Lib.byteCells_length] at this
  have HLN := Lib.hid LN
  have hzz := b3.size
  clear LN HC HZ IT
  generalize hX : out ++ LF = X at *
  have hXl : X.length = out.length + LF.length := by rw [← hX, List.length_append]
  have HX := Lib.hid hX
  have HXL := Lib.hid hXl
  have hXb : X.length ≤ 1200000 := by omega
  clear hX hXl
  have hw1 : IntKind.i64.wrap ((X.length : Int) + (t.size : Int)) = (X.length : Int) + (t.size : Int) := IntWalk.i64_in _ (by omega)
  by_cases hM : X.length + t.size ≤ 1048576
  · have dM : decide ((X.length : Int) + (t.size : Int) ≤ 1048576) = true := by rw [decide_eq_true_eq]; omega
    go_wp2_with fail
    go_quiet ((go_at_call 36; exact Calls.quiet_of_same (HLN.out _)))
    have o4 := o3.drew nq
    have b4 : Below w3.heap.size w3 (w3.drewN nq) := below_drewN (Below.refl _ _) nq
    have hb4 := hb3.trans (b4.mono (by have := hb3.size; omega))
    have hk4 := hk3.trans (KeepT.below (b := b) b4)
    have x42 : (w3.drewN nq).cell? ⟨w.heap.size, 2, none⟩ = some (.string t) := by rw [World.cell?_drewN]; exact x32
    have z4 := b4.size
    generalize w3.drewN nq = w4 at *
    clear HLN x32 dM b4
    go_wp2_with fail
    refine (writeString_K B b _ t w4 o4 (by rw [Lib.byteCells_length]; omega) (by omega)).mono ?_
    rintro e w5 ⟨rfl, o5, b5, k5⟩
    rw [strCells_eq rfl, ← byteCells_append] at o5
    have hb5 := hb4.trans b5
    have hk5 := hk4.trans k5
    have LN5 := Tryd.Builder_Len B b _ w5 o5
    rw [Lib.byteCells_length] at LN5
    have HLN5 := Lib.hid LN5
    clear LN5
    generalize hY : X ++ t.data.toList = Y at *
    have hYl : Y.length = X.length + t.size := by rw [← hY, List.length_append, HTL.out]
    have HY := Lib.hid hY
    have HYL := Lib.hid hYl
    clear hY hYl
    go_wp2_with (go_at_call 36; refine HLN5.out.mono ?_; rintro e w6 ⟨rfl, rfl⟩)
    go_ret
    have h1 := HYL.out
    have h2 := HXL.out
    have h3 := HTL.out
    refine ⟨true, Y, by simp; omega, o5, hb5, hk5, fun _ => ⟨rfl, by rw [← HY.out, ← HX.out, List.append_assoc]⟩, fun h => ?_⟩
    rw [List.length_append] at h; omega
  · have dM : decide ((X.length : Int) + (t.size : Int) ≤ 1048576) = false := by rw [decide_eq_false_iff_not]; omega
    go_wp2_with fail
    go_quiet ((go_at_call 36; exact Calls.quiet_of_same (HLN.out _)))
    have o4 := o3.drew nq
    have b4 : Below w3.heap.size w3 (w3.drewN nq) := below_drewN (Below.refl _ _) nq
    have hb4 := hb3.trans (b4.mono (by have := hb3.size; omega))
    have hk4 := hk3.trans (KeepT.below (b := b) b4)
    clear HLN x32 dM b4
    go_wp2
    go_ret
    have h2 := HXL.out
    have h3 := HTL.out
    refine ⟨false, X, rfl, o4, hb4, hk4, fun h => ?_, fun _ => rfl⟩
    rw [List.length_append] at h; omega
end Go.Proofs.YtancjkaoocgeeaaDoor

namespace Go.Proofs.YtancjkaoocgeeaaDoor
open Go.RowKit Go.Shelf

theorem WriPost.pre {B b : Nat} {out ev : List UInt8} {w w1 : World} {e : Ending} {w' : World} (hb : Below B w w1) (hk : KeepT b w w1) (h : WriPost B b out ev w1 e w') : WriPost B b out ev w e w' := by
  obtain ⟨ok, r, h1, h2, h3, h4, h5, h6⟩ := h
  exact ⟨ok, r, h1, h2, hb.trans h3, hk.trans h4, h5, h6⟩
/-- The closure write, as it lies in its own variable. -/
abbrev wriFn (b bw : Nat) : Value := .func (.func 33) #[] #[.pointer (some ⟨b, 0, none⟩), .pointer (some ⟨bw, 0, none⟩)]
set_option maxRecDepth 100000 in
set_option maxHeartbeats 4000000 in
theorem write_any (b bw B : Nat) (hne : bw ≠ b) : ∀ (f : Nat) (S : Nat → Prop) (v : Vl) (w : World) (out : List UInt8), f ≤ 64 → GoodD f v.er → Rd S w v → (∀ x, S x → x < B) → Bld B b (Lib.byteCells out) w → out.length + f ≤ 1048641 → B ≤ w.heap.size → EnvB B w →
    w.heap[bw]? = some (.cells #[wriFn b bw] 25 (0, 0)) →
    Calls Tryd.prog 33 #[v.val, .pointer (some ⟨b, 0, none⟩), .pointer (some ⟨bw, 0, none⟩)] w (WriPost B b out (encV v.er) w)
  | f, S, .mk k nn t aa cc l, w, out, hf, hg, hrd, hS, ho, hn, hBw, hE, hw => by
    have hs := singV_ok (allV_items hg.2).1
    have hker : (Vl.mk k nn t aa cc l).er = .mk k nn t (l.map Vl.er) := by rw [Vl.er, Vl.erL_map]
    rw [hker] at hs
    by_cases h1 : k = 1
    · subst h1
      have : encV (Vl.mk 1 nn t aa cc l).er = leafV (.mk 1 nn t (l.map Vl.er)) := by rw [hker, encV, if_pos (.inl rfl)]
      rw [this]
      exact write_int S B b bw out nn t aa cc l w hrd ho (by omega) hBw hE
    · by_cases h2 : k = 2
      · subst h2
        have : encV (Vl.mk 2 nn t aa cc l).er = leafV (.mk 2 nn t (l.map Vl.er)) := by rw [hker, encV, if_pos (.inr rfl)]
        rw [this]
        exact write_text B b bw out nn t aa cc l w hs.2.1 ho (by omega) hBw hE
      · have h3 : k = 3 := by have := hs.1; change k = 1 ∨ k = 2 ∨ k = 3 at this; omega
        subst h3
        cases f with
        | zero => exact absurd rfl hg.1
        | succ f =>
          have IH := Lib.hid (fun (u : Vl) (W : World) (o : List UInt8) => write_any b bw B hne f S u W o (by omega))
          have hgi : Hid (∀ u ∈ l.map Vl.er, GoodD f u) := fun u hu => by
            rw [hker] at hg
            exact hg.items rfl u hu
          have hr : encV (Vl.mk 3 nn t aa cc l).er = 108 :: (encL (l.map Vl.er) ++ [101]) := by rw [hker, encV, if_neg (by omega)]
          have hb1 : Below w.heap.size w (w.alloc (.cells #[.int .i64 3, .int .i64 nn, .string t, .slice aa l.length cc] 24)) := (Below.refl _ _).alloc (Nat.le_refl _) _
          have hs1 : (w.alloc (.cells #[.int .i64 3, .int .i64 nn, .string t, .slice aa l.length cc] 24)).heap.size = w.heap.size + 1 := by simp
          have x3 : (w.alloc (.cells #[.int .i64 3, .int .i64 nn, .string t, .slice aa l.length cc] 24)).heap[w.heap.size]? = some (.cells #[.int .i64 3, .int .i64 nn, .string t, .slice aa l.length cc] 24 (0, 0)) := (by simp only [World.alloc]; exact Array.getElem?_push_size)
          have hbne : w.heap.size ≠ b := by have := ho.lt; omega
          have ho1 := ho.below hb1
          have hE1 := hE.below (hb1.mono hBw)
          have hw1 : (w.alloc (.cells #[.int .i64 3, .int .i64 nn, .string t, .slice aa l.length cc] 24)).heap[bw]? = _ := (hb1.block bw (Array.getElem?_eq_some_iff.1 hw).1).trans hw
          have hv1 := (hrd.below hb1).vals
          change Vals S _ aa l.length cc l at hv1
          have hL := hv1.2.2.1
          rw [hr]
          have HS := Lib.hid hS
          have HNE := Lib.hid hbne
          have HWN := Lib.hid hne
          have HX3 := Lib.hid x3
          have HW1 := Lib.hid hw1
          change Calls _ _ #[.agg #[.int .i64 3, .int .i64 nn, .string t, .slice aa l.length cc], _, _] _ _
          clear ho hE hg hrd hr hker hS h1 h2 hs x3 hw hw1 hbne hne
          go_enter Tryd.func33, Tryd.ntmps33
          go_wp2_with fail
          generalize w.alloc (.cells #[.int .i64 3, .int .i64 nn, .string t, .slice aa l.length cc] 24) = W1 at *
          refine (writeByte_K B b _ 108 W1 ho1 (by rw [Lib.byteCells_length]; omega) (by omega)).mono ?_
          rintro e W2 ⟨rfl, o2, b2, k2⟩
          have X32 := k2.2 _ _ _ _ HNE.out (by decide) HX3.out
          have c23 : W2.cell? ⟨w.heap.size, 3, none⟩ = some (.slice aa l.length cc) := by rw [Lib.cell_of_heap X32]; rfl
          have HW2 := Lib.hid (k2.2 _ _ _ _ HWN.out (by decide) HW1.out)
          have o2' : Bld B b (Lib.byteCells (out ++ 108 :: encL ((l.map Vl.er).take 0))) W2 := by
            rw [byteCells_append]; exact o2
          have hb2 := (hb1.mono hBw).trans b2
          have hk2 := (KeepT.below (b := b) hb1).trans k2
          have hv2 := hv1.keep (.belowB b2 k2.1 HS.out)
          have hE2 := hE1.below b2
          have z2 := k2.1
          clear o2 X32 hv1 hE1 HX3 HW1 ho1 k2 b2 hb1
          go_wp2_with fail
          go_loopw [13] (fun i wr => ∃ j : Nat, i = .int .i64 j ∧ j ≤ l.length ∧ Bld B b (Lib.byteCells (out ++ 108 :: encL ((l.map Vl.er).take j))) wr ∧ Below B W2 wr ∧ KeepT b W2 wr ∧ (out ++ 108 :: encL ((l.map Vl.er).take j)).length + f ≤ 1048641) (fun i _ => l.length - (intOf i).toNat)
          case atStart => exact ⟨0, rfl, Nat.zero_le _, o2', .refl _ _, .refl _ _, by simp [encL]; omega⟩
          case round =>
            clear o2'
            obtain ⟨j, rfl, hj, oj, bj, kj, nj⟩ := hrel
            have zj := kj.1
            by_cases hlj : j < l.length
            · obtain ⟨u, bb, off, hu, -, rfl, -, -, ⟨c1, c2, c3, c4⟩, hru⟩ := (hv2.keep (.belowB bj zj HS.out)).get hlj
              have hbu : Below wr.heap.size wr (wr.alloc (.cells u.cells 24)) := (Below.refl _ _).alloc (Nat.le_refl _) _
              have hgu := hgi.out u.er (List.mem_map_of_mem (List.mem_of_getElem? hu))
              have hwj := kj.2 _ _ _ _ HWN.out (by decide) HW2.out
              have hwj2 : (wr.alloc (.cells u.cells 24)).heap[bw]? = _ := (hbu.block bw (Array.getElem?_eq_some_iff.1 hwj).1).trans hwj
              have F := IH.out u _ _ hgu (hru.below hbu) HS.out (oj.below hbu) nj (by have := hbu.size; omega) ((hE2.below bj).below (hbu.mono (by omega))) hwj2
              have hst : Hid (encL ((l.map Vl.er).take (j + 1)) = encL ((l.map Vl.er).take j) ++ encV u.er) := by
                show _ = _
                rw [take_er hu, encL_append]; simp [encL]
              have hsp : Hid (encL (l.map Vl.er) = encL ((l.map Vl.er).take (j + 1)) ++ encL ((l.map Vl.er).drop (j + 1))) := by
                show _ = _
                rw [← encL_append, List.take_append_drop]
              have cw : wr.cell? ⟨bw, 0, none⟩ = some (wriFn b bw) := by rw [Lib.cell_of_heap hwj]; rfl
              have cw2 : (wr.alloc (.cells u.cells 24)).cell? ⟨bw, 0, none⟩ = some (wriFn b bw) := by rw [Lib.cell_of_heap hwj2]; rfl
              have hbu' := hbu
              generalize hEU : encV u.er = EU at *
              obtain ⟨uk, un, ut, ua, uc, ul⟩ := u
              dsimp only [Vl.val, Vl.cells, Vl.kind, Vl.num, Vl.text, Vl.sl, Vl.addr, Vl.items, Vl.cap] at c1 c2 c3 c4 F cw2 hbu'
              have HF := Lib.hid F
              clear F hru hu oj hgu hwj hwj2 hEU
              go_wp2_with fail
              refine HF.out.mono ?_
              rintro e W5 ⟨ok, r, rfl, o5, b5, k5, h5, h6⟩
              have kj5 := (kj.trans (KeepT.below (b := b) hbu)).trans k5
              have bj5 := (bj.trans (hbu.mono (by omega))).trans b5
              by_cases hM : (out ++ 108 :: encL ((l.map Vl.er).take j)).length + EU.length ≤ 1048576
              · obtain ⟨rfl, hr5⟩ := h5 hM
                have hst5 : out ++ 108 :: encL ((l.map Vl.er).take (j + 1)) = r := by rw [hr5, hst.out]; simp
                have hln5 : r.length ≤ 1048576 := by rw [hr5, List.length_append]; omega
                have HST := Lib.hid hst5
                clear h5 h6 HF hst5 hr5 hM
                go_wp2
                go_roundw
                case rel => exact ⟨j + 1, by go_num, by omega, by rw [HST.out]; exact o5, bj5, kj5, by rw [HST.out]; omega⟩
                case measure => simp [intOf]; omega
              · obtain rfl := h6 (by omega)
                have hbig : Hid (1048576 < out.length + (108 :: (encL (l.map Vl.er) ++ [101])).length) := by
                  show _ < _
                  rw [hsp.out, hst.out]
                  rw [List.length_append] at hM
                  simp only [List.length_append, List.length_cons] at hM ⊢
                  omega
                clear h5 h6 HF hM
                go_wp2
                go_ret
                exact ⟨false, r, rfl, o5, hb2.trans bj5, hk2.trans kj5, fun h => by have := hbig.out; omega, fun _ => rfl⟩
            · obtain rfl : j = l.length := by omega
              rw [List.take_of_length_le (by simp)] at oj nj
              generalize encL (l.map Vl.er) = EL at *
              have F9 := writeByte_K B b _ 101 wr oj (by rw [Lib.byteCells_length]; omega) (by omega)
              have HF9 := Lib.hid F9
              clear F9 oj
              go_wp2_with fail
              refine HF9.out.mono ?_
              rintro e W9 ⟨rfl, o9, b9, k9⟩
              have o9' : Bld B b (Lib.byteCells (out ++ 108 :: (EL ++ [101]))) W9 := by
                have : Lib.byteCells (out ++ 108 :: (EL ++ [101])) = Lib.byteCells (out ++ 108 :: EL) ++ [.int .u8 101] := by
                  rw [show out ++ 108 :: (EL ++ [101]) = (out ++ 108 :: EL) ++ [101] by simp, byteCells_append]; rfl
                rw [this]; exact o9
              have LN := Tryd.Builder_Len B b _ W9 o9'
              rw [Lib.byteCells_length] at LN
              have HLN := Lib.hid LN
              clear LN o9 HF9
              have hb9 := (hb2.trans bj).trans b9
              have hk9 := (hk2.trans kj).trans k9
              have HXL : Hid ((out ++ 108 :: (EL ++ [101])).length = out.length + (108 :: (EL ++ [101])).length) := by show _ = _; rw [List.length_append]
              generalize hX : out ++ 108 :: (EL ++ [101]) = X at *
              have HX := Lib.hid hX.symm
              clear hX
              go_wp2_with (go_at_call 36; refine HLN.out.mono ?_; rintro e w4 ⟨rfl, rfl⟩)
              go_ret
              by_cases hM : X.length ≤ 1048576
              · exact ⟨true, X, by simp; omega, o9', hb9, hk9, fun _ => ⟨rfl, HX.out⟩, fun h => by have := HXL.out; omega⟩
              · exact ⟨false, X, by simp; omega, o9', hb9, hk9, fun h => by have := HXL.out; omega, fun _ => rfl⟩
termination_by f => f
end Go.Proofs.YtancjkaoocgeeaaDoor
