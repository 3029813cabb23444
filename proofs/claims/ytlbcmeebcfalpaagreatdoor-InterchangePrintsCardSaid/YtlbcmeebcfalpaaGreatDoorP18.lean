/- Joined: CEncR, CBldK. -/
import Derived.Test.YtlbcmeebcfalpaaGreatDoorP17
import Derived.Test.YtlbcmeebcfalpaaGreatDoorP02
import Derived.Laws.IdiomStrings
import Derived.Lib.BufferRead
import Derived.Test.YtlbcmeebcfalpaaGreatDoorP01
set_option linter.unusedVariables false
set_option linter.unusedSimpArgs false
set_option maxRecDepth 100000
set_option maxHeartbeats 16000000
namespace Go.Proofs.YtlbcmeebcfalpaaGreatDoor
open Go.RowKit Go.Shelf

/-- The library's variables lie below B. -/
def EnvB (B : Nat) (w : World) : Prop := ∃ w0, Env w0 /\ w0.heap.size <= B /\ Below w0.heap.size w0 w
theorem EnvB.env {B : Nat} {w : World} (h : EnvB B w) : Env w := by obtain ⟨w0, h1, _, h3⟩ := h; exact h1.below h3
theorem EnvB.below {B : Nat} {w w' : World} (h : EnvB B w) (hb : Below B w w') : EnvB B w' := by obtain ⟨w0, h1, h2, h3⟩ := h; exact ⟨w0, h1, h2, h3.trans (hb.mono h2)⟩
theorem EnvB.of {w : World} (h : Env w) : EnvB w.heap.size w := ⟨w, h, Nat.le_refl _, Below.refl _ _⟩
theorem EnvB.mono {B B' : Nat} {w : World} (h : EnvB B w) (hB : B <= B') : EnvB B' w := by obtain ⟨w0, h1, h2, h3⟩ := h; exact ⟨w0, h1, by omega, h3⟩
theorem KeepS.belowB {S : Nat -> Prop} {B : Nat} {w w' : World} (hb : Below B w w') (hw : w.heap.size <= w'.heap.size) (hS : ∀ b, S b -> b < B) : KeepS S w w' :=
  ⟨hw, fun b cs t fr hs h => by rw [hb.block b (hS b hs)]; exact h⟩
theorem cell_lit1 (w : World) (x : Value) (t : TypeId) {k : Nat} (hk : k = w.heap.size) : (w.alloc (.cells #[x] t)).cell? ⟨k, 0, none⟩ = some x := by
  subst hk; simp [World.cell?_alloc_at]

/-- What encode answers. -/
def EncPost (B : Nat) (a : Option Addr) (n c : Nat) (w : World) (r : List UInt8) (e : Ending) (w' : World) : Prop := ∃ (a' : Option Addr) (n' c' : Nat), e = .returned (.slice a' n' c') /\ OwnY w' B a' n' c' r /\ Grew B a n c w a' n' c' w'
theorem encode_leaf (S : Nat -> Prop) (f B : Nat) (a : Option Addr) (n c : Nat) (out : List UInt8) : ∀ (v : Vl) (w : World), singV v.er = 0 -> (v.kind = 1 \/ v.kind = 2) -> Rd S w v -> OwnY w B a n c out -> n <= 1048576 -> B <= w.heap.size -> EnvB B w ->
    Calls Tryz.prog 124 #[.slice a n c, v.val] w (EncPost B a n c w (encF f out v.er))
  | .mk k nn t aa cc l, w, hs, hk, hrd, ho, hn, hBw, hE => by
    obtain ⟨-, hts, -⟩ := singV_ok hs
    rw [Vl.er_text] at hts
    change t.size <= 1048576 at hts
    have hk' : (Vl.mk k nn t aa cc l).er.kind = 1 \/ (Vl.mk k nn t aa cc l).er.kind = 2 := by rw [Vl.er_kind]; exact hk
    have hr : encF f out (Vl.mk k nn t aa cc l).er = out ++ leafV (Vl.mk k nn t aa cc l).er := encF_leaf f (by rw [<- ho.1]; omega) hk'
    rw [hr]
    have hI := (rd_iff.1 hrd).2.1
    change I64 nn at hI
    have hlen : n = out.length := ho.1
    have HL := hiq hlen
    change Calls _ _ #[_, .agg #[.int .i64 k, .int .i64 nn, .string t, .slice aa l.length cc]] _ _
    have hlt := ho.lt
    clear hrd hk' hr hlen
    have hs1 : (w.alloc (.cells #[.int .i64 k, .int .i64 nn, .string t, .slice aa l.length cc] 24)).heap.size = w.heap.size + 1 := by simp
    have hb1 : Below w.heap.size w (w.alloc (.cells #[.int .i64 k, .int .i64 nn, .string t, .slice aa l.length cc] 24)) := (Below.refl _ _).alloc (Nat.le_refl _) _
    have x1 : (w.alloc (.cells #[.int .i64 k, .int .i64 nn, .string t, .slice aa l.length cc] 24)).cell? ⟨w.heap.size, 1, none⟩ = some (.int .i64 nn) := by rw [World.cell?_alloc_at _ _ _ _ rfl]; rfl
    have x2 : (w.alloc (.cells #[.int .i64 k, .int .i64 nn, .string t, .slice aa l.length cc] 24)).cell? ⟨w.heap.size, 2, none⟩ = some (.string t) := by rw [World.cell?_alloc_at _ _ _ _ rfl]; rfl
    have hbo : Oth a n c w.heap.size := fun e => by have := hlt _ e; omega
    have ho1 := ho.below hb1
    have hE1 := hE.below (hb1.mono hBw)
    have G0 : Grew B a n c w a n c (w.alloc (.cells #[.int .i64 k, .int .i64 nn, .string t, .slice aa l.length cc] 24)) := .of_below hb1 hBw
    have hB1 : B <= (w.alloc (.cells #[.int .i64 k, .int .i64 nn, .string t, .slice aa l.length cc] 24)).heap.size := by omega
    have X1 := hiq x1
    have X2 := hiq x2
    have HS1 := hiq hs1
    clear hlt ho hE x1 x2 hs1
    by_cases h1 : k = 1
    · subst h1
      have hlf : Hid (leafV (Vl.mk 1 nn t aa cc l).er = [105] ++ (Lib.itoa nn ++ [59])) := by
        show _ = _
        rw [leafV, Vl.er_kind, Vl.er_num]; rfl
      generalize leafV (Vl.mk 1 nn t aa cc l).er = LF at *
      have hil := Lib.itoa_length_le nn hI.1 hI.2
      have IT : Hid (∀ W, EnvB B W -> _) := fun W hE' => itoa_any nn hI W hE'.env
      have his : (⟨(Lib.itoa nn).toArray⟩ : ByteArray).size <= 21 := by show (Lib.itoa nn).toArray.size <= 21; simpa using hil
      clear hI hk hs
      have hl1 : Below (w.alloc (.cells #[.int .i64 1, .int .i64 nn, .string t, .slice aa l.length cc] 24)).heap.size (w.alloc (.cells #[.int .i64 1, .int .i64 nn, .string t, .slice aa l.length cc] 24)) ((w.alloc (.cells #[.int .i64 1, .int .i64 nn, .string t, .slice aa l.length cc] 24)).alloc (.cells #[.int .u8 (105 : UInt8).toNat] 5)) := (Below.refl _ _).alloc (Nat.le_refl _) _
      go_enter Tryz.func124, Tryz.ntmps124
      go_wp2_with (first
        | (at_builtin; refine wpList_appY (y := 105) (w0 := ((w.alloc (.cells #[.int .i64 1, .int .i64 nn, .string t, .slice aa l.length cc] 24)).alloc (.cells #[.int .u8 (105 : UInt8).toNat] 5))) rfl (.tmp 14) (.tmp 15) rfl rfl rfl (ho1.below hl1) (cell_lit1 _ _ _ (by simp)) (by omega) (by simp; omega) (Below.refl _ _) ?_; intro a1 c1 w1 o1 b1 g1 t1; have G1 : Grew B a n c (w.alloc (.cells #[.int .i64 1, .int .i64 nn, .string t, .slice aa l.length cc] 24)) a1 (n + 1) c1 w1 := (Grew.of_below hl1 hB1).trans (Grew.of_grown b1 g1 t1); have y1 := G1.keep.cell (a := ⟨w.heap.size, 1, none⟩) hbo X1.out; have z1 := G1.keep.1; have hE2 := hE1.below G1.below)
        | (go_at_call 198; refine (IT.out _ hE2).mono ?_; rintro e w2 ⟨rfl, b2⟩; have z2 := b2.size; have o2 := o1.below b2; have G2 := G1.trans (Grew.of_below b2 (by have := HS1.out; omega)))
        | (at_builtin; refine wpList_appStrAt (w0 := w2) rfl (.tmp 17) (.tmp 20) rfl rfl rfl o2 (by omega) (by have := HS1.out; omega) (Below.refl _ _) ?_; intro a3 c3 w3 o3 b3 g3 t3; have G3 := G2.trans (Grew.of_grown b3 g3 t3); have z3 := G3.keep.1; have hl3 : Below w3.heap.size w3 (w3.alloc (.cells #[.int .u8 (59 : UInt8).toNat] 5)) := ((Below.refl _ _).alloc (Nat.le_refl _) _))
        | (at_builtin; refine wpList_appY (y := 59) (w0 := w3.alloc (.cells #[.int .u8 (59 : UInt8).toNat] 5)) rfl (.tmp 22) (.tmp 23) rfl rfl rfl (o3.below hl3) (cell_lit1 _ _ _ rfl) (by omega) (by have := HS1.out; simp; omega) (Below.refl _ _) ?_; intro a4 c4 w4 o4 b4 g4 t4; have G4 := G3.trans ((Grew.of_below hl3 (by have := HS1.out; omega)).trans (Grew.of_grown b4 g4 t4))))
      go_ret
      refine ⟨a4, _, c4, rfl, ?_, G0.trans G4⟩
      rw [hlf.out]
      simpa using o4
    · obtain rfl : k = 2 := by
        rcases hk with h | h
        · exact absurd h h1
        · exact h
      have hlf : Hid (leafV (Vl.mk 2 nn t aa cc l).er = [115] ++ (Lib.itoa t.size ++ ([58] ++ t.data.toList))) := by
        show _ = _
        rw [leafV, Vl.er_kind, Vl.er_text]; rfl
      generalize leafV (Vl.mk 2 nn t aa cc l).er = LF at *
      have hil := Lib.itoa_length_le (t.size : Int) (by omega) (by omega)
      have IT : Hid (∀ W, EnvB B W -> _) := fun W hE' => itoa_any (t.size : Int) ⟨by omega, by omega⟩ W hE'.env
      have his : (⟨(Lib.itoa (t.size : Int)).toArray⟩ : ByteArray).size <= 21 := by show (Lib.itoa (t.size : Int)).toArray.size <= 21; simpa using hil
      clear hI hk hs h1
      have hl1 : Below (w.alloc (.cells #[.int .i64 2, .int .i64 nn, .string t, .slice aa l.length cc] 24)).heap.size (w.alloc (.cells #[.int .i64 2, .int .i64 nn, .string t, .slice aa l.length cc] 24)) ((w.alloc (.cells #[.int .i64 2, .int .i64 nn, .string t, .slice aa l.length cc] 24)).alloc (.cells #[.int .u8 (115 : UInt8).toNat] 5)) := (Below.refl _ _).alloc (Nat.le_refl _) _
      go_enter Tryz.func124, Tryz.ntmps124
      go_wp2_with (first
        | (at_builtin; refine wpList_appY (y := 115) (w0 := ((w.alloc (.cells #[.int .i64 2, .int .i64 nn, .string t, .slice aa l.length cc] 24)).alloc (.cells #[.int .u8 (115 : UInt8).toNat] 5))) rfl (.tmp 27) (.tmp 28) rfl rfl rfl (ho1.below hl1) (cell_lit1 _ _ _ (by simp)) (by omega) (by simp; omega) (Below.refl _ _) ?_; intro a1 c1 w1 o1 b1 g1 t1; have G1 : Grew B a n c (w.alloc (.cells #[.int .i64 2, .int .i64 nn, .string t, .slice aa l.length cc] 24)) a1 (n + 1) c1 w1 := (Grew.of_below hl1 hB1).trans (Grew.of_grown b1 g1 t1); have y1 := G1.keep.cell (a := ⟨w.heap.size, 2, none⟩) hbo X2.out; have z1 := G1.keep.1; have hE2 := hE1.below G1.below)
        | (go_at_call 198; refine (IT.out _ hE2).mono ?_; rintro e w2 ⟨rfl, b2⟩; have z2 := b2.size; have o2 := o1.below b2; have G2 := G1.trans (Grew.of_below b2 (by have := HS1.out; omega)))
        | (at_builtin; refine wpList_appStrAt (w0 := w2) rfl (.tmp 30) (.tmp 34) rfl rfl rfl o2 (by omega) (by have := HS1.out; omega) (Below.refl _ _) ?_; intro a3 c3 w3 o3 b3 g3 t3; have G3 := G2.trans (Grew.of_grown b3 g3 t3); have z3 := G3.keep.1; have hl3 : Below w3.heap.size w3 (w3.alloc (.cells #[.int .u8 (58 : UInt8).toNat] 5)) := ((Below.refl _ _).alloc (Nat.le_refl _) _))
        | (at_builtin; refine wpList_appY (y := 58) (w0 := w3.alloc (.cells #[.int .u8 (58 : UInt8).toNat] 5)) rfl (.tmp 36) (.tmp 37) rfl rfl rfl (o3.below hl3) (cell_lit1 _ _ _ rfl) (by omega) (by have := HS1.out; simp; omega) (Below.refl _ _) ?_; intro a4 c4 w4 o4 b4 g4 t4; have G4 := G3.trans ((Grew.of_below hl3 (by have := HS1.out; omega)).trans (Grew.of_grown b4 g4 t4)); have y4 := G4.keep.cell (a := ⟨w.heap.size, 2, none⟩) hbo X2.out; have z4 := G4.keep.1)
        | (at_builtin; refine wpList_appStrAt (w0 := w4) rfl (.tmp 39) (.tmp 41) rfl rfl rfl o4 (by omega) (by have := HS1.out; omega) (Below.refl _ _) ?_; intro a5 c5 w5 o5 b5 g5 t5; have G5 := G4.trans (Grew.of_grown b5 g5 t5)))
      go_ret
      refine ⟨a5, _, c5, rfl, ?_, G0.trans G5⟩
      rw [hlf.out]
      simpa using o5
end Go.Proofs.YtlbcmeebcfalpaaGreatDoor

namespace Go.Proofs.YtlbcmeebcfalpaaGreatDoor
open Go.RowKit Go.Shelf

theorem encF_fold_len {f : Nat} : ∀ (l : List V) (o : List UInt8), (∀ u ∈ l, GoodD f u /\ NumOk u) -> o.length <= 2097175 + f -> (l.foldl (encF f) o).length <= 2097175 + f
  | [], o, _, h => h
  | u :: l, o, hl, h => encF_fold_len l _ (fun y hy => hl y (by simp [hy])) (encF_len f o u (hl u (by simp)).1 (hl u (by simp)).2 h)
theorem encF_list {f : Nat} {out : List UInt8} {v : V} (h : ¬ 1048576 < out.length) (hk : ¬ (v.kind = 1 \/ v.kind = 2)) : encF (f + 1) out v = v.items.foldl (encF f) (out ++ [108]) ++ [101] := by rw [encF, if_neg h, if_neg hk]
theorem encode_ref : ∀ (f : Nat) (S : Nat -> Prop) (v : Vl) (w : World) (B : Nat) (a : Option Addr) (n c : Nat) (out : List UInt8), f <= 64 -> GoodD f v.er -> Rd S w v -> (∀ b, S b -> b < B) -> OwnY w B a n c out -> n <= 2097175 + f -> B <= w.heap.size -> EnvB B w ->
    Calls Tryz.prog 124 #[.slice a n c, v.val] w (EncPost B a n c w (encF f out v.er))
  | f, S, .mk k nn t aa cc l, w, B, a, n, c, out, hf, hg, hrd, hS, ho, hn, hBw, hE => by
    have hlen := ho.1
    by_cases hM : 1048576 < n
    · have hr : encF f out (Vl.mk k nn t aa cc l).er = out := encF_full f out _ (by omega)
      rw [hr]
      have hb1 : Below w.heap.size w (w.alloc (.cells #[.int .i64 k, .int .i64 nn, .string t, .slice aa l.length cc] 24)) := (Below.refl _ _).alloc (Nat.le_refl _) _
      have hP : Hid (EncPost B a n c w out (.returned (.slice a n c)) (w.alloc (.cells #[.int .i64 k, .int .i64 nn, .string t, .slice aa l.length cc] 24))) := ⟨a, n, c, rfl, ho.below hb1, .of_below hb1 hBw⟩
      change Calls _ _ #[_, .agg #[.int .i64 k, .int .i64 nn, .string t, .slice aa l.length cc]] _ _
      clear hlen ho hE hg hrd hr
      go_enter Tryz.func124, Tryz.ntmps124
      go_wp2
      go_ret
      exact hP.out
    · by_cases hk : k = 1 \/ k = 2
      · exact encode_leaf S f B a n c out (.mk k nn t aa cc l) w (allV_items hg.2).1 hk hrd ho (by omega) hBw hE
      · have hker : (Vl.mk k nn t aa cc l).er.kind = k := by rw [Vl.er_kind]; rfl
        have h3 : k = 3 := by have := (singV_ok (allV_items hg.2).1).1; rw [hker] at this; omega
        subst h3
        cases f with
        | zero => exact absurd rfl hg.1
        | succ f =>
          have IH := hiq (fun (u : Vl) (W : World) (aj : Option Addr) (nj cj : Nat) (o : List UInt8) => encode_ref f S u W B aj nj cj o (by omega))
          have hr : encF (f + 1) out (Vl.mk 3 nn t aa cc l).er = (l.map Vl.er).foldl (encF f) (out ++ [108]) ++ [101] := by rw [encF_list (by omega) (by rw [hker]; omega), Vl.er_items]; rfl
          have hgi : Hid (∀ u ∈ l.map Vl.er, GoodD f u /\ NumOk u) := fun u hu => by
            rw [show l.map Vl.er = (Vl.mk 3 nn t aa cc l).er.items by rw [Vl.er_items]; rfl] at hu
            exact ⟨hg.items hker u hu, (rd_numOk _ hrd).items u hu⟩
          have hb1 : Below w.heap.size w (w.alloc (.cells #[.int .i64 3, .int .i64 nn, .string t, .slice aa l.length cc] 24)) := (Below.refl _ _).alloc (Nat.le_refl _) _
          have hs1 : (w.alloc (.cells #[.int .i64 3, .int .i64 nn, .string t, .slice aa l.length cc] 24)).heap.size = w.heap.size + 1 := by simp
          have x3 : (w.alloc (.cells #[.int .i64 3, .int .i64 nn, .string t, .slice aa l.length cc] 24)).cell? ⟨w.heap.size, 3, none⟩ = some (.slice aa l.length cc) := by rw [World.cell?_alloc_at _ _ _ _ rfl]; rfl
          have hbo : Oth a n c w.heap.size := fun e => by have := ho.lt _ e; omega
          have ho1 := ho.below hb1
          have hE1 := hE.below (hb1.mono hBw)
          have G0 : Grew B a n c w a n c (w.alloc (.cells #[.int .i64 3, .int .i64 nn, .string t, .slice aa l.length cc] 24)) := .of_below hb1 hBw
          have hv1 := (hrd.below hb1).vals
          change Vals S _ aa l.length cc l at hv1
          have hL := hv1.2.2.1
          have hl1 : Below (w.alloc (.cells #[.int .i64 3, .int .i64 nn, .string t, .slice aa l.length cc] 24)).heap.size (w.alloc (.cells #[.int .i64 3, .int .i64 nn, .string t, .slice aa l.length cc] 24)) ((w.alloc (.cells #[.int .i64 3, .int .i64 nn, .string t, .slice aa l.length cc] 24)).alloc (.cells #[.int .u8 (108 : UInt8).toNat] 5)) := (Below.refl _ _).alloc (Nat.le_refl _) _
          have hB1 : B <= (w.alloc (.cells #[.int .i64 3, .int .i64 nn, .string t, .slice aa l.length cc] 24)).heap.size := by omega
          rw [hr]
          have HS := hiq hS
          have HS1 := hiq hs1
          have HLEN := hiq hlen
          have X3 := hiq x3
          have hnM : n <= 1048576 := by omega
          have hfold : Hid (∀ j, (((l.map Vl.er).take j).foldl (encF f) (out ++ [108])).length <= 2097175 + f) := fun j => encF_fold_len _ _ (fun u hu => hgi.out u (List.take_subset _ _ hu)) (by rw [List.length_append]; simp; omega)
          change Calls _ _ #[_, .agg #[.int .i64 3, .int .i64 nn, .string t, .slice aa l.length cc]] _ _
          clear hlen ho hE hg hrd hr hk hker hS hs1 x3
          go_enter Tryz.func124, Tryz.ntmps124
          go_wp2_with (at_builtin; refine wpList_appY (y := 108) (w0 := (w.alloc (.cells #[.int .i64 3, .int .i64 nn, .string t, .slice aa l.length cc] 24)).alloc (.cells #[.int .u8 (108 : UInt8).toNat] 5)) rfl (.tmp 43) (.tmp 44) rfl rfl rfl (ho1.below hl1) (cell_lit1 _ _ _ (by simp)) (by omega) (by simp; omega) (Below.refl _ _) ?_; intro a1 c1 w1 o1 b1 g1 t1; have G1 : Grew B a n c (w.alloc (.cells #[.int .i64 3, .int .i64 nn, .string t, .slice aa l.length cc] 24)) a1 (n + 1) c1 w1 := (Grew.of_below hl1 hB1).trans (Grew.of_grown b1 g1 t1))
          generalize w.alloc (.cells #[.int .i64 3, .int .i64 nn, .string t, .slice aa l.length cc] 24) = W1 at *
          clear b1 g1 t1 hl1
          go_loopw [0, 5] (fun o i wr => ∃ (j : Nat) (aj : Option Addr) (nj cj : Nat), i = .int .i64 j /\ o = .slice aj nj cj /\ j <= l.length /\ OwnY wr B aj nj cj (((l.map Vl.er).take j).foldl (encF f) (out ++ [108])) /\ Grew B a n c W1 aj nj cj wr) (fun _ i _ => l.length - (intOf i).toNat)
          case atStart => exact ⟨0, a1, n + 1, c1, rfl, rfl, Nat.zero_le _, o1, G1⟩
          case round =>
            clear o1 G1
            obtain ⟨j, aj, nj, cj, rfl, rfl, hj, hoj, Gj⟩ := hrel
            have k3 := Gj.keep.cell (a := ⟨w.heap.size, 3, none⟩) hbo X3.out
            have hzj := Gj.keep.1
            have hnj : nj <= 2097175 + f := by rw [hoj.1]; exact hfold.out j
            by_cases hlj : j < l.length
            · obtain ⟨u, bb, off, hu, -, rfl, -, -, ⟨c1, c2, c3, c4⟩, hru⟩ := (hv1.keep (.belowB Gj.below hzj HS.out)).get hlj
              have hgu := hgi.out u.er (List.mem_map_of_mem (List.mem_of_getElem? hu))
              have F := IH.out u wr aj nj cj _ hgu.1 hru HS.out hoj hnj (by have := HS1.out; omega) (hE1.below Gj.below)
              have hst : Hid (((l.map Vl.er).take (j + 1)).foldl (encF f) (out ++ [108]) = encF f (((l.map Vl.er).take j).foldl (encF f) (out ++ [108])) u.er) := by
                show _ = _
                rw [take_er hu, List.foldl_append]; rfl
              obtain ⟨uk, un, ut, ua, uc, ul⟩ := u
              dsimp only [Vl.val, Vl.cells, Vl.kind, Vl.num, Vl.text, Vl.sl, Vl.addr, Vl.items, Vl.cap] at c1 c2 c3 c4 F
              have HF := hiq F
              clear F hru hu hoj hgu
              go_wp2_with (go_at_call 124; refine HF.out.mono ?_; rintro e w' ⟨a', n', c', rfl, o', G'⟩)
              go_roundw
              case rel => exact ⟨j + 1, a', n', c', by go_num, rfl, by omega, by rw [hst.out]; exact o', Gj.trans G'⟩
              case measure => simp [intOf]; omega
            · obtain rfl : j = l.length := by omega
              rw [List.take_of_length_le (by simp)] at hoj
              have hl9 : Below wr.heap.size wr (wr.alloc (.cells #[.int .u8 (101 : UInt8).toNat] 5)) := (Below.refl _ _).alloc (Nat.le_refl _) _
              have hBr : B <= wr.heap.size := by have := HS1.out; omega
              go_wp2_with (at_builtin; refine wpList_appY (y := 101) (w0 := wr.alloc (.cells #[.int .u8 (101 : UInt8).toNat] 5)) rfl (.tmp 60) (.tmp 61) rfl rfl rfl (hoj.below hl9) (cell_lit1 _ _ _ rfl) (by omega) (by simp; omega) (Below.refl _ _) ?_; intro a9 c9 w9 o9 b9 g9 t9; have G9 := Gj.trans ((Grew.of_below hl9 hBr).trans (Grew.of_grown b9 g9 t9)))
              go_ret
              exact ⟨a9, _, c9, rfl, o9, G0.trans G9⟩
termination_by f => f
end Go.Proofs.YtlbcmeebcfalpaaGreatDoor

namespace Go.Proofs.YtlbcmeebcfalpaaGreatDoor
open Go.RowKit Go.Shelf

/-- What Encode answers: the string, and the error. -/
def encB (v : V) : List UInt8 := if chkV v = 0 /\ (encV v).length <= 1048576 then encV v else []
def encE (v : V) : Int := if chkV v ≠ 0 then chkV v else if 1048576 < (encV v).length then 4 else 0
theorem chkV_good {v : V} (h : chkV v = 0) : GoodD 64 v := by
  unfold chkV at h
  have hm := measR_eq 64 65536 v
  split at h
  · cases h
  · rename_i hn
    refine ⟨fun e => hn (by rw [hm, e]), h⟩
theorem encode_R (S : Nat -> Prop) : ∀ (v : Vl) (w : World), Rd S w v -> (∀ b, S b -> b < w.heap.size) -> Env w ->
    Calls Tryz.prog 44 #[v.val] w fun e w' => e = .returned (.tuple #[.string ⟨(encB v.er).toArray⟩, .int .i64 (encE v.er)]) /\ Below w.heap.size w w'
  | .mk k nn t a c l, w, h, hS, hE => by
    have hB := boxed S w _ h
    have hBE := hB.below
    have hlt := hB.lt
    have F := check_ref S (Vl.mk k nn t a c l) _ hB.rd
    have A1 : Hid (GoodD 64 (Vl.mk k nn t a c l).er -> ∀ W, Below (w.alloc (.cells (Vl.mk k nn t a c l).cells 24)).heap.size (w.alloc (.cells (Vl.mk k nn t a c l).cells 24)) W -> Calls Tryz.prog 124 #[.slice none 0 0, .agg #[.int .i64 k, .int .i64 nn, .string t, .slice a l.length c]] W (EncPost w.heap.size none 0 0 W (encF 64 [] (Vl.mk k nn t a c l).er))) := fun hg W hb =>
      encode_ref 64 S (Vl.mk k nn t a c l) W w.heap.size none 0 0 [] (by omega) hg (hB.later hb).rd hS (OwnY.nil _ _) (by omega) (Nat.le_trans hlt hb.size) ((EnvB.of hE).below (hBE.trans (hb.mono hlt)))
    change Hid (_ -> ∀ W, Below (w.alloc (.cells #[.int .i64 k, .int .i64 nn, .string t, .slice a l.length c] 24)).heap.size (w.alloc (.cells #[.int .i64 k, .int .i64 nn, .string t, .slice a l.length c] 24)) W -> _) at A1
    change Boxed S w (w.alloc (.cells #[.int .i64 k, .int .i64 nn, .string t, .slice a l.length c] 24)) _ _ at hB
    change Below _ w (w.alloc (.cells #[.int .i64 k, .int .i64 nn, .string t, .slice a l.length c] 24)) at hBE
    change w.heap.size <= (w.alloc (.cells #[.int .i64 k, .int .i64 nn, .string t, .slice a l.length c] 24)).heap.size at hlt
    have HF := hiq F
    dsimp only [Vl.val, Vl.cells, Vl.kind, Vl.num, Vl.text, Vl.sl, Vl.addr, Vl.items, Vl.cap] at HF
    have hgood : Hid (chkV (Vl.mk k nn t a c l).er = 0 -> GoodD 64 (Vl.mk k nn t a c l).er) := chkV_good
    have henc : Hid (GoodD 64 (Vl.mk k nn t a c l).er -> NumOk (Vl.mk k nn t a c l).er -> _) := fun h1 h2 => (⟨encF_enc 64 [] (Vl.mk k nn t a c l).er h1 (by simp), encF_len 64 [] (Vl.mk k nn t a c l).er h1 h2 (by simp)⟩ : _ /\ _)
    have hnum := hiq (rd_numOk _ h)
    have hb0 : Hid (encB (Vl.mk k nn t a c l).er = if chkV (Vl.mk k nn t a c l).er = 0 /\ (encV (Vl.mk k nn t a c l).er).length <= 1048576 then encV (Vl.mk k nn t a c l).er else []) := rfl
    have he0 : Hid (encE (Vl.mk k nn t a c l).er = if chkV (Vl.mk k nn t a c l).er ≠ 0 then chkV (Vl.mk k nn t a c l).er else if 1048576 < (encV (Vl.mk k nn t a c l).er).length then 4 else 0) := rfl
    clear F h hS hE
    change Calls _ _ #[.agg #[.int .i64 k, .int .i64 nn, .string t, .slice a l.length c]] _ _
    generalize encB (Vl.mk k nn t a c l).er = RB at *
    generalize encE (Vl.mk k nn t a c l).er = RE at *
    generalize chkV (Vl.mk k nn t a c l).er = C at *
    by_cases hc : C = 0
    · subst hc
      have A2 := hiq (A1.out (hgood.out rfl))
      obtain ⟨⟨hx1, hx2⟩, hx3⟩ := henc.out (hgood.out rfl) hnum.out
      generalize encF 64 [] (Vl.mk k nn t a c l).er = X at *
      generalize encV (Vl.mk k nn t a c l).er = EV at *
      have HX1 := hiq hx1
      have HX2 := hiq hx2
      clear A1 hgood henc hnum hx1 hx2
      go_enter Tryz.func44, Tryz.ntmps44
      go_wp2_with fail
      generalize w.alloc (.cells #[.int .i64 k, .int .i64 nn, .string t, .slice a l.length c] 24) = W1 at *
      refine HF.out.mono ?_
      rintro e W2 ⟨rfl, hb2⟩
      have hB2 := hB.later hb2
      obtain ⟨c1, c2, c3, c4⟩ := hB2.at_
      change W2.cell? ⟨w.heap.size, 0, none⟩ = some (.int .i64 k) at c1
      change W2.cell? ⟨w.heap.size, 1, none⟩ = some (.int .i64 nn) at c2
      change W2.cell? ⟨w.heap.size, 2, none⟩ = some (.string t) at c3
      change W2.cell? ⟨w.heap.size, 3, none⟩ = some (.slice a l.length c) at c4
      have A3 := hiq (A2.out W2 hb2)
      have hbw2 := hB2.below
      have hsw2 := hB2.lt
      clear A2 hb2 hB2 hB HF hBE hlt
      go_wp2_with fail
      refine A3.out.mono ?_
      rintro e W3 ⟨a3, n3, c3', rfl, o3, G3⟩
      have hb3 := hbw2.trans G3.below
      have hn3 := o3.1
      have HN3 := hiq hn3
      clear hn3 A3
      by_cases hM : 1048576 < n3
      · have hlen : Hid (1048576 < EV.length) := by
          show _ < _
          rcases Nat.lt_or_ge 1048576 EV.length with e | e
          · exact e
          · have := HX1.out (by simpa using e)
            have h9 := HN3.out
            rw [this] at h9; simp at h9; omega
        have R1 : Hid (RB = [] /\ RE = 4) := ⟨by rw [hb0.out, if_neg (by have := hlen.out; omega)], by rw [he0.out, if_neg (by simp), if_pos hlen.out]⟩
        go_wp2
        go_ret2
        exact ⟨by rw [R1.out.1, R1.out.2]; rfl, hb3⟩
      · have hlen : EV.length <= 1048576 := by
          rcases Nat.lt_or_ge 1048576 EV.length with e | e
          · have := HX2.out (by simpa using e)
            have h9 := HN3.out
            omega
          · exact e
        have hXE : Hid (X = EV) := by show _ = _; rw [HX1.out (by simpa using hlen)]; rfl
        have R1 : Hid (RB = X /\ RE = 0) := ⟨by rw [hb0.out, hXE.out]; simp [hlen], by rw [he0.out]; simp; omega⟩
        have hconv : (convert 183 9 (.slice a3 n3 c3')).run Tryz.prog W3 = .ok (.string ⟨X.toArray⟩) W3 := by
          have h9 := o3.2
          have h8 := HN3.out
          rcases o3.2.2 with ⟨hv, h0⟩ | ⟨g, cap', cur, hv, _⟩
          · cases hv
            rw [List.eq_nil_of_length_eq_zero (l := X) (by omega)]
            exact Lib.run_convert_nil_bytes W3 183 9 5 0 Tryz.underlying183 Tryz.underlying5 Tryz.underlying9
          · cases hv
            subst h8
            refine run_convert_bytes_back W3 183 9 5 ⟨g, 0, none⟩ _ X Tryz.underlying183 Tryz.underlying5 Tryz.underlying9 ?_
            intro j hj
            exact h9.cells (g := g) rfl j _ (by simp [Lib.byteCells, hj])
        clear hlen
        go_wp2
        go_ret2
        exact ⟨by rw [R1.out.1, R1.out.2]; rfl, hb3⟩
    · have R1 : Hid (RB = [] /\ RE = C) := ⟨by rw [hb0.out, if_neg (fun h => hc h.1)], by rw [he0.out, if_pos hc]⟩
      have dc : ((C : Int) != 0) = true := by simp [hc]
      clear A1 hgood henc hnum hc hb0 he0
      go_enter Tryz.func44, Tryz.ntmps44
      go_wp2_with fail
      generalize w.alloc (.cells #[.int .i64 k, .int .i64 nn, .string t, .slice a l.length c] 24) = W1 at *
      refine HF.out.mono ?_
      rintro e W2 ⟨rfl, hb2⟩
      go_wp2
      go_ret2
      exact ⟨by rw [R1.out.1, R1.out.2]; rfl, hBE.trans (hb2.mono hlt)⟩
end Go.Proofs.YtlbcmeebcfalpaaGreatDoor
namespace Go.Proofs.YtlbcmeebcfalpaaGreatDoor
open Go.RowKit Go.Shelf

/-- Cells that are no bytes, outside of block b, stay. -/
def KeepT (b : Nat) (w w' : World) : Prop := w.heap.size <= w'.heap.size /\ ∀ x cs t fr, x ≠ b -> t ≠ 5 -> w.heap[x]? = some (.cells cs t fr) -> w'.heap[x]? = some (.cells cs t fr)
namespace KeepT
variable {b : Nat} {w w' w'' : World}
theorem refl (b : Nat) (w : World) : KeepT b w w := ⟨Nat.le_refl _, fun _ _ _ _ _ _ h => h⟩
theorem trans (h : KeepT b w w') (k : KeepT b w' w'') : KeepT b w w'' := ⟨Nat.le_trans h.1 k.1, fun x cs t fr h1 h2 hx => k.2 x cs t fr h1 h2 (h.2 x cs t fr h1 h2 hx)⟩
theorem below (h : Below w.heap.size w w') : KeepT b w w' := ⟨h.size, fun x cs t fr _ _ hx => by rw [h.block x (Array.getElem?_eq_some_iff.1 hx).1]; exact hx⟩
theorem setCell (w : World) (b j : Nat) (v : Value) : KeepT b w (w.setCell ⟨b, j, none⟩ v) :=
  ⟨by simp [World.setCell], fun x cs t fr h1 _ hx => by rw [Below.heap_setCell _ _ _ _ (by simpa using h1)]; exact hx⟩
theorem grown {B : Nat} {v : Value} {n : Nat} {xs : List Value} (hown : w.ownsRow B 5 1 v n xs) (hg : w.grownBy w' v.ownBlock) : KeepT b w w' :=
  ⟨hg.size, fun x cs t fr _ ht hx => by
    rw [hg.block x (Array.getElem?_eq_some_iff.1 hx).1 (fun e => ?_)]
    · exact hx
    · rcases hown.2 with ⟨rfl, _⟩ | ⟨g, c, cur, rfl, _, hgb, _⟩
      · cases e
      · cases e
        rw [hgb] at hx
        cases hx
        exact ht rfl⟩
end KeepT
theorem copyCheck_K (B b : Nat) (bs : List Value) (w : World) (h : Bld B b bs w) :
    Calls Tryz.prog 241 #[.pointer (some ⟨b, 0, none⟩)] w fun e w' => e = .returned (.tuple #[]) /\ (Lib.BuilderAt 265 5 B b (.pointer (some ⟨b, 0, none⟩)) bs w' /\ Below B w w' /\ KeepT b w w') := by
  rcases h with h | h
  · refine (copyCheck_fresh b w h.cell0 h.shape h.frozen0).mono ?_
    rintro e w' ⟨rfl, rfl⟩
    exact ⟨rfl, h.used _, (Below.refl B w).setCell (p := ⟨b, 0, none⟩) h.1 _, KeepT.setCell _ _ _ _⟩
  · refine (copyCheck_used b w h.cell0).mono ?_
    rintro e w' ⟨rfl, rfl⟩
    exact ⟨rfl, h, Below.refl B _, KeepT.refl _ _⟩
theorem writeString_K (B b : Nat) (bs : List Value) (s : ByteArray) (w : World) (h : Bld B b bs w) (hlen : bs.length + s.size <= 140737488355328) (hBw : B <= w.heap.size) :
    Calls Tryz.prog 197 #[.pointer (some ⟨b, 0, none⟩), .string s] w fun e w' => e = .returned (.tuple #[.int .i64 s.size, .nilIface]) /\ Bld B b (bs ++ Lib.strCells s) w' /\ Below B w w' /\ KeepT b w w' := by
  obtain ⟨i0, hi, hz0, hz1, hz2⟩ := info_parts Tryz.infoByte
  have F := hiq (copyCheck_K B b bs w h)
  go_enter Tryz.func197, Tryz.ntmps197
  go_wp2_with fail
  refine F.out.mono ?_
  rintro e w1 ⟨rfl, h1, hb1, hk1⟩
  obtain ⟨hB, v, hbk, hown, hne⟩ := h1
  have c0 : w1.cell? ⟨b, 0, none⟩ = some (.pointer (some ⟨b, 0, none⟩)) := by rw [Lib.cell_of_heap hbk]; rfl
  have c1 : w1.cell? ⟨b, 1, none⟩ = some v := by rw [Lib.cell_of_heap hbk]; rfl
  have HBK := hiq hbk
  clear hbk F
  go_wp2_with (at_builtin; refine Lib.wpList_append_own_string _ rfl _ _ 183 9 rfl B 5 i0 Tryz.underlying183 Tryz.underlying9 hi hz0 hz1 hz2 _ _ _ rfl hown s rfl ?c3 ?c4 ?c5 ?_)
  case c3 => unfold maxLen; omega
  case c4 => omega
  case c5 => have := hb1.size; omega
  intro v' w2 hown' hgrow _
  have hbk := HBK.out
  have hlt : b < w1.heap.size := (Array.getElem?_eq_some_iff.1 hbk).1
  have hb2 : w2.heap[b]? = some (.cells #[.pointer (some ⟨b, 0, none⟩), v] 265 (0, 0)) := by
    rw [hgrow.block b hlt (fun e => hne e.symm)]
    exact hbk
  have d0 : w2.cell? ⟨b, 0, none⟩ = some (.pointer (some ⟨b, 0, none⟩)) := by rw [Lib.cell_of_heap hb2]; rfl
  have d1 : w2.cell? ⟨b, 1, none⟩ = some v := by rw [Lib.cell_of_heap hb2]; rfl
  have f1 : w2.frozen? ⟨b, 1, none⟩ = false := Lib.frozen_of_heap hb2 1
  obtain ⟨ao, n', cap, rfl⟩ : ∃ ao n' cap, v' = .slice ao n' cap := by
    rcases hown'.2 with ⟨hv, _⟩ | ⟨g, cap, cur, hv, _⟩
    · exact ⟨_, _, _, hv⟩
    · exact ⟨_, _, _, hv⟩
  have HB2 := hiq hb2
  clear hb2 hbk
  go_wp2
  go_ret2
  refine ⟨rfl, .inr ?_, ?_, ?_⟩
  · exact Lib.BuilderAt.put (T := 265) (e := 5) hB HB2.out (bs' := bs ++ Lib.strCells s) (by simpa [Lib.strCells_length] using hown') (by decide)
  · exact (hb1.grown hgrow (by have := hb1.size; omega) (fun k hk => (hown.lt k hk).1)).setCell (p := ⟨b, 1, none⟩) hB _
  · exact (hk1.trans (KeepT.grown hown hgrow)).trans (KeepT.setCell _ _ _ _)
theorem writeByte_K (B b : Nat) (bs : List Value) (c : UInt8) (w : World) (h : Bld B b bs w) (hlen : bs.length + 1 <= 140737488355328) (hBw : B <= w.heap.size) :
    Calls Tryz.prog 200 #[.pointer (some ⟨b, 0, none⟩), .int .u8 c.toNat] w fun e w' => e = .returned (.nilIface) /\ Bld B b (bs ++ [.int .u8 c.toNat]) w' /\ Below B w w' /\ KeepT b w w' := by
  obtain ⟨i0, hi, hz0, hz1, hz2⟩ := info_parts Tryz.infoByte
  have F := hiq (copyCheck_K B b bs w h)
  go_enter Tryz.func200, Tryz.ntmps200
  go_wp2_with fail
  refine F.out.mono ?_
  rintro e w1 ⟨rfl, h1, hb1, hk1⟩
  obtain ⟨hB, v, hbk, hown, hne⟩ := h1
  have c0 : w1.cell? ⟨b, 0, none⟩ = some (.pointer (some ⟨b, 0, none⟩)) := by rw [Lib.cell_of_heap hbk]; rfl
  have c1 : w1.cell? ⟨b, 1, none⟩ = some v := by rw [Lib.cell_of_heap hbk]; rfl
  have HBK := hiq hbk
  clear hbk F
  go_wp2_with (at_builtin; refine wpList_append_own _ rfl _ _ 183 rfl B 5 i0 (.int .u8 0) 1 1 Tryz.underlying183 hi hz0 hz1 hz2 rfl (by decide) _ _ _ rfl (hown.alloc _) ⟨w1.heap.size, 0, none⟩ 1 1 [.int .u8 c.toNat] rfl rfl (cell_one_new _ _ _) (by simp [Value.oneCell']) ?c3 ?c4 ?c5 ?_)
  case c3 => unfold maxLen; omega
  case c4 => omega
  case c5 => have := hb1.size; simp; omega
  intro v' w2 hown' hgrow _
  have hbk := HBK.out
  have hlt : b < w1.heap.size := (Array.getElem?_eq_some_iff.1 hbk).1
  have hb2 : w2.heap[b]? = some (.cells #[.pointer (some ⟨b, 0, none⟩), v] 265 (0, 0)) := by
    rw [hgrow.block b (by simp; omega) (fun e => hne e.symm), Below.heap_alloc _ _ _ hlt]
    exact hbk
  have d0 : w2.cell? ⟨b, 0, none⟩ = some (.pointer (some ⟨b, 0, none⟩)) := by rw [Lib.cell_of_heap hb2]; rfl
  have d1 : w2.cell? ⟨b, 1, none⟩ = some v := by rw [Lib.cell_of_heap hb2]; rfl
  have f1 : w2.frozen? ⟨b, 1, none⟩ = false := Lib.frozen_of_heap hb2 1
  obtain ⟨ao, n', cap, rfl⟩ : ∃ ao n' cap, v' = .slice ao n' cap := by
    rcases hown'.2 with ⟨hv, _⟩ | ⟨g, cap, cur, hv, _⟩
    · exact ⟨_, _, _, hv⟩
    · exact ⟨_, _, _, hv⟩
  have HB2 := hiq hb2
  clear hb2 hbk
  go_wp2
  go_ret
  refine ⟨rfl, .inr ?_, ?_, ?_⟩
  · exact Lib.BuilderAt.put (T := 265) (e := 5) hB HB2.out (bs' := bs ++ [.int .u8 c.toNat]) (by simpa using hown') (by decide)
  · have hbs := hb1.size
    exact ((hb1.alloc (by omega) _).grown hgrow (by simp; omega) (fun k hk => (hown.lt k hk).1)).setCell (p := ⟨b, 1, none⟩) hB _
  · exact ((hk1.trans (KeepT.below ((Below.refl _ _).alloc (Nat.le_refl _) _))).trans (KeepT.grown (hown.alloc _) hgrow)).trans (KeepT.setCell _ _ _ _)
end Go.Proofs.YtlbcmeebcfalpaaGreatDoor
