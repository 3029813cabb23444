/- Joined: IAwk, IGre, IGrc. -/
import Derived.Test.YtlbcmeebcfalpaaGreatDoorP16
import Derived.Test.YtlbcmeebcfalpaaGreatDoorP22
import Derived.Test.YtlbcmeebcfalpaaGreatDoorP28
import Derived.Test.YtlbcmeebcfalpaaGreatDoorP14
set_option linter.unusedVariables false
set_option linter.unusedSimpArgs false
set_option maxRecDepth 100000
set_option maxHeartbeats 16000000
namespace Go.Proofs.YtlbcmeebcfalpaaGreatDoor
open Go.RowKit

/-- The example's edition; its lists lie in blocks p and q. -/
def oneEd (p q : Nat) : Dv := .struc [.text ⟨#[97]⟩, .list 2 40 (some ⟨q, 0, none⟩) 1 [.struc [.text ⟨#[65]⟩, .list 4 56 (some ⟨p, 0, none⟩) 1 [.struc [.int 1, .text ⟨#[100, 101]⟩, .int 0, .list 4 56 none 0 []]]]], .list 2 32 none 0 [], .struc [.int 0, .int 0, .int 0, .int 0], .list 5 72 none 0 [], .list 2 40 none 0 [], .list 2 40 none 0 [], .int 7, .list 5 104 none 0 [], .struc [.int 0, .int 0, .int 0, .int 0, .int 0, .int 0, .int 0, .int 0, .int 0, .int 0, .int 0, .list 1 1 none 0 [], .list 1 16 none 0 []]]
def oneV : V := (oneEd 0 0).toV
theorem oneEd_toV (p q : Nat) : (oneEd p q).toV = oneV := rfl
def pre1 : List UInt8 := [108, 115, 48, 58, 108, 101, 108, 101, 108, 105, 48, 59, 105, 48, 59, 105, 48, 59, 105, 48, 59, 101, 108, 101, 108, 101, 108, 101]
def pre2 : List UInt8 := [108, 115, 49, 58, 97, 108, 108, 115, 49, 58, 65, 108, 108, 105, 49, 59, 115, 50, 58, 100, 101, 105, 48, 59, 108, 101, 101, 101, 101, 101, 108, 101, 108, 105, 48, 59, 105, 48, 59, 105, 48, 59, 105, 48, 59, 101, 108, 101, 108, 101, 108, 101, 105, 55, 59, 108, 101]
theorem zero_enc : encE zeroEd.toV = 0 /\ Lib.hasPrefix (encB zeroEd.toV) pre1 = true := by decide +kernel
theorem one_enc : encE oneV = 0 /\ Lib.hasPrefix (encB oneV) pre2 = true := by decide +kernel
theorem one_zero : sameV oneV zeroEd.toV = false := by decide +kernel
theorem oneEd_has (p q : Nat) : Has tyEdition (oneEd p q) := by
  unfold oneEd
  repeat' first | exact .int _ | exact .text _ | exact .nil | refine .struc ?_ | refine .cons ?_ ?_ | refine .node ?_ | (refine .list fun d hd => ?_; first | (exact absurd hd List.not_mem_nil) | (obtain rfl := List.mem_singleton.1 hd))
theorem one_rd {S : Nat -> Prop} {V : World} {p q : Nat} (hp : S p) (hq : S q) (h1 : AtC V p 0 [.int .i64 1, .string ⟨#[100, 101]⟩, .int .i64 0, .slice none 0 0]) (h2 : AtC V q 0 [.string ⟨#[65]⟩, .slice (some ⟨p, 0, none⟩) 1 1]) : RdD S V (oneEd p q) := by
  have hi : ∀ n : Int, n = 0 \/ n = 1 \/ n = 7 -> I64 n := fun n h => by unfold I64; omega
  simp only [oneEd, RdD, RdDL, RdDI, List.length_nil, List.length_cons, and_true]
  simp [hi, ByteArray.size]
  exact ⟨⟨q, 0, ⟨rfl, rfl⟩, hq, h2⟩, ⟨p, 0, ⟨rfl, rfl⟩, hp, h1⟩⟩
theorem one_cells (p q : Nat) : (oneEd p q).cells = [.string ⟨#[97]⟩, .slice (some ⟨q, 0, none⟩) 1 1, .slice none 0 0, .int .i64 0, .int .i64 0, .int .i64 0, .int .i64 0, .slice none 0 0, .slice none 0 0, .slice none 0 0, .int .i64 7, .slice none 0 0, .int .i64 0, .int .i64 0, .int .i64 0, .int .i64 0, .int .i64 0, .int .i64 0, .int .i64 0, .int .i64 0, .int .i64 0, .int .i64 0, .int .i64 0, .slice none 0 0, .slice none 0 0] := by simp [oneEd, Dv.cells, Dv.cellsL]
theorem one_num : NumOk oneV := by
  have h0 : ∀ {n : Int}, n = 0 \/ n = 1 \/ n = 7 -> -9223372036854775808 <= n /\ n <= 9223372036854775807 := fun h => by omega
  unfold oneV oneEd
  simp only [Dv.toV, Dv.toVL]
  repeat' first | exact h0 (by decide) | refine .mk (h0 (by decide)) (fun u hu => ?_) | exact absurd hu List.not_mem_nil | (rcases List.mem_cons.1 hu with rfl | hu)
/-- Where the example lies: node, witness, edition. -/
structure OneIn (w : World) (p : Nat) (V : World) : Prop where
  below : Below w.heap.size w V
  le : w.heap.size <= p
  nod : V.heap[p]? = some (.cells #[.int .i64 1, .string ⟨#[100, 101]⟩, .int .i64 0, .slice none 0 0] 64 (0, 0))
  wit : V.heap[p + 1]? = some (.cells #[.string ⟨#[65]⟩, .slice (some ⟨p, 0, none⟩) 1 1] 66 (0, 0))
  box : V.heap[p + 2]? = some (.cells (oneEd p (p + 1)).cells.toArray 40 (0, 0))
theorem OneIn.next {w V V' : World} {p : Nat} (h : OneIn w p V) (hb : Below V.heap.size V V') : OneIn w p V' :=
  ⟨h.below.trans (hb.mono h.below.size), h.le, (hb.block _ (Array.getElem?_eq_some_iff.1 h.nod).1).trans h.nod, (hb.block _ (Array.getElem?_eq_some_iff.1 h.wit).1).trans h.wit, (hb.block _ (Array.getElem?_eq_some_iff.1 h.box).1).trans h.box⟩
theorem box_at {w : World} {b : Nat} {cs : List Value} {t : TypeId} {fr : Nat × Nat} (h : w.heap[b]? = some (.cells cs.toArray t fr)) : AtC w b 0 cs := fun i x hx => by
  rw [Nat.zero_add]; exact cell_box h i (by simpa using hx)
theorem OneIn.rd {w V : World} {p : Nat} (h : OneIn w p V) : RdD (fun b => b < V.heap.size) V (oneEd p (p + 1)) :=
  one_rd (Array.getElem?_eq_some_iff.1 h.nod).1 (Array.getElem?_eq_some_iff.1 h.wit).1 (box_at (cs := [.int .i64 1, .string ⟨#[100, 101]⟩, .int .i64 0, .slice none 0 0]) h.nod) (box_at (cs := [.string ⟨#[65]⟩, .slice (some ⟨p, 0, none⟩) 1 1]) h.wit)
theorem one_val (p q : Nat) : (oneEd p q).val = .agg (oneEd p q).cells.toArray := (LT.len .edi (oneEd_has p q)).2.2.2 rfl
theorem zero_val : zeroEd.val = .agg (LT.zero .edi).toArray := by rw [(LT.len .edi zeroEd_has).2.2.2 rfl, zeroEd_cells]
/-- What the example's walk needs of the functions that it calls. -/
structure AwkF (w : World) (ZB OB : List UInt8) : Prop where
  z : Lib.hasPrefix ZB pre1 = true
  o : Lib.hasPrefix OB pre2 = true
  p0 : ∀ V, Below w.heap.size w V -> Calls Tryz.prog 16 #[.agg (LT.zero .edi).toArray] V fun e V' => e = .returned (.tuple #[.string ⟨ZB.toArray⟩, .int .i64 0]) /\ Below V.heap.size V V'
  p1 : ∀ V p, OneIn w p V -> Calls Tryz.prog 16 #[.agg (oneEd p (p + 1)).cells.toArray] V fun e V' => e = .returned (.tuple #[.string ⟨OB.toArray⟩, .int .i64 0]) /\ Below V.heap.size V V'
  pa : ∀ V, Below w.heap.size w V -> Calls Tryz.prog 11 #[.string ⟨OB.toArray⟩] V fun e V' => ∃ d : Dv, e = .returned (.tuple #[.agg d.cells.toArray, .int .i64 0]) /\ Has tyEdition d /\ RdD (NewB V V') V' d /\ d.toV = oneV /\ Below V.heap.size V V'
  s : ∀ V p d S, OneIn w p V -> Has tyEdition d -> RdD S V d -> (∀ b, S b -> b < V.heap.size) -> d.toV = oneV -> (Calls Tryz.prog 15 #[.agg d.cells.toArray, .agg (oneEd p (p + 1)).cells.toArray] V fun e V' => e = .returned (.bool true) /\ Below V.heap.size V V') /\ Calls Tryz.prog 18 #[.agg d.cells.toArray, .agg (oneEd p (p + 1)).cells.toArray] V fun e V' => e = .returned (.bool true) /\ Below V.heap.size V V'
  sz : ∀ V p, OneIn w p V -> Calls Tryz.prog 18 #[.agg (oneEd p (p + 1)).cells.toArray, .agg (LT.zero .edi).toArray] V fun e V' => e = .returned (.bool false) /\ Below V.heap.size V V'
theorem awkF {w : World} (hE : Env w) : ∃ ZB OB, AwkF w ZB OB := by
  obtain ⟨z1, z2⟩ := zero_enc
  obtain ⟨o1, o2⟩ := one_enc
  have hsz := sm_chk (d := zeroEd) (encE_ok z1).1
  have hso : ∀ p q, Sm (oneEd p q) := fun p q => sm_chk (d := oneEd p q) (by rw [oneEd_toV]; exact (encE_ok o1).1)
  refine ⟨_, _, z2, o2, fun V hV => ?_, fun V p h => ?_, fun V hV => ?_, fun V p d S h hT hr hS hv => ⟨?_, ?_⟩, fun V p h => ?_⟩
  · have := print_any zeroEd_has hsz (zeroEd_rd (fun _ => False) V) (fun b h => h.elim) (hE.below hV)
    unfold PrtP prtE at this
    rw [z1, zero_val] at this
    exact this
  · have := print_any (oneEd_has p (p + 1)) (hso _ _) h.rd (fun b h => h) (hE.below h.below)
    unfold PrtP prtE at this
    rw [oneEd_toV, o1, one_val] at this
    exact this
  · have hl := (encE_ok o1).2.1
    have he := (encE_ok o1).2.2
    have hn : NumOk oneV := one_num
    refine (parse_any ⟨(encB oneV).toArray⟩ (by show (encB oneV).toArray.size <= _; simp; rw [he]; omega) V (hE.below hV)).mono ?_
    rintro e V' ⟨d, err, he2, hT, hrd, hb, hor⟩
    have hd : decode (encB oneV) = (oneV, 0) := by rw [he]; exact decode_enc (encE_ok o1).1 hn hl
    have e1 : (⟨(encB oneV).toArray⟩ : ByteArray).data.toList = encB oneV := by simp
    rw [e1, hd] at hor
    rcases hor with ⟨h0, -⟩ | ⟨-, ⟨rfl, -, -, hv⟩ | ⟨-, hno, -⟩⟩
    · exact absurd rfl h0
    · exact ⟨d, he2, hT, hrd, hv, hb⟩
    · exact absurd ⟨(encE_ok o1).1, fit_toV (oneEd_has 0 0)⟩ hno
  · have := Same_ref hT (oneEd_has p (p + 1)) hr h.rd
    unfold SmeP at this
    rw [oneEd_toV, hv, sameV_true rfl, one_val, (LT.len .edi hT).2.2.2 rfl] at this
    exact this
  · have := sameE_any hT (oneEd_has p (p + 1)) (sm_chk (by rw [hv]; exact (encE_ok o1).1)) (hso _ _) hr h.rd hS (fun b h => h)
    rw [oneEd_toV, hv, sameV_true rfl, one_val, (LT.len .edi hT).2.2.2 rfl] at this
    exact this
  · have := sameE_any (oneEd_has p (p + 1)) zeroEd_has (hso _ _) hsz h.rd (zeroEd_rd (fun _ => False) V) (fun b h => h) (fun b h => h.elim)
    rw [oneEd_toV, one_zero, one_val, zero_val] at this
    exact this
end Go.Proofs.YtlbcmeebcfalpaaGreatDoor
namespace Go.Proofs.YtlbcmeebcfalpaaGreatDoor
open Go.RowKit

/-- The counter. -/
def Pts (w : World) (b : Nat) (left : Int) : Prop := w.heap[b]? = some (.cells #[.int .i64 left] 82 (0, 0))
abbrev One (b : Nat) : Nat -> Prop := fun x => x = b
theorem Pts.cells {w : World} {b : Nat} {left : Int} (h : Pts w b left) : w.cell? ⟨b, 0, none⟩ = some (.int .i64 left) /\ w.frozen? ⟨b, 0, none⟩ = false := ⟨cell_box h 0 rfl, frozen_box h 0⟩
/-- The counter goes down, but not far below; where it stays up, P. -/
def CntP (b : Nat) (left : Int) (P : Prop) (w : World) (e : Ending) (w' : World) : Prop :=
  e = .returned (.tuple #[]) /\ ∃ left' : Int, Pts w' b left' /\ left' <= left /\ -5000 <= left' /\ (0 <= left' -> 0 <= left /\ P) /\ Exc (One b) w w'
theorem add_any (b : Nat) (left : Int) (n : Nat) (w : World) (hp : Pts w b left) (h0 : -5000 <= left) (h1 : left <= 4000) (hn : (n : Int) <= 9223372036854775807) : Calls Tryz.prog 39 #[.pointer (some ⟨b, 0, none⟩), .int .i64 (n : Int)] w (CntP b left (n <= 4000) w) := by
  obtain ⟨x0, f0⟩ := hp.cells
  have HP := hiq hp
  clear hp
  by_cases hl : 0 <= left
  · go_enter Tryz.func39, Tryz.ntmps39
    go_wp2
    go_end0
    exact ⟨rfl, left - min (n : Int) 5000, heap_setCell_at HP.out _, by omega, by omega, fun h => ⟨hl, by omega⟩, Exc.setCell (N := One b) w rfl _⟩
  · go_enter Tryz.func39, Tryz.ntmps39
    go_wp2
    go_end0
    exact ⟨rfl, left, HP.out, Int.le_refl _, h0, fun h => absurd h (by omega), Exc.refl _ _⟩
theorem Exc.items {b : Nat} {S : Nat -> Prop} {w w' : World} {k s : Nat} {a : Option Addr} {n c : Nat} {l : List Dv} (h : Exc (One b) w w') (hi : Items S w k s a n c l) (hS : ∀ x, S x -> x ≠ b) : Items S w' k s a n c l := hi.keep (h.keepS fun x hx hn => hS x hx hn)
theorem nodes_any : ∀ (N : Nat) (l : List Dv), SizeOf.sizeOf l <= N -> ∀ (hl : ∀ d ∈ l, Has .node d) (S : Nat -> Prop) (a : Option Addr) (n c : Nat) (w : World) (hi : Items S w 4 56 a n c l) (b : Nat) (left : Int) (hp : Pts w b left) (h0 : -5000 <= left) (h1 : left <= 4000) (hS : ∀ x, S x -> x ≠ b), Calls Tryz.prog 40 #[.pointer (some ⟨b, 0, none⟩), .slice a n c] w (CntP b left (l.length <= 4000 /\ ∀ x ∈ l, Sm x) w) := by
  intro N
  induction N with
  | zero => intro l h; have : 0 < SizeOf.sizeOf l := by { cases l <;> simp <;> omega }; omega
  | succ N IHN =>
  intro l hsz hl S a n c w hi b left hp h0 h1 hS
  have hn := hi.1
  have hn2 := hi.2.2.1
  have HA := hiq (add_any b left n w hp h0 h1 (by omega))
  have HI := hiq hi
  have HS := hiq hS
  have HH0 := hiq h0
  have HN := hiq hn
  have IH : Hid (∀ (j : Nat) (y0 y1 y2 : Dv) (ya : Option Addr) (yc : Nat) (yl : List Dv), l[j]? = some (.struc [y0, y1, y2, .list 4 56 ya yc yl]) -> (∀ d ∈ yl, Has .node d) -> ∀ (w : World) (left : Int), Items S w 4 56 ya yl.length yc yl -> Pts w b left -> -5000 <= left -> left <= 4000 -> Calls Tryz.prog 40 #[.pointer (some ⟨b, 0, none⟩), .slice ya yl.length yc] w (CntP b left (yl.length <= 4000 /\ ∀ x ∈ yl, Sm x) w)) := fun j y0 y1 y2 ya yc yl hj hty w left hi hp h0 h1 =>
    IHN yl (by have := List.sizeOf_lt_of_mem (List.mem_of_getElem? hj); simp at this; omega) hty S ya yl.length yc w hi b left hp h0 h1 hS
  clear hi hp hS hn
  go_enter Tryz.func40, Tryz.ntmps40
  go_wp2_with fail
  refine HA.out.mono ?_
  rintro e W1 ⟨rfl, left1, hp1, hle1, hlo1, hP1, hE1⟩
  have HP1 := hiq hP1
  have HE1 := hiq hE1
  go_wp2_with fail
  go_loopw [4] (fun i wr => ∃ (j : Nat) (lf : Int), i = .int .i64 (j : Int) /\ j <= n /\ Pts wr b lf /\ lf <= left1 /\ -5000 <= lf /\ Hid (0 <= lf -> ∀ k d, k < j -> l[k]? = some d -> Sm d) /\ Exc (One b) w wr) (fun i _ => n - (intOf i).toNat)
  case atStart => exact ⟨0, left1, rfl, Nat.zero_le _, hp1, Int.le_refl _, hlo1, (fun _ k d hk => by omega), HE1.out⟩
  case round =>
    obtain ⟨j, lf, rfl, hj, hpw, hlf, hlo, hsm, hE⟩ := hrel
    obtain ⟨x0, f0⟩ := hpw.cells
    by_cases hjn : j < n
    · by_cases h0 : 0 <= lf
      · obtain ⟨d, bb, off, hd, hmem, rfl, hSb, hat, hrd⟩ := (hE.items HI.out HS.out).get hjn
        obtain ⟨y0, y1, y2, ya, yc, yl, rfl, hyl⟩ := inv_Node (hl _ hmem).node_inv
        have x3 := hat 3 _ rfl
        have hrl := rdD_list.1 (rdD_struc.1 hrd _ (List.mem_of_getElem? (i := 3) rfl))
        have HM := hiq (IH.out j _ _ _ _ _ _ hd hyl wr lf hrl hpw hlo (by omega))
        have HE := hiq hE
        have HSM := hiq (hsm.out h0)
        have HD := hiq hd
        clear hat hrd hrl hE hsm hmem hd
        go_wp2_with fail
        refine HM.out.mono ?_
        rintro e w2 ⟨rfl, lf2, hp2, hle2, hlo2, hP2, hE2⟩
        have HP2 := hiq hP2
        have HE2 := hiq hE2
        clear hP2 hE2 HM
        go_wp2_with fail
        go_roundw
        case rel =>
          refine ⟨j + 1, lf2, by go_num, by omega, hp2, by omega, hlo2, fun h k d hk hd' => ?_, HE.out.trans HE2.out⟩
          obtain ⟨-, hyn, hys⟩ := HP2.out h
          by_cases hkj : k < j
          · exact HSM.out k d hkj hd'
          · obtain rfl : k = j := by omega
            rw [HD.out] at hd'
            cases hd'
            refine sm_struc.2 fun x hx => ?_
            simp only [List.mem_cons, List.not_mem_nil, or_false] at hx
            rcases hx with rfl | rfl | rfl | rfl
            · trivial
            · trivial
            · trivial
            · exact sm_list.2 ⟨by omega, hys⟩
        case measure => simp [intOf]; omega
      · go_wp2_with fail
        go_end0
        exact ⟨rfl, lf, hpw, by omega, hlo, fun h => absurd h (by omega), hE⟩
    · obtain rfl : j = n := by omega
      go_wp2_with fail
      go_end0
      refine ⟨rfl, lf, hpw, by omega, hlo, fun h => ?_, hE⟩
      have h2 := HP1.out (by omega)
      refine ⟨h2.1, by rw [<- HN.out]; exact h2.2, fun x hx => ?_⟩
      obtain ⟨k, hk⟩ := List.mem_iff_getElem?.1 hx
      exact hsm.out h k x (by rw [HN.out]; exact (List.getElem?_eq_some_iff.1 hk).1) hk
theorem exprs_any : ∀ (N : Nat) (l : List Dv), SizeOf.sizeOf l <= N -> ∀ (hl : ∀ d ∈ l, Has .expr d) (S : Nat -> Prop) (a : Option Addr) (n c : Nat) (w : World) (hi : Items S w 4 56 a n c l) (b : Nat) (left : Int) (hp : Pts w b left) (h0 : -5000 <= left) (h1 : left <= 4000) (hS : ∀ x, S x -> x ≠ b), Calls Tryz.prog 112 #[.pointer (some ⟨b, 0, none⟩), .slice a n c] w (CntP b left (l.length <= 4000 /\ ∀ x ∈ l, Sm x) w) := by
  intro N
  induction N with
  | zero => intro l h; have : 0 < SizeOf.sizeOf l := by { cases l <;> simp <;> omega }; omega
  | succ N IHN =>
  intro l hsz hl S a n c w hi b left hp h0 h1 hS
  have hn := hi.1
  have hn2 := hi.2.2.1
  have HA := hiq (add_any b left n w hp h0 h1 (by omega))
  have HI := hiq hi
  have HS := hiq hS
  have HH0 := hiq h0
  have HN := hiq hn
  have IH : Hid (∀ (j : Nat) (y0 y1 y2 : Dv) (ya : Option Addr) (yc : Nat) (yl : List Dv), l[j]? = some (.struc [y0, y1, y2, .list 4 56 ya yc yl]) -> (∀ d ∈ yl, Has .expr d) -> ∀ (w : World) (left : Int), Items S w 4 56 ya yl.length yc yl -> Pts w b left -> -5000 <= left -> left <= 4000 -> Calls Tryz.prog 112 #[.pointer (some ⟨b, 0, none⟩), .slice ya yl.length yc] w (CntP b left (yl.length <= 4000 /\ ∀ x ∈ yl, Sm x) w)) := fun j y0 y1 y2 ya yc yl hj hty w left hi hp h0 h1 =>
    IHN yl (by have := List.sizeOf_lt_of_mem (List.mem_of_getElem? hj); simp at this; omega) hty S ya yl.length yc w hi b left hp h0 h1 hS
  clear hi hp hS hn
  go_enter Tryz.func112, Tryz.ntmps112
  go_wp2_with fail
  refine HA.out.mono ?_
  rintro e W1 ⟨rfl, left1, hp1, hle1, hlo1, hP1, hE1⟩
  have HP1 := hiq hP1
  have HE1 := hiq hE1
  go_wp2_with fail
  go_loopw [4] (fun i wr => ∃ (j : Nat) (lf : Int), i = .int .i64 (j : Int) /\ j <= n /\ Pts wr b lf /\ lf <= left1 /\ -5000 <= lf /\ Hid (0 <= lf -> ∀ k d, k < j -> l[k]? = some d -> Sm d) /\ Exc (One b) w wr) (fun i _ => n - (intOf i).toNat)
  case atStart => exact ⟨0, left1, rfl, Nat.zero_le _, hp1, Int.le_refl _, hlo1, (fun _ k d hk => by omega), HE1.out⟩
  case round =>
    obtain ⟨j, lf, rfl, hj, hpw, hlf, hlo, hsm, hE⟩ := hrel
    obtain ⟨x0, f0⟩ := hpw.cells
    by_cases hjn : j < n
    · by_cases h0 : 0 <= lf
      · obtain ⟨d, bb, off, hd, hmem, rfl, hSb, hat, hrd⟩ := (hE.items HI.out HS.out).get hjn
        obtain ⟨y0, y1, y2, ya, yc, yl, rfl, hyl⟩ := inv_Expr (hl _ hmem).expr_inv
        have x3 := hat 3 _ rfl
        have hrl := rdD_list.1 (rdD_struc.1 hrd _ (List.mem_of_getElem? (i := 3) rfl))
        have HM := hiq (IH.out j _ _ _ _ _ _ hd hyl wr lf hrl hpw hlo (by omega))
        have HE := hiq hE
        have HSM := hiq (hsm.out h0)
        have HD := hiq hd
        clear hat hrd hrl hE hsm hmem hd
        go_wp2_with fail
        refine HM.out.mono ?_
        rintro e w2 ⟨rfl, lf2, hp2, hle2, hlo2, hP2, hE2⟩
        have HP2 := hiq hP2
        have HE2 := hiq hE2
        clear hP2 hE2 HM
        go_wp2_with fail
        go_roundw
        case rel =>
          refine ⟨j + 1, lf2, by go_num, by omega, hp2, by omega, hlo2, fun h k d hk hd' => ?_, HE.out.trans HE2.out⟩
          obtain ⟨-, hyn, hys⟩ := HP2.out h
          by_cases hkj : k < j
          · exact HSM.out k d hkj hd'
          · obtain rfl : k = j := by omega
            rw [HD.out] at hd'
            cases hd'
            refine sm_struc.2 fun x hx => ?_
            simp only [List.mem_cons, List.not_mem_nil, or_false] at hx
            rcases hx with rfl | rfl | rfl | rfl
            · trivial
            · trivial
            · trivial
            · exact sm_list.2 ⟨by omega, hys⟩
        case measure => simp [intOf]; omega
      · go_wp2_with fail
        go_end0
        exact ⟨rfl, lf, hpw, by omega, hlo, fun h => absurd h (by omega), hE⟩
    · obtain rfl : j = n := by omega
      go_wp2_with fail
      go_end0
      refine ⟨rfl, lf, hpw, by omega, hlo, fun h => ?_, hE⟩
      have h2 := HP1.out (by omega)
      refine ⟨h2.1, by rw [<- HN.out]; exact h2.2, fun x hx => ?_⟩
      obtain ⟨k, hk⟩ := List.mem_iff_getElem?.1 hx
      exact hsm.out h k x (by rw [HN.out]; exact (List.getElem?_eq_some_iff.1 hk).1) hk
end Go.Proofs.YtlbcmeebcfalpaaGreatDoor
namespace Go.Proofs.YtlbcmeebcfalpaaGreatDoor
open Go.RowKit

theorem items_one {S : Nat -> Prop} {w : World} {d : Dv} {k s : Nat} {t : TypeId} (hr : RdD S w d) (hs : s <= 140737488355328) : Items (fun x => S x \/ x = w.heap.size) (w.alloc (.cells d.cells.toArray t)) k s (some ⟨w.heap.size, 0, none⟩) 1 1 [d] := by
  refine ⟨rfl, Nat.le_refl _, by omega, fun j x hj => ?_⟩
  cases j with
  | zero =>
    simp at hj; subst hj
    refine ⟨⟨w.heap.size, 0, rfl, .inr rfl, fun i x hx => ?_⟩, (hr.below ((Below.refl _ _).alloc (Nat.le_refl _) _)).mono fun b hb => .inl hb⟩
    rw [Nat.zero_mul, Nat.add_zero, Nat.zero_add]
    exact cell_box (World.alloc_heap_new w _) i (by simpa using hx)
  | succ j => simp at hj
/-- A list whose elements were all looked at. -/
abbrev LSm (l : List Dv) : Prop := l.length <= 4000 /\ ∀ x ∈ l, Sm x
/-- A string and a list of numbers. -/
theorem sm_textInts {z0 : ByteArray} {k s : Nat} {a : Option Addr} {c : Nat} {l : List Dv} (h : l.length <= 4000) (hl : ∀ x ∈ l, Has .int x) : Sm (.struc [.text z0, .list k s a c l]) := by
  refine sm_struc.2 fun x hx => ?_
  simp only [List.mem_cons, List.not_mem_nil, or_false] at hx
  rcases hx with rfl | rfl
  · trivial
  · exact sm_list.2 ⟨by omega, fun y hy => by obtain ⟨n, rfl⟩ := (hl y hy).int_inv; trivial⟩
theorem common_any (S : Nat -> Prop) (w : World) (b : Nat) (left : Int) (hp : Pts w b left) (h0 : -5000 <= left) (h1 : left <= 4000) (hS : ∀ x, S x -> x ≠ b)
    (a1 : Option Addr) (n1 c1 : Nat) (l1 : List Dv) (i1 : Items S w 5 72 a1 n1 c1 l1) (t1 : ∀ d ∈ l1, Has tyRule d)
    (a2 : Option Addr) (n2 c2 : Nat) (l2 : List Dv) (i2 : Items S w 2 40 a2 n2 c2 l2) (t2 : ∀ d ∈ l2, Has tyGroup d)
    (a3 : Option Addr) (n3 c3 : Nat) (l3 : List Dv) (i3 : Items S w 2 40 a3 n3 c3 l3) (t3 : ∀ d ∈ l3, Has tyPattern d)
    (y0 y1 y2 y3 y4 y5 y6 y7 y8 y9 y10 : Int) (pa la : Option Addr) (pn pc ln lc : Nat) (hpn : pn <= 140737488355328) (hln : ln <= 140737488355328) :
    Calls Tryz.prog 41 #[.pointer (some ⟨b, 0, none⟩), .slice a1 n1 c1, .slice a2 n2 c2, .slice a3 n3 c3, .agg #[.int .i64 y0, .int .i64 y1, .int .i64 y2, .int .i64 y3, .int .i64 y4, .int .i64 y5, .int .i64 y6, .int .i64 y7, .int .i64 y8, .int .i64 y9, .int .i64 y10, .slice pa pn pc, .slice la ln lc]] w (CntP b left (LSm l1 /\ LSm l2 /\ LSm l3 /\ pn <= 4000 /\ ln <= 4000) w) := by
  have hb1 : Below w.heap.size w (w.alloc (.cells #[.int .i64 y0, .int .i64 y1, .int .i64 y2, .int .i64 y3, .int .i64 y4, .int .i64 y5, .int .i64 y6, .int .i64 y7, .int .i64 y8, .int .i64 y9, .int .i64 y10, .slice pa pn pc, .slice la ln lc] 38)) := (Below.refl _ _).alloc (Nat.le_refl _) _
  have hbz : b < w.heap.size := (Array.getElem?_eq_some_iff.1 hp).1
  have hp1 : Pts (w.alloc (.cells #[.int .i64 y0, .int .i64 y1, .int .i64 y2, .int .i64 y3, .int .i64 y4, .int .i64 y5, .int .i64 y6, .int .i64 y7, .int .i64 y8, .int .i64 y9, .int .i64 y10, .slice pa pn pc, .slice la ln lc] 38)) b left := (hb1.block b hbz).trans hp
  have hsty := World.alloc_heap_new w (.cells #[.int .i64 y0, .int .i64 y1, .int .i64 y2, .int .i64 y3, .int .i64 y4, .int .i64 y5, .int .i64 y6, .int .i64 y7, .int .i64 y8, .int .i64 y9, .int .i64 y10, .slice pa pn pc, .slice la ln lc] 38)
  have hs1 : (w.alloc (.cells #[.int .i64 y0, .int .i64 y1, .int .i64 y2, .int .i64 y3, .int .i64 y4, .int .i64 y5, .int .i64 y6, .int .i64 y7, .int .i64 y8, .int .i64 y9, .int .i64 y10, .slice pa pn pc, .slice la ln lc] 38)).heap.size = w.heap.size + 1 := by simp
  have m1 := i1.2.2.1
  have m2 := i2.2.2.1
  have m3 := i3.2.2.1
  have HA := hiq (add_any b left n1 (w.alloc (.cells #[.int .i64 y0, .int .i64 y1, .int .i64 y2, .int .i64 y3, .int .i64 y4, .int .i64 y5, .int .i64 y6, .int .i64 y7, .int .i64 y8, .int .i64 y9, .int .i64 y10, .slice pa pn pc, .slice la ln lc] 38)) hp1 h0 h1 (by omega))
  have HI1 := hiq (i1.below hb1)
  have HI2 := hiq (i2.below hb1)
  have HI3 := hiq (i3.below hb1)
  have HS := hiq hS
  have HB := hiq hb1
  have HST := hiq hsty
  have HBZ := hiq hbz
  have HS1 := hiq hs1
  have HT1 := hiq t1
  have HT2 := hiq t2
  have HT3 := hiq t3
  clear hp hp1 hb1 hsty hs1 i1 i2 i3 hS t1 t2 t3 h0
  go_enter Tryz.func41, Tryz.ntmps41
  go_wp2_with fail
  refine HA.out.mono ?_
  generalize World.alloc _ _ = W0 at *
  rintro e W1 ⟨rfl, lf1, hp1, hle1, hlo1, hP1, hE1⟩
  have HP1 := hiq hP1
  have HE1 := hiq hE1
  clear hP1 hE1 HA
  go_wp2_with fail
  go_loopw [10] (fun i wr => ∃ (j : Nat) (lf : Int), i = .int .i64 (j : Int) /\ j <= n1 /\ Pts wr b lf /\ lf <= lf1 /\ -5000 <= lf /\ Hid (0 <= lf -> ∀ k d, k < j -> l1[k]? = some d -> Sm d) /\ Exc (One b) W0 wr) (fun i _ => n1 - (intOf i).toNat)
  case atStart => exact ⟨0, lf1, rfl, Nat.zero_le _, hp1, Int.le_refl _, hlo1, (fun _ k d hk => by omega), HE1.out⟩
  case round =>
    obtain ⟨j, lf, rfl, hj, hpw, hlf, hlo, hsm, hE⟩ := hrel
    obtain ⟨x0, f0⟩ := hpw.cells
    by_cases hjn : j < n1 /\ 0 <= lf
    · obtain ⟨hjn, h0⟩ := hjn
      obtain ⟨d, bb, off, hd, hmem, rfl, hSb, hat, hrd⟩ := (hE.items HI1.out HS.out).get hjn
      obtain ⟨z0, z1, z2, z3, za, zc, zl, rfl, hzl⟩ := inv_Rule (HT1.out _ hmem)
      have x1 := hat 1 _ rfl
      have x2 := hat 2 _ rfl
      have x3 := hat 3 _ rfl
      have x4 := hat 4 _ rfl
      have hrw := rdD_struc.1 hrd _ (List.mem_of_getElem? (i := 1) rfl)
      have hio := items_one (k := 4) (s := 56) (t := 113) hrw (by omega)
      have hwb : b < wr.heap.size := (Array.getElem?_eq_some_iff.1 hpw).1
      have hbl : Below wr.heap.size wr (wr.alloc (.cells (Dv.struc [.int z1, .int z2, .text z3, .list 4 56 za zc zl]).cells.toArray 113)) := (Below.refl _ _).alloc (Nat.le_refl _) _
      have hpl : Pts (wr.alloc (.cells (Dv.struc [.int z1, .int z2, .text z3, .list 4 56 za zc zl]).cells.toArray 113)) b lf := (hbl.block b hwb).trans hpw
      have HM := hiq (exprs_any _ [_] (Nat.le_refl _) (fun d hd => by rw [List.mem_singleton] at hd; subst hd; exact (show Has .expr _ by have := HT1.out _ hmem; cases this with | struc h => cases h with | cons _ h => cases h with | cons h _ => exact h)) _ _ _ _ _ hio b lf hpl hlo (by omega) (fun x hx => by
        rcases hx with hx | hx
        · exact HS.out x hx
        · omega))
      simp only [Dv.cells, Dv.cellsL, List.cons_append, List.nil_append, List.append_nil] at HM hbl
      have HE := hiq hE
      have HSM := hiq (hsm.out h0)
      have HD := hiq hd
      have HBL := hiq hbl
      clear hat hrd hrw hio hE hsm hmem hd hpl hbl
      go_wp2_with fail
      refine HM.out.mono ?_
      rintro e w2 ⟨rfl, lf2, hp2, hle2, hlo2, hP2, hE2⟩
      have HP2 := hiq hP2
      have HE2 := hiq hE2
      clear hP2 hE2 HM
      go_wp2_with fail
      go_roundw
      case rel =>
        refine ⟨j + 1, lf2, by go_num, by omega, hp2, by omega, hlo2, fun h k d hk hd' => ?_, (HE.out.trans (.below HBL.out)).trans HE2.out⟩
        obtain ⟨-, -, hys⟩ := HP2.out h
        by_cases hkj : k < j
        · exact HSM.out k d hkj hd'
        · obtain rfl : k = j := by omega
          rw [HD.out] at hd'
          cases hd'
          refine sm_struc.2 fun x hx => ?_
          simp only [List.mem_cons, List.not_mem_nil, or_false] at hx
          rcases hx with rfl | rfl
          · trivial
          · exact hys _ (List.mem_singleton_self _)
      case measure => simp [intOf]; omega
    · have X1 : Hid (0 <= lf -> 0 <= left /\ LSm l1) := fun h => by
        have h2 := HP1.out (by omega)
        refine ⟨h2.1, by rw [<- HI1.out.1]; exact h2.2, fun x hx => ?_⟩
        obtain ⟨k, hk⟩ := List.mem_iff_getElem?.1 hx
        exact hsm.out h k x (by have := (List.getElem?_eq_some_iff.1 hk).1; have := HI1.out.1; omega) hk
      have HEA := hiq hE
      have HA2 := hiq (add_any b lf n2 wr hpw hlo (by omega) (by omega))
      have hlfA : lf <= left := by omega
      clear hsm hE
      rcases (show (¬ j < n1) \/ (j < n1 /\ lf < 0) by omega) with hc | ⟨hc1, hc2⟩
      all_goals
        clear hjn
        go_wp2_with fail
        refine HA2.out.mono ?_
        clear HA2 x0 f0 hpw
        rintro e V1 ⟨rfl, lg1, hp1, hle1, hlo1, hP2, hE2⟩
        have HP2 := hiq hP2
        have HE2 := hiq (HEA.out.trans hE2)
        clear hP2 hE2
        go_wp2_with fail
        go_loopw [11] (fun i wr => ∃ (j : Nat) (lf : Int), i = .int .i64 (j : Int) /\ j <= n2 /\ Pts wr b lf /\ lf <= lg1 /\ -5000 <= lf /\ Hid (0 <= lf -> ∀ k d, k < j -> l2[k]? = some d -> Sm d) /\ Exc (One b) W0 wr) (fun i _ => n2 - (intOf i).toNat)
        case atStart => exact ⟨0, lg1, rfl, Nat.zero_le _, hp1, Int.le_refl _, hlo1, (fun _ k d hk => by omega), HE2.out⟩
        case round =>
          clear hp1
          obtain ⟨j2, lg, rfl, hj2, hpw, hlg, hlo, hsm, hE⟩ := hrel
          obtain ⟨x0, f0⟩ := hpw.cells
          by_cases hjn : j2 < n2 /\ 0 <= lg
          · obtain ⟨hjn, h0⟩ := hjn
            first
              | (exfalso; omega)
              | obtain ⟨d, bb, off, hd, hmem, rfl, hSb, hat, hrd⟩ := (hE.items HI2.out HS.out).get hjn
                obtain ⟨z0, za, zc, zl, rfl, hzl⟩ := inv_Group (HT2.out _ hmem)
                have x1 := hat 1 _ rfl
                have hrl := (rdD_list.1 (rdD_struc.1 hrd _ (List.mem_of_getElem? (i := 1) rfl))).2.2.1
                have HM := hiq (add_any b lg zl.length wr hpw hlo (by omega) (by omega))
                have HE := hiq hE
                have HSM := hiq (hsm.out h0)
                have HD := hiq hd
                clear hat hrd hE hsm hmem hd
                go_wp2_with fail
                refine HM.out.mono ?_
                rintro e w2 ⟨rfl, lf2, hp2, hle2, hlo2, hP3, hE3⟩
                have HP3 := hiq hP3
                have HE3 := hiq hE3
                clear hP3 hE3 HM
                go_wp2_with fail
                go_roundw
                case rel =>
                  refine ⟨j2 + 1, lf2, by go_num, by omega, hp2, by omega, hlo2, fun h k d hk hd' => ?_, HE.out.trans HE3.out⟩
                  have h3 := (HP3.out h).2
                  by_cases hkj : k < j2
                  · exact HSM.out k d hkj hd'
                  · obtain rfl : k = j2 := by omega
                    rw [HD.out] at hd'
                    cases hd'
                    exact sm_textInts h3 hzl
                case measure => simp [intOf]; omega
          · have X2 : Hid (0 <= lg -> 0 <= lf /\ LSm l2) := fun h => by
              have h2 := HP2.out (by omega)
              refine ⟨h2.1, by rw [<- HI2.out.1]; exact h2.2, fun x hx => ?_⟩
              obtain ⟨k, hk⟩ := List.mem_iff_getElem?.1 hx
              exact hsm.out h k x (by have := (List.getElem?_eq_some_iff.1 hk).1; have := HI2.out.1; omega) hk
            have HEB := hiq hE
            have HA3 := hiq (add_any b lg n3 wr hpw hlo (by omega) (by omega))
            have hlfB : lg <= left := by omega
            clear hsm hE
            rcases (show (¬ j2 < n2) \/ (j2 < n2 /\ lg < 0) by omega) with hd1 | ⟨hd1, hd2⟩
            all_goals
            clear hjn
            go_wp2_with fail
            refine HA3.out.mono ?_
            clear HA3 x0 f0 hpw
            rintro e V2 ⟨rfl, lh1, hp1, hle1, hlo1, hP4, hE4⟩
            have HP4 := hiq hP4
            have HE4 := hiq (HEB.out.trans hE4)
            clear hP4 hE4
            go_wp2_with fail
            go_loopw [12] (fun i wr => ∃ (j : Nat) (lf : Int), i = .int .i64 (j : Int) /\ j <= n3 /\ Pts wr b lf /\ lf <= lh1 /\ -5000 <= lf /\ Hid (0 <= lf -> ∀ k d, k < j -> l3[k]? = some d -> Sm d) /\ Exc (One b) W0 wr) (fun i _ => n3 - (intOf i).toNat)
            case atStart => exact ⟨0, lh1, rfl, Nat.zero_le _, hp1, Int.le_refl _, hlo1, (fun _ k d hk => by omega), HE4.out⟩
            case round =>
              clear hp1
              obtain ⟨j3, lk, rfl, hj3, hpw, hlk, hlo, hsm, hE⟩ := hrel
              obtain ⟨x0, f0⟩ := hpw.cells
              by_cases hjn : j3 < n3 /\ 0 <= lk
              · obtain ⟨hjn, h0⟩ := hjn
                first
                  | (exfalso; omega)
                  | obtain ⟨d, bb, off, hd, hmem, rfl, hSb, hat, hrd⟩ := (hE.items HI3.out HS.out).get hjn
                    obtain ⟨z0, za, zc, zl, rfl, hzl⟩ := inv_Pattern (HT3.out _ hmem)
                    have x1 := hat 1 _ rfl
                    have hrl := (rdD_list.1 (rdD_struc.1 hrd _ (List.mem_of_getElem? (i := 1) rfl))).2.2.1
                    have HM := hiq (add_any b lk zl.length wr hpw hlo (by omega) (by omega))
                    have HE := hiq hE
                    have HSM := hiq (hsm.out h0)
                    have HD := hiq hd
                    clear hat hrd hE hsm hmem hd
                    go_wp2_with fail
                    refine HM.out.mono ?_
                    rintro e w3 ⟨rfl, lf2, hp2, hle2, hlo2, hP5, hE5⟩
                    have HP5 := hiq hP5
                    have HE5 := hiq hE5
                    clear hP5 hE5 HM
                    go_wp2_with fail
                    go_roundw
                    case rel =>
                      refine ⟨j3 + 1, lf2, by go_num, by omega, hp2, by omega, hlo2, fun h k d hk hd' => ?_, HE.out.trans HE5.out⟩
                      have h3 := (HP5.out h).2
                      by_cases hkj : k < j3
                      · exact HSM.out k d hkj hd'
                      · obtain rfl : k = j3 := by omega
                        rw [HD.out] at hd'
                        cases hd'
                        exact sm_textInts h3 hzl
                    case measure => simp [intOf]; omega
              · have X3 : Hid (0 <= lk -> 0 <= lg /\ LSm l3) := fun h => by
                  have h2 := HP4.out (by omega)
                  refine ⟨h2.1, by rw [<- HI3.out.1]; exact h2.2, fun x hx => ?_⟩
                  obtain ⟨k, hk⟩ := List.mem_iff_getElem?.1 hx
                  exact hsm.out h k x (by have := (List.getElem?_eq_some_iff.1 hk).1; have := HI3.out.1; omega) hk
                have hst := (hE.block w.heap.size (by have := HS1.out; omega) (by have := HBZ.out; show ¬ w.heap.size = b; omega)).trans HST.out
                have x11 := cell_box hst 11 rfl
                have x12 := cell_box hst 12 rfl
                have HST3 := hiq hst
                have HEC := hiq hE
                have HA4 := hiq (add_any b lk pn wr hpw hlo (by omega) (by omega))
                have hlfC : lk <= left := by omega
                clear hsm hE hst
                rcases (show (¬ j3 < n3) \/ (j3 < n3 /\ lk < 0) by omega) with he1 | ⟨he1, he2⟩
                all_goals
                  clear hjn
                  go_wp2_with fail
                  refine HA4.out.mono ?_
                  clear HA4 x0 f0 hpw x11 x12
                  rintro e V3 ⟨rfl, lm, hp1, hle1, hlo1, hP6, hE6⟩
                  have HP6 := hiq hP6
                  have HE6 := hiq (HEC.out.trans hE6)
                  have hst := HE6.out.heap (by have := HBZ.out; show ¬ w.heap.size = b; omega) HST.out
                  have x12 := cell_box hst 12 rfl
                  have HA5 := hiq (add_any b lm ln V3 hp1 hlo1 (by omega) (by omega))
                  clear hP6 hE6 hp1 hst
                  go_wp2_with fail
                  refine HA5.out.mono ?_
                  rintro e V4 ⟨rfl, lz, hp1, hle2, hlo2, hP7, hE7⟩
                  have HP7 := hiq hP7
                  have HE7 := hiq hE7
                  clear hP7 hE7 HA5 x12
                  go_wp2
                  go_end0
                  refine ⟨rfl, lz, hp1, by omega, hlo2, fun h => ?_, (Exc.below HB.out).trans (HE6.out.trans HE7.out)⟩
                  obtain ⟨q1, q2⟩ := HP7.out h
                  obtain ⟨q3, q4⟩ := HP6.out q1
                  obtain ⟨q5, q6⟩ := X3.out q3
                  obtain ⟨q7, q8⟩ := X2.out q5
                  obtain ⟨q9, q10⟩ := X1.out q7
                  exact ⟨q9, q10, q8, q6, q4, q2⟩
end Go.Proofs.YtlbcmeebcfalpaaGreatDoor
