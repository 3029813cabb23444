/- Joined: IWl, IWp. -/
import Derived.Test.YtlbcmeebcfalpaaGreatDoorR09
set_option linter.unusedVariables false
set_option linter.unusedSimpArgs false
set_option maxRecDepth 100000
set_option maxHeartbeats 16000000
namespace Go.Proofs.YtlbcmeebcfalpaaGreatDoor
open Go.RowKit

namespace LT
@[reducible] def wf : LT -> Bool -> FuncId | .op, true => 136 | .op, false => 213 | .dec, true => 140 | .dec, false => 215 | .rew, true => 100 | .rew, false => 207 | .grp, true => 105 | .grp, false => 209 | .pat, true => 107 | .pat, false => 210 | .sec, true => 110 | .sec, false => 211 | .rul, true => 103 | .rul, false => 208 | .wit, true => 98 | .wit, false => 206 | .nod, true => 203 | .nod, false => 261 | .exp, true => 204 | .exp, false => 245 | .cst, true => 101 | .cst, false => 116 | .sty, true => 111 | .sty, false => 122 | .edi, true => 38 | .edi, false => 42 | .int, true => 108 | .int, false => 120 | .bool, true => 138 | .bool, false => 214 | .text, true => 96 | .text, false => 113 | .pos, true => 216 | .pos, false => 263 | .tok, true => 132 | .tok, false => 247 | .inp, true => 46 | .inp, false => 45 | .toks, true => 130 | .toks, false => 212
@[reducible] def lf : LT -> FuncId | op => 127 | dec => 129 | rew => 115 | grp => 118 | pat => 119 | sec => 121 | rul => 117 | wit => 114 | nod => 244 | exp => 262 | int => 246 | bool => 128 | text => 125 | tok => 212 | toks => 126 | _ => 0
@[reducible] def lp : LT -> FuncId | op => 135 | dec => 139 | rew => 99 | grp => 104 | pat => 106 | sec => 109 | rul => 102 | wit => 97 | nod => 202 | exp => 243 | int => 205 | bool => 137 | text => 133 | tok => 131 | toks => 134 | _ => 0
@[reducible] def fc : LT -> Bool -> List (FuncId × List Value) | .op, true => [(108, []), (96, []), (108, []), (108, []), (96, [])] | .op, false => [(120, []), (113, []), (120, []), (120, []), (113, [])] | .dec, true => [(108, []), (96, []), (108, []), (96, [])] | .dec, false => [(120, []), (113, []), (120, []), (113, [])] | .rew, true => [(96, []), (96, [])] | .rew, false => [(113, []), (113, [])] | .grp, true => [(96, []), (205, [.func (.func 108) #[] #[]])] | .grp, false => [(113, []), (246, [])] | .pat, true => [(96, []), (205, [.func (.func 108) #[] #[]])] | .pat, false => [(113, []), (246, [])] | .sec, true => [(96, []), (135, [.func (.func 136) #[] #[]]), (137, [.func (.func 138) #[] #[]]), (139, [.func (.func 140) #[] #[]]), (96, [])] | .sec, false => [(113, []), (127, []), (128, []), (129, []), (113, [])] | .rul, true => [(96, []), (204, [])] | .rul, false => [(113, []), (245, [])] | .wit, true => [(96, []), (202, [.func (.func 203) #[] #[]])] | .wit, false => [(113, []), (244, [])] | .nod, true => [(108, []), (96, []), (108, []), (202, [.func (.func 203) #[] #[]])] | .nod, false => [(120, []), (113, []), (120, []), (244, [])] | .exp, true => [(108, []), (108, []), (96, []), (243, [.func (.func 204) #[] #[]])] | .exp, false => [(120, []), (120, []), (113, []), (262, [])] | .cst, true => [(108, []), (108, []), (108, []), (108, [])] | .cst, false => [(120, []), (120, []), (120, []), (120, [])] | .sty, true => [(108, []), (108, []), (108, []), (108, []), (108, []), (108, []), (108, []), (108, []), (108, []), (108, []), (108, []), (137, [.func (.func 138) #[] #[]]), (133, [.func (.func 96) #[] #[]])] | .sty, false => [(120, []), (120, []), (120, []), (120, []), (120, []), (120, []), (120, []), (120, []), (120, []), (120, []), (120, []), (128, []), (125, [])] | .edi, true => [(96, []), (97, [.func (.func 98) #[] #[]]), (99, [.func (.func 100) #[] #[]]), (101, []), (102, [.func (.func 103) #[] #[]]), (104, [.func (.func 105) #[] #[]]), (106, [.func (.func 107) #[] #[]]), (108, []), (109, [.func (.func 110) #[] #[]]), (111, [])] | .edi, false => [(113, []), (114, []), (115, []), (116, []), (117, []), (118, []), (119, []), (120, []), (121, []), (122, [])] | .pos, true => [(96, []), (108, [])] | .pos, false => [(113, []), (120, [])] | .tok, true => [(96, []), (96, []), (216, []), (108, []), (96, [])] | .tok, false => [(113, []), (113, []), (263, []), (120, []), (113, [])] | .inp, true => [(96, []), (133, [.func (.func 96) #[] #[]]), (134, [.func (.func 130) #[] #[]]), (101, []), (102, [.func (.func 103) #[] #[]]), (104, [.func (.func 105) #[] #[]]), (106, [.func (.func 107) #[] #[]]), (108, []), (135, [.func (.func 136) #[] #[]]), (137, [.func (.func 138) #[] #[]]), (139, [.func (.func 140) #[] #[]]), (96, []), (111, [])] | .inp, false => [(113, []), (125, []), (126, []), (116, []), (117, []), (118, []), (119, []), (120, []), (127, []), (128, []), (129, []), (113, []), (122, [])] | _, _ => []
@[reducible] def N : LT -> Bool -> Nat | .op, true => 17 | .op, false => 17 | .dec, true => 14 | .dec, false => 14 | .rew, true => 8 | .rew, false => 8 | .grp, true => 8 | .grp, false => 8 | .pat, true => 8 | .pat, false => 8 | .sec, true => 17 | .sec, false => 17 | .rul, true => 8 | .rul, false => 8 | .wit, true => 8 | .wit, false => 8 | .nod, true => 14 | .nod, false => 14 | .exp, true => 14 | .exp, false => 14 | .cst, true => 14 | .cst, false => 14 | .sty, true => 41 | .sty, false => 41 | .edi, true => 32 | .edi, false => 32 | .pos, true => 8 | .pos, false => 8 | .tok, true => 17 | .tok, false => 17 | .inp, true => 42 | .inp, false => 41 | _, _ => 0
@[reducible] def ks : LT -> Bool -> List Nat | .op, true => [0, 1, 3, 4, 6, 7, 9, 10, 12, 13] | .op, false => [0, 1, 3, 4, 6, 7, 9, 10, 12, 13] | .dec, true => [0, 1, 3, 4, 6, 7, 9, 10] | .dec, false => [0, 1, 3, 4, 6, 7, 9, 10] | .rew, true => [0, 1, 3, 4] | .rew, false => [0, 1, 3, 4] | .grp, true => [0, 1, 3, 4] | .grp, false => [0, 1, 3, 4] | .pat, true => [0, 1, 3, 4] | .pat, false => [0, 1, 3, 4] | .sec, true => [0, 1, 3, 4, 6, 7, 9, 10, 12, 13] | .sec, false => [0, 1, 3, 4, 6, 7, 9, 10, 12, 13] | .rul, true => [0, 1, 3, 4] | .rul, false => [0, 1, 3, 4] | .wit, true => [0, 1, 3, 4] | .wit, false => [0, 1, 3, 4] | .nod, true => [0, 1, 3, 4, 6, 7, 9, 10] | .nod, false => [0, 1, 3, 4, 6, 7, 9, 10] | .exp, true => [0, 1, 3, 4, 6, 7, 9, 10] | .exp, false => [0, 1, 3, 4, 6, 7, 9, 10] | .cst, true => [0, 1, 3, 4, 6, 7, 9, 10] | .cst, false => [0, 1, 3, 4, 6, 7, 9, 10] | .sty, true => [0, 1, 3, 4, 6, 7, 9, 10, 12, 13, 15, 16, 18, 19, 21, 22, 24, 25, 27, 28, 30, 31, 33, 34, 36, 37] | .sty, false => [0, 1, 3, 4, 6, 7, 9, 10, 12, 13, 15, 16, 18, 19, 21, 22, 24, 25, 27, 28, 30, 31, 33, 34, 36, 37] | .edi, true => [0, 1, 3, 4, 6, 7, 9, 10, 12, 13, 15, 16, 18, 19, 21, 22, 24, 25, 27, 28] | .edi, false => [0, 1, 3, 4, 6, 7, 9, 10, 12, 13, 15, 16, 18, 19, 21, 22, 24, 25, 27, 28] | .pos, true => [0, 1, 3, 4] | .pos, false => [0, 1, 3, 4] | .tok, true => [0, 1, 3, 4, 6, 7, 9, 10, 12, 13] | .tok, false => [0, 1, 3, 4, 6, 7, 9, 10, 12, 13] | .inp, true => [0, 1, 3, 4, 6, 7, 8, 10, 11, 13, 14, 16, 17, 19, 20, 22, 23, 25, 26, 28, 29, 31, 32, 34, 35, 37, 38] | .inp, false => [0, 1, 3, 4, 6, 7, 9, 10, 12, 13, 15, 16, 18, 19, 21, 22, 24, 25, 27, 28, 30, 31, 33, 34, 36, 37] | _, _ => []
@[reducible] def acts : LT -> Bool -> List Nat | .op, true => [2, 5, 8, 11, 14, 15, 16] | .op, false => [2, 5, 8, 11, 14, 15, 16] | .dec, true => [2, 5, 8, 11, 12, 13] | .dec, false => [2, 5, 8, 11, 12, 13] | .rew, true => [2, 5, 6, 7] | .rew, false => [2, 5, 6, 7] | .grp, true => [2, 5, 6, 7] | .grp, false => [2, 5, 6, 7] | .pat, true => [2, 5, 6, 7] | .pat, false => [2, 5, 6, 7] | .sec, true => [2, 5, 8, 11, 14, 15, 16] | .sec, false => [2, 5, 8, 11, 14, 15, 16] | .rul, true => [2, 5, 6, 7] | .rul, false => [2, 5, 6, 7] | .wit, true => [2, 5, 6, 7] | .wit, false => [2, 5, 6, 7] | .nod, true => [2, 5, 8, 11, 12, 13] | .nod, false => [2, 5, 8, 11, 12, 13] | .exp, true => [2, 5, 8, 11, 12, 13] | .exp, false => [2, 5, 8, 11, 12, 13] | .cst, true => [2, 5, 8, 11, 12, 13] | .cst, false => [2, 5, 8, 11, 12, 13] | .sty, true => [2, 5, 8, 11, 14, 17, 20, 23, 26, 29, 32, 35, 38, 39, 40] | .sty, false => [2, 5, 8, 11, 14, 17, 20, 23, 26, 29, 32, 35, 38, 39, 40] | .edi, true => [2, 5, 8, 11, 14, 17, 20, 23, 26, 29, 30, 31] | .edi, false => [2, 5, 8, 11, 14, 17, 20, 23, 26, 29, 30, 31] | .pos, true => [2, 5, 6, 7] | .pos, false => [2, 5, 6, 7] | .tok, true => [2, 5, 8, 11, 14, 15, 16] | .tok, false => [2, 5, 8, 11, 14, 15, 16] | .inp, true => [2, 5, 9, 12, 15, 18, 21, 24, 27, 30, 33, 36, 39, 40, 41] | .inp, false => [2, 5, 8, 11, 14, 17, 20, 23, 26, 29, 32, 35, 38, 39, 40] | _, _ => []
end LT
theorem struc_any (S : Nat -> Prop) (a : Option Addr) (n c : Nat) (l : List Vl) (w : World) (h : Vals S w a n c l) (h0 : a = none -> n = 0 /\ c = 0) :
    Calls Tryz.prog 95 #[.slice a n c] w fun e w' => ∃ (a' : Option Addr) (c' : Nat), e = .returned (mkList a' c' l).val /\ OwnV S w' w.heap.size a' n c' l /\ Below w.heap.size w w' := by
  have hb1 : Below w.heap.size w (w.alloc (.cells #[.int .i64 0, .int .i64 0, .string ⟨#[]⟩, .slice none 0 0] 24)) := (Below.refl _ _).alloc (Nat.le_refl _) _
  have hh1 := World.alloc_heap_new w (.cells #[.int .i64 0, .int .i64 0, .string ⟨#[]⟩, .slice none 0 0] 24)
  have hs1 : (w.alloc (.cells #[.int .i64 0, .int .i64 0, .string ⟨#[]⟩, .slice none 0 0] 24)).heap.size = w.heap.size + 1 := by simp
  have HM := hiq (list_any (InS S w) a n c l _ ((h.mono fun b h1 h2 => ⟨h1, h2⟩).below hb1) h0)
  have HN := hiq h.1
  have HB := hiq hb1
  have HH := hiq hh1
  have HS := hiq hs1
  clear h h0 hb1 hh1 hs1
  go_enter Tryz.func95, Tryz.ntmps95
  go_wp2_with fail
  refine HM.out.mono ?_
  generalize w.alloc (.cells #[.int .i64 0, .int .i64 0, .string ⟨#[]⟩, .slice none 0 0] 24) = W1 at *
  rintro e W ⟨al, cl, he, ho, hb⟩
  change e = .returned (.agg #[.int .i64 3, .int .i64 0, .string ⟨#[]⟩, .slice al l.length cl]) at he
  subst he
  have hz := (hb.block w.heap.size (by have := HS.out; omega)).trans HH.out
  obtain ⟨z0, z1, z2, z3, zf⟩ := box_cells hz
  have HO := hiq ho
  have HBB := hiq (HB.out.trans (hb.mono HB.out.size))
  have hzz := put4_at hz (.int .i64 3) (.int .i64 0) (.string ⟨#[]⟩) (.slice al l.length cl)
  have HZZ := hiq hzz
  clear ho hb hz hzz
  go_wp2
  obtain ⟨y0, y1, y2, y3, -⟩ := box_cells HZZ.out
  have hfin := (HO.out.put4 (b := w.heap.size) (by have := HS.out; omega) (fun hs => by have := hs.2; omega) (.int .i64 3) (.int .i64 0) (.string ⟨#[]⟩) (.slice al l.length cl))
  have hbb := put4_below HBB.out (b := w.heap.size) (Nat.le_refl _) (.int .i64 3) (.int .i64 0) (.string ⟨#[]⟩) (.slice al l.length cl)
  change bodyPost _ _ _ _ _ (put4 W w.heap.size (.int .i64 3) (.int .i64 0) (.string ⟨#[]⟩) (.slice al l.length cl))
  generalize put4 W w.heap.size (.int .i64 3) (.int .i64 0) (.string ⟨#[]⟩) (.slice al l.length cl) = WF at *
  exact bodyPost_ret (v := .agg #[.int .i64 3, .int .i64 0, .string ⟨#[]⟩, .slice al l.length cl]) (by simp [results, Tryz.results95, go_sem, y0, y1, y2, y3]) rfl ⟨al, cl, rfl, (hfin.mono (by have := HS.out; omega)).monoS (fun b hb _ => hb.1), hbb⟩
/-- List, of either side; struc of the program. -/
@[reducible] def lstF : Bool -> FuncId | true => 95 | false => 52
theorem lst_any (σ : Bool) (S : Nat -> Prop) (a : Option Addr) (n c : Nat) (l : List Vl) (w : World) (h : Vals S w a n c l) (h0 : a = none -> n = 0 /\ c = 0) :
    Calls Tryz.prog (lstF σ) #[.slice a n c] w fun e w' => ∃ (a' : Option Addr) (c' : Nat), e = .returned (mkList a' c' l).val /\ OwnV S w' w.heap.size a' n c' l /\ Below w.heap.size w w' := by
  cases σ
  · exact list_ref S a n c l w h h0
  · exact struc_any S a n c l w h h0
@[reducible] def lisF : Bool -> FuncId | true => 50 | false => 52
theorem lis_any (σ : Bool) (S : Nat -> Prop) (a : Option Addr) (n c : Nat) (l : List Vl) (w : World) (h : Vals S w a n c l) (h0 : a = none -> n = 0 /\ c = 0) :
    Calls Tryz.prog (lisF σ) #[.slice a n c] w fun e w' => ∃ (a' : Option Addr) (c' : Nat), e = .returned (mkList a' c' l).val /\ OwnV S w' w.heap.size a' n c' l /\ Below w.heap.size w w' := by
  cases σ
  · exact list_ref S a n c l w h h0
  · exact list_any S a n c l w h h0
/-- Cells from an offset on. -/
def CellsO (W : World) (b o : Nat) : Nat -> List Value -> Prop
  | _, [] => True
  | i, v :: r => W.cell? ⟨b, o + i, none⟩ = some v /\ CellsO W b o (i + 1) r
theorem cellsO_gen {W : World} {b o : Nat} {cs : List Value} (h : AtC W b o cs) : ∀ (l : List Value) (i : Nat), (∀ j x, l[j]? = some x -> cs[i + j]? = some x) -> CellsO W b o i l
  | [], _, _ => trivial
  | v :: r, i, hx => ⟨h i v (hx 0 v rfl), cellsO_gen h r (i + 1) fun j x hj => by
    have := hx (j + 1) x (by simpa using hj)
    rw [show i + 1 + j = i + (j + 1) by omega]; exact this⟩
/-- What an append of one value needs. -/
structure AppV (W : World) (B : Nat) (a : Option Addr) (n cap : Nat) (vs : List Vl) (v : Vl) (bx : Nat) : Prop where
  ex : ∃ S : Nat -> Prop, OwnV S W B a n cap vs /\ VAt W bx 0 v /\ Rd S W v /\ Free S a /\ ∀ b, S b -> B <= b
  room : (n + 1) * 56 <= 140737488355328
  le : B <= W.heap.size
section
variable {ops : Array Oper} {rest : List Oper} {o : Oper} {act : Act} {Q : Exit -> Act -> World -> Prop} {w : World} {B bx : Nat} {a : Option Addr} {n cap : Nat} {l : List Vl} {u : Vl}
theorem wpList_appV (h : AppV w B a n cap l u bx) (hgd : o.guard = none) (os ox : Operand) (ho : o.op = .call { callee := .builtin .append, args := #[os, ox], argTypes := #[22, 22] })
    (hs : act.eval os = .slice a n cap) (hx : act.eval ox = .slice (some ⟨bx, 0, none⟩) 1 1)
    (hk : ∀ a' c' w', (∃ S : Nat -> Prop, OwnV S w' B a' (n + 1) c' (l ++ [u]) /\ Free S a' /\ ∀ b, S b -> B <= b /\ b < w'.heap.size) -> Below B w w' -> wpList Tryz.prog ops Q rest (act.put o.dst (.slice a' (n + 1) c')) w') :
    wpList Tryz.prog ops Q (o :: rest) act w := by
  obtain ⟨S, h1, h2, h3, h4, h5⟩ := h.ex
  have h1' : OwnV (InS S w) w B a n cap l := h1.monoS fun b hb hlt => ⟨hb, hlt⟩
  have h3' : Rd (InS S w) w u := h3.mono fun b hb hlt => ⟨hb, hlt⟩
  have h4' : Free (InS S w) a := fun x hx hs => h4 x hx hs.1
  refine wpList_app1 hgd os ox ho hs hx h1' h2 h3' h.room h.le (Below.refl _ _) h4' fun a' c' w' o5 b5 g5 h6 => hk a' c' w' ⟨InS S w, o5, fun x hx hs => ?_, fun b hb => ⟨h5 b hb.1, Nat.lt_of_lt_of_le hb.2 g5.size⟩⟩ b5
  rw [ownBlock_some hx] at h6
  rcases h6 with h | h
  · exact h4'.own _ h.symm hs
  · have h := Option.some.inj h
    have := hs.2; omega
end
/-- A round of a list's writer: how it ends, or what the item's call answers. -/
def LRound (T : LT) (σ : Bool) (R : Value -> Nat -> World -> Prop) (P : Ending -> World -> Prop) (w : World) (a : Option Addr) (n : Nat) (o : Value) (j : Nat) (wr : World) : Prop :=
  ∃ (a' : Option Addr) (c' : Nat), o = .slice a' j c' /\ j <= n /\
    Hid (j < n -> ∃ (d : Dv) (bb off : Nat), a = some ⟨bb, off, none⟩ /\ T.Inv d /\ CellsO wr bb (off + j * T.k) 0 d.cells /\ Hid (∀ W, Below wr.heap.size wr W -> Calls Tryz.prog (T.wf σ) #[d.val] W fun e w2 => ∃ (k nn : Int) (t : ByteArray) (aa : Option Addr) (la ca : Nat) (vs : List Vl) (v : Vl), e = .returned (.agg #[.int .i64 k, .int .i64 nn, .string t, .slice aa la ca]) /\ AppV (w2.alloc (.cells #[.int .i64 k, .int .i64 nn, .string t, .slice aa la ca] 24)) (w.heap.size + 1) a' j c' vs v w2.heap.size /\ Hid (∀ a5 c5 w5, (∃ S : Nat -> Prop, OwnV S w5 (w.heap.size + 1) a5 (j + 1) c5 (vs ++ [v]) /\ Free S a5 /\ ∀ b, S b -> w.heap.size + 1 <= b /\ b < w5.heap.size) -> Below (w.heap.size + 1) (w2.alloc (.cells #[.int .i64 k, .int .i64 nn, .string t, .slice aa la ca] 24)) w5 -> R (.slice a5 (j + 1) c5) (j + 1) w5))) /\
    Hid (j = n -> Calls Tryz.prog (lisF σ) #[.slice a' j c'] wr fun e w2 => ∃ (al : Option Addr) (m cl : Nat) (WF : World), e = .returned (.agg #[.int .i64 3, .int .i64 0, .string ⟨#[]⟩, .slice al m cl]) /\ w2.cell? ⟨w.heap.size, 0, none⟩ = some (.int .i64 0) /\ w2.cell? ⟨w.heap.size, 1, none⟩ = some (.int .i64 0) /\ w2.cell? ⟨w.heap.size, 2, none⟩ = some (.string ⟨#[]⟩) /\ w2.cell? ⟨w.heap.size, 3, none⟩ = some (.slice none 0 0) /\ (∀ i, w2.frozen? ⟨w.heap.size, i, none⟩ = false) /\ WF = put4 w2 w.heap.size (.int .i64 3) (.int .i64 0) (.string ⟨#[]⟩) (.slice al m cl) /\ CellsAt WF w.heap.size 0 [.int .i64 3, .int .i64 0, .string ⟨#[]⟩, .slice al m cl] /\ P e WF)
theorem wl_abs (T : LT) (σ : Bool) {S : Nat -> Prop} {a : Option Addr} {n c : Nat} {l : List Dv} {w W1 : World} (h : Items S w T.k T.s a n c l) (hn : n <= 70000) (hb1 : Below w.heap.size w W1) (hz1 : W1.heap.size = w.heap.size + 1) (hh1 : W1.heap[w.heap.size]? = some (.cells #[.int .i64 0, .int .i64 0, .string ⟨#[]⟩, .slice none 0 0] 24 (0, 0)))
    (hty : ∀ x ∈ l, Has T.ty x) (hit : ∀ d ∈ l, ∀ W, Below w.heap.size w W -> Calls Tryz.prog (T.wf σ) #[d.val] W (NewV d.toV W)) :
    ∃ R : Value -> Nat -> World -> Prop, R (.slice none 0 0) 0 W1 /\ R (.slice (some ⟨w.heap.size + 1, 0, none⟩) 0 0) 0 (W1.alloc (.cells #[] 24)) /\ ∀ o j wr, R o j wr -> LRound T σ R (NewV (.mk 3 0 ⟨#[]⟩ (l.map Dv.toV)) w) w a n o j wr := by
  have ho0 := OwnV.made0 (fun _ => False) W1
  refine ⟨fun o j wr => ∃ (a' : Option Addr) (c' : Nat) (vs : List Vl) (S' : Nat -> Prop), j <= n /\ o = .slice a' j c' /\ OwnV S' wr (w.heap.size + 1) a' j c' vs /\ vs.map Vl.er = (l.take j).map Dv.toV /\ Free S' a' /\ (∀ b, S' b -> w.heap.size + 1 <= b /\ b < wr.heap.size) /\ Below (w.heap.size + 1) W1 wr, ⟨none, 0, [], fun _ => False, Nat.zero_le _, rfl, OwnV.nil _ _ _, rfl, (fun x hx hs => hs.elim), (fun b hb => hb.elim), Below.refl _ _⟩, ⟨some ⟨w.heap.size + 1, 0, none⟩, 0, [], fun _ => False, Nat.zero_le _, rfl, by rw [hz1] at ho0; exact ho0, rfl, (fun x hx hs => hs.elim), (fun b hb => hb.elim), (Below.refl _ _).alloc (by omega) _⟩, ?_⟩
  rintro o j wr ⟨a', c', vs, S', hj, rfl, ho, hvs, hfr, hsub, hb⟩
  have hwz := hb.size
  have hbw : Below w.heap.size w wr := hb1.trans (hb.mono (Nat.le_succ _))
  refine ⟨a', c', rfl, hj, fun hlj => ?_, fun hjn => ?_⟩
  · obtain ⟨d, bb, off, hd, hmem, ha, hSb, hat, hrd⟩ := (h.below hbw).get hlj
    refine ⟨d, bb, off, ha, T.inv (hty d hmem), cellsO_gen hat d.cells 0 (fun j x hx => by rw [Nat.zero_add]; exact hx), fun W hW => (hit d hmem W (hbw.trans (hW.mono hbw.size))).mono ?_⟩
    rintro e w2 ⟨⟨k, nn, t, aa, ca, la⟩, he, hx, hrv', hb2'⟩
    change e = .returned (.agg #[.int .i64 k, .int .i64 nn, .string t, .slice aa la.length ca]) at he
    have hb2 : Below wr.heap.size wr w2 := hW.trans (hb2'.mono hW.size)
    have hb3 : Below w2.heap.size w2 (w2.alloc (.cells #[.int .i64 k, .int .i64 nn, .string t, .slice aa la.length ca] 24)) := (Below.refl _ _).alloc (Nat.le_refl _) _
    have hz3 : (w2.alloc (.cells #[.int .i64 k, .int .i64 nn, .string t, .slice aa la.length ca] 24)).heap.size = w2.heap.size + 1 := by simp
    have hb23 := hb2.trans (hb3.mono hb2.size)
    have hz2 := hb2.size
    have hWz := hW.size
    have hlt := ho.lt
    refine ⟨k, nn, t, aa, la.length, ca, vs, .mk k nn t aa ca la, he, ⟨⟨fun b => S' b \/ (wr.heap.size <= b /\ b < w2.heap.size), (ho.below hb23).monoS (fun b hb _ => .inl hb), ?_, ?_, fun x hx hs => ?_, fun b hb => ?_⟩, by omega, by rw [hz3]; omega⟩, ?_⟩
    · obtain ⟨y0, y1, y2, y3, -⟩ := box_cells (World.alloc_heap_new w2 (.cells #[.int .i64 k, .int .i64 nn, .string t, .slice aa la.length ca] 24))
      exact ⟨y0, y1, y2, y3⟩
    · exact (hrv'.mono (S' := fun b => S' b \/ (wr.heap.size <= b /\ b < w2.heap.size)) (fun b hb hlt => .inr ⟨by omega, hlt⟩)).below hb3
    · rcases hs with hs | hs
      · exact hfr x hx hs
      · have := (hlt x.block (ownBlock_some hx)).2; omega
    · rcases hb with hb | hb
      · exact (hsub b hb).1
      · omega
    · rintro a5 c5 w5 ⟨S5, o5, f5, s5⟩ b5
      refine ⟨a5, c5, _, S5, by omega, rfl, o5, ?_, f5, s5, hb.trans ((hb23.mono (by omega)).trans b5)⟩
      rw [List.map_append, hvs, List.take_add_one, hd, List.map_append, List.map_singleton, hx]
      rfl
  · subst hjn
    have hall : vs.map Vl.er = l.map Dv.toV := by rw [hvs, List.take_of_length_le (by rw [<- h.1]; exact Nat.le_refl _)]
    have hvl := ho.vals (S' := fun b => w.heap.size + 1 <= b) (by omega) (fun b hb => (hsub b hb).1) (fun y hy => (ho.lt y.block (ownBlock_some hy)).1)
    have hak : a' = none -> j = 0 /\ c' = 0 := fun e => by
      rcases ho.2.1.2 with ⟨hv, h0⟩ | ⟨g9, cap9, cur9, hv, _⟩
      · cases hv; exact ⟨rfl, rfl⟩
      · cases hv; cases e
    refine (lis_any σ _ a' j c' vs wr hvl hak).mono ?_
    rintro e w2 ⟨al, cl, he, o2, b2⟩
    change e = .returned (.agg #[.int .i64 3, .int .i64 0, .string ⟨#[]⟩, .slice al vs.length cl]) at he
    have hb3 := hbw.trans (b2.mono hbw.size)
    have hbx := (b2.block w.heap.size (by omega)).trans ((hb.block w.heap.size (by omega)).trans hh1)
    have hv2 := o2.vals (S' := fun b => w.heap.size + 1 <= b) (by omega) (fun _ h => h) (fun y hy => by have := (o2.lt y.block (ownBlock_some hy)).1; omega)
    rw [ho.1] at hv2
    have hr2 := rd_list hv2
    obtain ⟨z0, z1, z2, z3, zf⟩ := box_cells hbx
    refine ⟨al, vs.length, cl, _, he, z0, z1, z2, z3, frozen_box hbx, rfl, cellsAt (cs := [_, _, _, _]) (put4_at hbx _ _ _ _), mkList al cl vs, he, by rw [Vl.er, Vl.erL_map, hall], ?_, put4_below hb3 (Nat.le_refl _) _ _ _ _⟩
    exact (hr2.keep (put4_keep (b := w.heap.size) (by show ¬ w.heap.size + 1 <= w.heap.size; omega) _ _ _ _)).mono fun b hb _ => Nat.le_of_succ_le hb
theorem lf_any (T : LT) (hL : T.isE = true) {S : Nat -> Prop} {a : Option Addr} {n c : Nat} {l : List Dv} {w : World} (h : Items S w T.k T.s a n c l) (hn : n <= 70000) (hty : ∀ x ∈ l, Has T.ty x) (hit : ∀ d ∈ l, ∀ W, Below w.heap.size w W -> Calls Tryz.prog (T.wf false) #[d.val] W (NewV d.toV W)) :
    Calls Tryz.prog T.lf #[.slice a n c] w (NewV (.mk 3 0 ⟨#[]⟩ (l.map Dv.toV)) w) := by
  have hb1 : Below w.heap.size w (w.alloc (.cells #[.int .i64 0, .int .i64 0, .string ⟨#[]⟩, .slice none 0 0] 24)) := (Below.refl _ _).alloc (Nat.le_refl _) _
  obtain ⟨R, -, hR0, hR⟩ := wl_abs T false h hn hb1 (by simp) (World.alloc_heap_new w (.cells #[.int .i64 0, .int .i64 0, .string ⟨#[]⟩, .slice none 0 0] 24)) hty hit
  have HR0 := hiq hR0
  have HR := hiq hR
  clear h hty hit hb1 hR0 hR
  cases T
  case' op => go_enter Tryz.func127, Tryz.ntmps127
  case' dec => go_enter Tryz.func129, Tryz.ntmps129
  case' rew => go_enter Tryz.func115, Tryz.ntmps115
  case' grp => go_enter Tryz.func118, Tryz.ntmps118
  case' pat => go_enter Tryz.func119, Tryz.ntmps119
  case' sec => go_enter Tryz.func121, Tryz.ntmps121
  case' rul => go_enter Tryz.func117, Tryz.ntmps117
  case' wit => go_enter Tryz.func114, Tryz.ntmps114
  case' nod => go_enter Tryz.func244, Tryz.ntmps244
  case' exp => go_enter Tryz.func262, Tryz.ntmps262
  case' int => go_enter Tryz.func246, Tryz.ntmps246
  case' bool => go_enter Tryz.func128, Tryz.ntmps128
  case' text => go_enter Tryz.func125, Tryz.ntmps125
  case' tok => go_enter Tryz.func212, Tryz.ntmps212
  case' toks => go_enter Tryz.func126, Tryz.ntmps126
  case cst => cases hL
  case sty => cases hL
  case edi => cases hL
  case pos => cases hL
  case inp => cases hL
  all_goals
    dsimp only [LRound, LT.wf, LT.k, LT.Inv, lisF] at *
    go_wp2_with fail
    generalize w.alloc (.cells _ _) = W1 at *
    go_loopw [3, 4] (fun o i wr => ∃ j : Nat, i = .int .i64 (j : Int) /\ R o j wr) (fun _ i _ => n - (intOf i).toNat)
    case atStart => exact ⟨0, rfl, HR0.out⟩
    case round =>
      obtain ⟨j, rfl, hrel⟩ := hrel
      obtain ⟨a', c', rfl, hj, hgo, hend⟩ := HR.out _ _ _ hrel
      clear hrel
      by_cases hlj : j < n
      · obtain ⟨d, bb, off, rfl, hi, hcs, hcall⟩ := hgo.out hlj
        repeat (rcases (hi : ∃ _, _) with ⟨_, hi⟩)
        subst hi
        simp only [Dv.val, Dv.cells, Dv.cellsL, List.cons_append, List.nil_append, List.append_nil, CellsO, Nat.zero_add, Nat.add_zero, Nat.mul_one, Nat.reduceAdd, and_true] at hcs hcall
        have HM := hiq (hcall.out wr (Below.refl _ _))
        clear hgo hend hcall
        go_wp2_with fail
        refine HM.out.mono ?_
        rintro e w2 ⟨k, nn, t, aa, la, ca, vs, v, rfl, hp, hnext⟩
        go_wp2_with (at_builtin; refine wpList_appV hp rfl (.tmp 12) (.tmp 18) rfl rfl rfl ?_; intro a5 c5 w5 o5 b5)
        go_roundw
        case rel => exact ⟨j + 1, by go_num, hnext.out _ _ _ o5 b5⟩
        case measure => simp [intOf]; omega
      · obtain rfl : j = n := by omega
        have FL := hiq (hend.out rfl)
        clear hgo hend
        go_wp2_with fail
        refine FL.out.mono ?_
        rintro e w2 ⟨al, m, cl, WF, rfl, z0, z1, z2, z3, zf, hWF, hzz, hP⟩
        have HWF := hiq hWF
        have HZZ := hiq hzz
        have HP := hiq hP
        clear hWF hzz hP FL
        go_wp2
        have hww : WF = put4 w2 w.heap.size (.int .i64 3) (.int .i64 0) (.string ⟨#[]⟩) (.slice al m cl) := HWF.out
        change bodyPost _ _ _ _ _ (put4 w2 w.heap.size (.int .i64 3) (.int .i64 0) (.string ⟨#[]⟩) (.slice al m cl))
        rw [<- hww]
        have hzz := HZZ.out
        simp only [CellsAt, Nat.zero_add, Nat.reduceAdd, and_true] at hzz
        refine bodyPost_ret ?_ rfl HP.out
        simp [results, Tryz.results127, Tryz.results129, Tryz.results115, Tryz.results118, Tryz.results119, Tryz.results121, Tryz.results117, Tryz.results114, Tryz.results244, Tryz.results262, Tryz.results246, Tryz.results128, Tryz.results125, Tryz.results212, Tryz.results126, go_sem, hzz]

end Go.Proofs.YtlbcmeebcfalpaaGreatDoor
namespace Go.Proofs.YtlbcmeebcfalpaaGreatDoor
open Go.RowKit

theorem lp_any (T : LT) (hL : T.isE = true) {S : Nat -> Prop} {a : Option Addr} {n c : Nat} {l : List Dv} {w : World} (h : Items S w T.k T.s a n c l) (hn : n <= 70000) (hty : ∀ x ∈ l, Has T.ty x) (hit : ∀ d ∈ l, ∀ W, Below w.heap.size w W -> Calls Tryz.prog (T.wf true) #[d.val] W (NewV d.toV W)) :
    Calls Tryz.prog T.lp #[.slice a n c, .func (.func (T.wf true)) #[] #[]] w (NewV (.mk 3 0 ⟨#[]⟩ (l.map Dv.toV)) w) := by
  have hb1 : Below w.heap.size w (w.alloc (.cells #[.int .i64 0, .int .i64 0, .string ⟨#[]⟩, .slice none 0 0] 24)) := (Below.refl _ _).alloc (Nat.le_refl _) _
  obtain ⟨R, hR0, -, hR⟩ := wl_abs T true h hn hb1 (by simp) (World.alloc_heap_new w (.cells #[.int .i64 0, .int .i64 0, .string ⟨#[]⟩, .slice none 0 0] 24)) hty hit
  have HR0 := hiq hR0
  have HR := hiq hR
  have hE : ∀ (wr : World) (cs : Array Value) (t : TypeId), Below wr.heap.size wr (wr.alloc (.cells cs t)) := fun wr cs t => (Below.refl _ _).alloc (Nat.le_refl _) _
  have HE := hiq hE
  clear h hty hit hb1 hR0 hR hE
  cases T
  case' op => go_enter Tryz.func135, Tryz.ntmps135
  case' dec => go_enter Tryz.func139, Tryz.ntmps139
  case' rew => go_enter Tryz.func99, Tryz.ntmps99
  case' grp => go_enter Tryz.func104, Tryz.ntmps104
  case' pat => go_enter Tryz.func106, Tryz.ntmps106
  case' sec => go_enter Tryz.func109, Tryz.ntmps109
  case' rul => go_enter Tryz.func102, Tryz.ntmps102
  case' wit => go_enter Tryz.func97, Tryz.ntmps97
  case' nod => go_enter Tryz.func202, Tryz.ntmps202
  case' exp => go_enter Tryz.func243, Tryz.ntmps243
  case' int => go_enter Tryz.func205, Tryz.ntmps205
  case' bool => go_enter Tryz.func137, Tryz.ntmps137
  case' text => go_enter Tryz.func133, Tryz.ntmps133
  case' tok => go_enter Tryz.func131, Tryz.ntmps131
  case' toks => go_enter Tryz.func134, Tryz.ntmps134
  case cst => cases hL
  case sty => cases hL
  case edi => cases hL
  case pos => cases hL
  case inp => cases hL
  all_goals
    dsimp only [LRound, LT.wf, LT.k, LT.Inv, lisF] at *
    go_wp2_with fail
    generalize w.alloc (.cells _ _) = W1 at *
    go_loopw [5, 10] (fun o i wr => ∃ j : Nat, i = .int .i64 (j : Int) /\ R o j wr) (fun _ i _ => n - (intOf i).toNat)
    case atStart => exact ⟨0, rfl, HR0.out⟩
    case round =>
      obtain ⟨j, rfl, hrel⟩ := hrel
      obtain ⟨a', c', rfl, hj, hgo, hend⟩ := HR.out _ _ _ hrel
      clear hrel
      by_cases hlj : j < n
      · obtain ⟨d, bb, off, rfl, hi, hcs, hcall⟩ := hgo.out hlj
        repeat (rcases (hi : ∃ _, _) with ⟨_, hi⟩)
        subst hi
        simp only [Dv.val, Dv.cells, Dv.cellsL, List.cons_append, List.nil_append, List.append_nil, CellsO, Nat.zero_add, Nat.add_zero, Nat.mul_one, Nat.reduceAdd, and_true] at hcs hcall
        have HM := hcall
        clear hgo hend hcall
        go_wp2_with fail
        first
          | refine (HM.out _ (HE.out _ _ _)).mono ?_
          | refine (HM.out _ (Below.refl _ _)).mono ?_
        rintro e w2 ⟨k, nn, t, aa, la, ca, vs, v, rfl, hp, hnext⟩
        go_wp2_with (at_builtin; refine wpList_appV hp rfl (.tmp 14) (.tmp 18) rfl rfl rfl ?_; intro a5 c5 w5 o5 b5)
        go_roundw
        case rel => exact ⟨j + 1, by go_num, hnext.out _ _ _ o5 b5⟩
        case measure => simp [intOf]; omega
      · obtain rfl : j = n := by omega
        have FL := hiq (hend.out rfl)
        clear hgo hend
        go_wp2_with fail
        refine FL.out.mono ?_
        rintro e w2 ⟨al, m, cl, WF, rfl, z0, z1, z2, z3, zf, hWF, hzz, hP⟩
        have HWF := hiq hWF
        have HZZ := hiq hzz
        have HP := hiq hP
        clear hWF hzz hP FL
        go_wp2
        have hww : WF = put4 w2 w.heap.size (.int .i64 3) (.int .i64 0) (.string ⟨#[]⟩) (.slice al m cl) := HWF.out
        change bodyPost _ _ _ _ _ (put4 w2 w.heap.size (.int .i64 3) (.int .i64 0) (.string ⟨#[]⟩) (.slice al m cl))
        rw [<- hww]
        have hzz := HZZ.out
        simp only [CellsAt, Nat.zero_add, Nat.reduceAdd, and_true] at hzz
        refine bodyPost_ret ?_ rfl HP.out
        simp [results, Tryz.results135, Tryz.results139, Tryz.results99, Tryz.results104, Tryz.results106, Tryz.results109, Tryz.results102, Tryz.results97, Tryz.results202, Tryz.results243, Tryz.results205, Tryz.results137, Tryz.results133, Tryz.results131, Tryz.results134, go_sem, hzz]
end Go.Proofs.YtlbcmeebcfalpaaGreatDoor
