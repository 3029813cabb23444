/- Joined: IRrY, IRdA, CBldK, CWri. -/
import Derived.Test.YtlbcmeebcfalpaaGreatDoorR16
import Derived.Test.YtlbcmeebcfalpaaGreatDoorR15
import Derived.Test.YtlbcmeebcfalpaaGreatDoorR17
import Derived.Test.YtlbcmeebcfalpaaGreatDoorR01
import Derived.Test.YtlbcmeebcfalpaaGreatDoorR02
import Derived.Deep.QuietTactic
import Derived.BigQuiet
import Derived.IntWalk
set_option linter.unusedVariables false
set_option linter.unusedSimpArgs false
set_option maxRecDepth 100000
set_option maxHeartbeats 16000000
namespace Go.Proofs.YtlbcmeebcfalpaaGreatDoor
open Go.RowKit

theorem LT.isY_F2 {T : LT} (h : T.isY = true) : T.isF = true := by cases T <;> first | rfl | cases h
theorem rdY_st (T : LT) (hL : T.isY = true) (f : Nat) (hs : ∀ U : LT, T.us U = true -> Reads (.list U.k U.s U.ty) f U.ss (fun p => #[p, .func (.func U.rd) #[] #[]])) (hf : ∀ U : LT, T.uf U = true -> Reads U.ty f U.fi (fun p => #[p, .func (.func U.rd) #[] #[]])) : ReadsL T.ts f T.rd := by
  intro S rb wb a n c l g w hr hv hS hG
  have hb1 : Below w.heap.size w (w.alloc (.cells T.zero.toArray T.tid)) := (Below.refl _ _).alloc (Nat.le_refl _) _
  have hlt := hr.lt
  have hz := World.alloc_heap_new w (.cells T.zero.toArray T.tid)
  have HE : Hid (∀ (W : World) (ds : List Dv) (a1 : Option Addr) (n1 c1 : Nat) (l1 : List Vl) (g1 : Bool), Acc (InS S w) T.ts rb wb l g (w.alloc (.cells T.zero.toArray T.tid)) W ds a1 n1 c1 l1 g1 -> T.End S rb wb l g w W ds) := fun W ds a1 n1 c1 l1 g1 A => T.end_of (LT.isY_F2 hL) hlt hb1 hz A
  have A0 := hiq (Acc.init (S := InS S w) (hr.below hb1) ((hv.mono fun b h1 h2 => ⟨h1, h2⟩).below hb1) (Below.refl _ _))
  have hS2 : ∀ b, InS S w b -> b ≠ rb /\ b ≠ wb := fun b hb => hS b hb.1
  have hlt2 : rb < (w.alloc (.cells T.zero.toArray T.tid)).heap.size /\ wb < (w.alloc (.cells T.zero.toArray T.tid)).heap.size := by have := hb1.size; omega
  have CN := hiq (fun (ts : List Ty) (W : World) (ds : List Dv) (a : Option Addr) (n c : Nat) (l1 : List Vl) (g1 : Bool) (A : Acc (InS S w) ts rb wb l g (w.alloc (.cells T.zero.toArray T.tid)) W ds a n c l1 g1) => Acc.call (I := fun d => ∃ y, d = .int y) (rnum_any f) (fun d h => h.int_inv) hS2 hG hlt2 A)
  have CX := hiq (fun (ts : List Ty) (W : World) (ds : List Dv) (a : Option Addr) (n c : Nat) (l1 : List Vl) (g1 : Bool) (A : Acc (InS S w) ts rb wb l g (w.alloc (.cells T.zero.toArray T.tid)) W ds a n c l1 g1) => Acc.call (I := fun d => ∃ y, d = .text y) (rtext_any f) (fun d h => h.text_inv) hS2 hG hlt2 A)
  have CEint := hiq (fun (ts : List Ty) (W : World) (ds : List Dv) (a : Option Addr) (n c : Nat) (l1 : List Vl) (g1 : Bool) (A : Acc (InS S w) ts rb wb l g (w.alloc (.cells T.zero.toArray T.tid)) W ds a n c l1 g1) => Acc.call (elInt_any f) isList hS2 hG hlt2 A)
  have CEbool := hiq (fun (ts : List Ty) (W : World) (ds : List Dv) (a : Option Addr) (n c : Nat) (l1 : List Vl) (g1 : Bool) (A : Acc (InS S w) ts rb wb l g (w.alloc (.cells T.zero.toArray T.tid)) W ds a n c l1 g1) => Acc.call (elBool_any f) isList hS2 hG hlt2 A)
  have CEtext := hiq (fun (ts : List Ty) (W : World) (ds : List Dv) (a : Option Addr) (n c : Nat) (l1 : List Vl) (g1 : Bool) (A : Acc (InS S w) ts rb wb l g (w.alloc (.cells T.zero.toArray T.tid)) W ds a n c l1 g1) => Acc.call (elText_any f) isList hS2 hG hlt2 A)
  have CSop := hiq (fun (h : T.us .op = true) (ts : List Ty) (W : World) (ds : List Dv) (a : Option Addr) (n c : Nat) (l1 : List Vl) (g1 : Bool) (A : Acc (InS S w) ts rb wb l g (w.alloc (.cells T.zero.toArray T.tid)) W ds a n c l1 g1) => Acc.call (hs .op h) isList hS2 hG hlt2 A)
  have CSdec := hiq (fun (h : T.us .dec = true) (ts : List Ty) (W : World) (ds : List Dv) (a : Option Addr) (n c : Nat) (l1 : List Vl) (g1 : Bool) (A : Acc (InS S w) ts rb wb l g (w.alloc (.cells T.zero.toArray T.tid)) W ds a n c l1 g1) => Acc.call (hs .dec h) isList hS2 hG hlt2 A)
  have CSrew := hiq (fun (h : T.us .rew = true) (ts : List Ty) (W : World) (ds : List Dv) (a : Option Addr) (n c : Nat) (l1 : List Vl) (g1 : Bool) (A : Acc (InS S w) ts rb wb l g (w.alloc (.cells T.zero.toArray T.tid)) W ds a n c l1 g1) => Acc.call (hs .rew h) isList hS2 hG hlt2 A)
  have CSgrp := hiq (fun (h : T.us .grp = true) (ts : List Ty) (W : World) (ds : List Dv) (a : Option Addr) (n c : Nat) (l1 : List Vl) (g1 : Bool) (A : Acc (InS S w) ts rb wb l g (w.alloc (.cells T.zero.toArray T.tid)) W ds a n c l1 g1) => Acc.call (hs .grp h) isList hS2 hG hlt2 A)
  have CSpat := hiq (fun (h : T.us .pat = true) (ts : List Ty) (W : World) (ds : List Dv) (a : Option Addr) (n c : Nat) (l1 : List Vl) (g1 : Bool) (A : Acc (InS S w) ts rb wb l g (w.alloc (.cells T.zero.toArray T.tid)) W ds a n c l1 g1) => Acc.call (hs .pat h) isList hS2 hG hlt2 A)
  have CSsec := hiq (fun (h : T.us .sec = true) (ts : List Ty) (W : World) (ds : List Dv) (a : Option Addr) (n c : Nat) (l1 : List Vl) (g1 : Bool) (A : Acc (InS S w) ts rb wb l g (w.alloc (.cells T.zero.toArray T.tid)) W ds a n c l1 g1) => Acc.call (hs .sec h) isList hS2 hG hlt2 A)
  have CSrul := hiq (fun (h : T.us .rul = true) (ts : List Ty) (W : World) (ds : List Dv) (a : Option Addr) (n c : Nat) (l1 : List Vl) (g1 : Bool) (A : Acc (InS S w) ts rb wb l g (w.alloc (.cells T.zero.toArray T.tid)) W ds a n c l1 g1) => Acc.call (hs .rul h) isList hS2 hG hlt2 A)
  have CSwit := hiq (fun (h : T.us .wit = true) (ts : List Ty) (W : World) (ds : List Dv) (a : Option Addr) (n c : Nat) (l1 : List Vl) (g1 : Bool) (A : Acc (InS S w) ts rb wb l g (w.alloc (.cells T.zero.toArray T.tid)) W ds a n c l1 g1) => Acc.call (hs .wit h) isList hS2 hG hlt2 A)
  have CSnod := hiq (fun (h : T.us .nod = true) (ts : List Ty) (W : World) (ds : List Dv) (a : Option Addr) (n c : Nat) (l1 : List Vl) (g1 : Bool) (A : Acc (InS S w) ts rb wb l g (w.alloc (.cells T.zero.toArray T.tid)) W ds a n c l1 g1) => Acc.call (hs .nod h) isList hS2 hG hlt2 A)
  have CSexp := hiq (fun (h : T.us .exp = true) (ts : List Ty) (W : World) (ds : List Dv) (a : Option Addr) (n c : Nat) (l1 : List Vl) (g1 : Bool) (A : Acc (InS S w) ts rb wb l g (w.alloc (.cells T.zero.toArray T.tid)) W ds a n c l1 g1) => Acc.call (hs .exp h) isList hS2 hG hlt2 A)
  have CFexp := hiq (fun (h : T.uf .exp = true) (ts : List Ty) (W : World) (ds : List Dv) (a : Option Addr) (n c : Nat) (l1 : List Vl) (g1 : Bool) (A : Acc (InS S w) ts rb wb l g (w.alloc (.cells T.zero.toArray T.tid)) W ds a n c l1 g1) => Acc.call (I := LT.Inv .exp) (hf .exp h) (fun d h => LT.inv .exp h) hS2 hG hlt2 A)
  have CFcst := hiq (fun (h : T.uf .cst = true) (ts : List Ty) (W : World) (ds : List Dv) (a : Option Addr) (n c : Nat) (l1 : List Vl) (g1 : Bool) (A : Acc (InS S w) ts rb wb l g (w.alloc (.cells T.zero.toArray T.tid)) W ds a n c l1 g1) => Acc.call (I := LT.Inv .cst) (hf .cst h) (fun d h => LT.inv .cst h) hS2 hG hlt2 A)
  have CFsty := hiq (fun (h : T.uf .sty = true) (ts : List Ty) (W : World) (ds : List Dv) (a : Option Addr) (n c : Nat) (l1 : List Vl) (g1 : Bool) (A : Acc (InS S w) ts rb wb l g (w.alloc (.cells T.zero.toArray T.tid)) W ds a n c l1 g1) => Acc.call (I := LT.Inv .sty) (hf .sty h) (fun d h => LT.inv .sty h) hS2 hG hlt2 A)
  clear hr hv hS hG hb1 hz hS2 hlt2 hs hf
  change Calls _ _ #[.pointer (some ⟨rb, 0, none⟩)] _ _
  cases T
  case' edi => go_enter Tryz.func33, Tryz.ntmps33
  case op => cases hL
  case dec => cases hL
  case rew => cases hL
  case grp => cases hL
  case pat => cases hL
  case sec => cases hL
  case rul => cases hL
  case wit => cases hL
  case nod => cases hL
  case exp => cases hL
  case cst => cases hL
  case sty => cases hL
  case int => cases hL
  case bool => cases hL
  case text => cases hL
  case pos => cases hL
  case tok => cases hL
  case inp => cases hL
  case toks => cases hL
  all_goals
    dsimp only [LT.ts, LT.rd, LT.tid, LT.zero, LT.us, LT.uf, LT.ss, LT.fi, LT.k, LT.s, LT.ty, LT.Inv, IsList] at *
    go_wp2_with fail
    generalize w.alloc (.cells _ _) = W1 at *
    repeat
      first
        | with_reducible refine (CN.out _ _ _ _ _ _ _ _ A0.out).mono ?_
        | with_reducible refine (CX.out _ _ _ _ _ _ _ _ A0.out).mono ?_
        | with_reducible refine (CEint.out _ _ _ _ _ _ _ _ A0.out).mono ?_
        | with_reducible refine (CEbool.out _ _ _ _ _ _ _ _ A0.out).mono ?_
        | with_reducible refine (CEtext.out _ _ _ _ _ _ _ _ A0.out).mono ?_
        | with_reducible refine (CSop.out (by trivial) _ _ _ _ _ _ _ _ A0.out).mono ?_
        | with_reducible refine (CSdec.out (by trivial) _ _ _ _ _ _ _ _ A0.out).mono ?_
        | with_reducible refine (CSrew.out (by trivial) _ _ _ _ _ _ _ _ A0.out).mono ?_
        | with_reducible refine (CSgrp.out (by trivial) _ _ _ _ _ _ _ _ A0.out).mono ?_
        | with_reducible refine (CSpat.out (by trivial) _ _ _ _ _ _ _ _ A0.out).mono ?_
        | with_reducible refine (CSsec.out (by trivial) _ _ _ _ _ _ _ _ A0.out).mono ?_
        | with_reducible refine (CSrul.out (by trivial) _ _ _ _ _ _ _ _ A0.out).mono ?_
        | with_reducible refine (CSwit.out (by trivial) _ _ _ _ _ _ _ _ A0.out).mono ?_
        | with_reducible refine (CSnod.out (by trivial) _ _ _ _ _ _ _ _ A0.out).mono ?_
        | with_reducible refine (CSexp.out (by trivial) _ _ _ _ _ _ _ _ A0.out).mono ?_
        | with_reducible refine (CFexp.out (by trivial) _ _ _ _ _ _ _ _ A0.out).mono ?_
        | with_reducible refine (CFcst.out (by trivial) _ _ _ _ _ _ _ _ A0.out).mono ?_
        | with_reducible refine (CFsty.out (by trivial) _ _ _ _ _ _ _ _ A0.out).mono ?_
      rintro e V ⟨d, a1, n1, c1, l1, g1, he, hi, A1⟩
      clear A0
      have A0 := hiq A1
      clear A1
      repeat (rcases (hi : ∃ _, _) with ⟨_, hi⟩)
      subst hi
      simp only [Dv.val, Dv.cells, Dv.cellsL, List.cons_append, List.nil_append, List.append_nil] at he
      subst he
      first
        | have hend := HE.out _ _ _ _ _ _ _ A0.out
          obtain ⟨WF, hst, hzz, HF⟩ := hend
          simp only [StL, LdV, Dv.cells, Dv.cellsL, List.cons_append, List.nil_append, List.append_nil] at hst hzz HF
          have HST := hiq hst
          have HZZ := hiq hzz
          have HF := hiq HF
          clear hst hzz A0 HE CN CX CEint CEbool CEtext CSop CSdec CSrew CSgrp CSpat CSsec CSrul CSwit CSnod CSexp CFexp CFcst CFsty
          go_wp2_with ((with_reducible refine wpList_stL HST.out rfl _ _ _ rfl ?_ ?_ ?_ ?_); rfl; rfl; kernel_rfl)
          exact ret_ldL HZZ.out rfl rfl rfl HF.out
          done
        | go_wp2_with fail
end Go.Proofs.YtlbcmeebcfalpaaGreatDoor
namespace Go.Proofs.YtlbcmeebcfalpaaGreatDoor
open Go.RowKit

theorem rf_any (T : LT) (hL : T.isF = true) (f : Nat) (h : ReadsL T.ts (f - 1) T.rd) : Reads T.ty f T.fi (fun p => #[p, .func (.func T.rd) #[] #[]]) := by
  cases T <;> first | (cases hL; done) | exact rfA_any _ rfl f h | exact rfB_any _ rfl f h | exact rfC_any _ rfl f h | exact rfD_any _ rfl f h | exact rfY_any _ rfl f h
theorem rd_st (T : LT) (hL : T.isF = true) (f : Nat) (hs : ∀ U : LT, T.us U = true -> Reads (.list U.k U.s U.ty) f U.ss (fun p => #[p, .func (.func U.rd) #[] #[]])) (hf : ∀ U : LT, T.uf U = true -> Reads U.ty f U.fi (fun p => #[p, .func (.func U.rd) #[] #[]])) : ReadsL T.ts f T.rd := by
  cases T <;> first | (cases hL; done) | exact rdA_st _ rfl f hs hf | exact rdB_st _ rfl f hs hf | exact rdC_st _ rfl f hs hf | exact rdD_st _ rfl f hs hf | exact rdY_st _ rfl f hs hf
/-- A list of structs, from the reader of its fields two levels down. -/
theorem ss_of {U : LT} (hU : U.isS = true) (f : Nat) (h : 0 < f -> ReadsL U.ts (f - 1 - 1) U.rd) : Reads (.list U.k U.s U.ty) f U.ss (fun p => #[p, .func (.func U.rd) #[] #[]]) :=
  ss_any U hU f fun h0 => rf_any U (LT.isS_F hU) (f - 1) (h h0)
theorem rd_leaf (T : LT) (hL : T.isF = true) (h1 : ∀ U, T.us U = false) (h2 : ∀ U, T.uf U = false) (f : Nat) : ReadsL T.ts f T.rd :=
  rd_st T hL f (fun U h => by rw [h1] at h; cases h) (fun U h => by rw [h2] at h; cases h)
theorem rd_self (T : LT) (hL : T.isF = true) (hS : T.isS = true) (h1 : ∀ U, T.us U = true -> U = T) (h2 : ∀ U, T.uf U = false) : ∀ f, ReadsL T.ts f T.rd := by
  intro f
  induction f using Nat.strongRecOn with
  | _ f ih =>
    refine rd_st T hL f (fun U h => ?_) (fun U h => by rw [h2] at h; cases h)
    obtain rfl := h1 U h
    exact ss_of hS f fun h0 => ih _ (by omega)
theorem rd_up (T : LT) (hL : T.isF = true) (h1 : ∀ U, T.us U = true -> U.isS = true /\ ∀ f, ReadsL U.ts f U.rd) (h2 : ∀ U, T.uf U = true -> U.isF = true /\ ∀ f, ReadsL U.ts f U.rd) (f : Nat) : ReadsL T.ts f T.rd :=
  rd_st T hL f (fun U h => ss_of (h1 U h).1 f fun _ => (h1 U h).2 _) (fun U h => rf_any U (h2 U h).1 f ((h2 U h).2 _))
theorem rd_low (T : LT) (h : (match T with | .op => true | .dec => true | .rew => true | .grp => true | .pat => true | .cst => true | .sty => true | _ => false) = true) (f : Nat) : ReadsL T.ts f T.rd := by
  cases T <;> first | (cases h; done) | exact rd_leaf _ rfl (fun U => by cases U <;> rfl) (fun U => by cases U <;> rfl) f
theorem rd_nod (f : Nat) : ReadsL LT.nod.ts f LT.nod.rd := rd_self .nod rfl rfl (fun U h => by cases U <;> first | rfl | cases h) (fun U => by cases U <;> rfl) f
theorem rd_exp (f : Nat) : ReadsL LT.exp.ts f LT.exp.rd := rd_self .exp rfl rfl (fun U h => by cases U <;> first | rfl | cases h) (fun U => by cases U <;> rfl) f
theorem rd_sec (f : Nat) : ReadsL LT.sec.ts f LT.sec.rd := rd_up .sec rfl (fun U h => by cases U <;> first | (cases h; done) | exact ⟨rfl, rd_low _ rfl⟩) (fun U h => by cases U <;> cases h) f
theorem rd_wit (f : Nat) : ReadsL LT.wit.ts f LT.wit.rd := rd_up .wit rfl (fun U h => by cases U <;> first | (cases h; done) | exact ⟨rfl, rd_nod⟩) (fun U h => by cases U <;> cases h) f
theorem rd_rul (f : Nat) : ReadsL LT.rul.ts f LT.rul.rd := rd_up .rul rfl (fun U h => by cases U <;> cases h) (fun U h => by cases U <;> first | (cases h; done) | exact ⟨rfl, rd_exp⟩) f
theorem rd_edi (f : Nat) : ReadsL LT.edi.ts f LT.edi.rd :=
  rd_up .edi rfl (fun U h => by cases U <;> first | (cases h; done) | exact ⟨rfl, rd_low _ rfl⟩ | exact ⟨rfl, rd_sec⟩ | exact ⟨rfl, rd_wit⟩ | exact ⟨rfl, rd_rul⟩) (fun U h => by cases U <;> first | (cases h; done) | exact ⟨rfl, rd_low _ rfl⟩) f
/-- The reading of an edition. -/
theorem edition_fields (f : Nat) : Reads tyEdition f LT.edi.fi (fun p => #[p, .func (.func LT.edi.rd) #[] #[]]) := rf_any .edi rfl f (rd_edi _)
end Go.Proofs.YtlbcmeebcfalpaaGreatDoor
namespace Go.Proofs.YtlbcmeebcfalpaaGreatDoor
open Go.RowKit Go.Shelf

/-- Cells that are no bytes, outside of block b, stay. -/
def KeepT (b : Nat) (w w' : World) : Prop := w.heap.size <= w'.heap.size /\ ∀ x cs t fr, x ≠ b -> t ≠ 5 -> w.heap[x]? = some (.cells cs t fr) -> w'.heap[x]? = some (.cells cs t fr)
namespace KeepT
variable {b : Nat} {w w' w'' : World}
theorem refl (b : Nat) (w : World) : KeepT b w w := ⟨Nat.le_refl _, fun _ _ _ _ _ _ h => h⟩
theorem trans (h : KeepT b w w') (k : KeepT b w' w'') : KeepT b w w'' := ⟨Nat.le_trans h.1 k.1, fun x cs t fr h1 h2 hx => k.2 x cs t fr h1 h2 (h.2 x cs t fr h1 h2 hx)⟩
theorem below (h : Below w.heap.size w w') : KeepT b w w' := ⟨h.size, fun x cs t fr _ _ hx => by rw [h.block x (Array.getElem?_eq_some_iff.1 hx).1]; exact hx⟩
theorem setCell (w : World) (b j : Nat) (v : Value) : KeepT b w (w.setCell ⟨b, j, none⟩ v) :=
  ⟨by simp [World.setCell], fun x cs t fr h1 _ hx => by rw [Below.heap_setCell _ _ _ _ (by simpa using h1)]; exact hx⟩
theorem grown {B : Nat} {v : Value} {n : Nat} {xs : List Value} (hown : w.ownsRow B 5 1 v n xs) (hg : w.grownBy w' v.ownBlock) : KeepT b w w' :=
  ⟨hg.size, fun x cs t fr _ ht hx => by
    rw [hg.block x (Array.getElem?_eq_some_iff.1 hx).1 (fun e => ?_)]
    · exact hx
    · rcases hown.2 with ⟨rfl, _⟩ | ⟨g, c, cur, rfl, _, hgb, _⟩
      · cases e
      · cases e
        rw [hgb] at hx
        cases hx
        exact ht rfl⟩
end KeepT
theorem copyCheck_K (B b : Nat) (bs : List Value) (w : World) (h : Bld B b bs w) :
    Calls Tryz.prog 241 #[.pointer (some ⟨b, 0, none⟩)] w fun e w' => e = .returned (.tuple #[]) /\ (Lib.BuilderAt 265 5 B b (.pointer (some ⟨b, 0, none⟩)) bs w' /\ Below B w w' /\ KeepT b w w') := by
  rcases h with h | h
  · refine (copyCheck_fresh b w h.cell0 h.shape h.frozen0).mono ?_
    rintro e w' ⟨rfl, rfl⟩
    exact ⟨rfl, h.used _, (Below.refl B w).setCell (p := ⟨b, 0, none⟩) h.1 _, KeepT.setCell _ _ _ _⟩
  · refine (copyCheck_used b w h.cell0).mono ?_
    rintro e w' ⟨rfl, rfl⟩
    exact ⟨rfl, h, Below.refl B _, KeepT.refl _ _⟩
theorem writeString_K (B b : Nat) (bs : List Value) (s : ByteArray) (w : World) (h : Bld B b bs w) (hlen : bs.length + s.size <= 140737488355328) (hBw : B <= w.heap.size) :
    Calls Tryz.prog 197 #[.pointer (some ⟨b, 0, none⟩), .string s] w fun e w' => e = .returned (.tuple #[.int .i64 s.size, .nilIface]) /\ Bld B b (bs ++ Lib.strCells s) w' /\ Below B w w' /\ KeepT b w w' := by
  obtain ⟨i0, hi, hz0, hz1, hz2⟩ := info_parts Tryz.infoByte
  have F := hiq (copyCheck_K B b bs w h)
  go_enter Tryz.func197, Tryz.ntmps197
  go_wp2_with fail
  refine F.out.mono ?_
  rintro e w1 ⟨rfl, h1, hb1, hk1⟩
  obtain ⟨hB, v, hbk, hown, hne⟩ := h1
  have c0 : w1.cell? ⟨b, 0, none⟩ = some (.pointer (some ⟨b, 0, none⟩)) := by rw [Lib.cell_of_heap hbk]; rfl
  have c1 : w1.cell? ⟨b, 1, none⟩ = some v := by rw [Lib.cell_of_heap hbk]; rfl
  have HBK := hiq hbk
  clear hbk F
  go_wp2_with (at_builtin; refine Lib.wpList_append_own_string _ rfl _ _ 183 9 rfl B 5 i0 Tryz.underlying183 Tryz.underlying9 hi hz0 hz1 hz2 _ _ _ rfl hown s rfl ?c3 ?c4 ?c5 ?_)
  case c3 => unfold maxLen; omega
  case c4 => omega
  case c5 => have := hb1.size; omega
  intro v' w2 hown' hgrow _
  have hbk := HBK.out
  have hlt : b < w1.heap.size := (Array.getElem?_eq_some_iff.1 hbk).1
  have hb2 : w2.heap[b]? = some (.cells #[.pointer (some ⟨b, 0, none⟩), v] 265 (0, 0)) := by
    rw [hgrow.block b hlt (fun e => hne e.symm)]
    exact hbk
  have d0 : w2.cell? ⟨b, 0, none⟩ = some (.pointer (some ⟨b, 0, none⟩)) := by rw [Lib.cell_of_heap hb2]; rfl
  have d1 : w2.cell? ⟨b, 1, none⟩ = some v := by rw [Lib.cell_of_heap hb2]; rfl
  have f1 : w2.frozen? ⟨b, 1, none⟩ = false := Lib.frozen_of_heap hb2 1
  obtain ⟨ao, n', cap, rfl⟩ : ∃ ao n' cap, v' = .slice ao n' cap := by
    rcases hown'.2 with ⟨hv, _⟩ | ⟨g, cap, cur, hv, _⟩
    · exact ⟨_, _, _, hv⟩
    · exact ⟨_, _, _, hv⟩
  have HB2 := hiq hb2
  clear hb2 hbk
  go_wp2
  go_ret2
  refine ⟨rfl, .inr ?_, ?_, ?_⟩
  · exact Lib.BuilderAt.put (T := 265) (e := 5) hB HB2.out (bs' := bs ++ Lib.strCells s) (by simpa [Lib.strCells_length] using hown') (by decide)
  · exact (hb1.grown hgrow (by have := hb1.size; omega) (fun k hk => (hown.lt k hk).1)).setCell (p := ⟨b, 1, none⟩) hB _
  · exact (hk1.trans (KeepT.grown hown hgrow)).trans (KeepT.setCell _ _ _ _)
theorem writeByte_K (B b : Nat) (bs : List Value) (c : UInt8) (w : World) (h : Bld B b bs w) (hlen : bs.length + 1 <= 140737488355328) (hBw : B <= w.heap.size) :
    Calls Tryz.prog 200 #[.pointer (some ⟨b, 0, none⟩), .int .u8 c.toNat] w fun e w' => e = .returned (.nilIface) /\ Bld B b (bs ++ [.int .u8 c.toNat]) w' /\ Below B w w' /\ KeepT b w w' := by
  obtain ⟨i0, hi, hz0, hz1, hz2⟩ := info_parts Tryz.infoByte
  have F := hiq (copyCheck_K B b bs w h)
  go_enter Tryz.func200, Tryz.ntmps200
  go_wp2_with fail
  refine F.out.mono ?_
  rintro e w1 ⟨rfl, h1, hb1, hk1⟩
  obtain ⟨hB, v, hbk, hown, hne⟩ := h1
  have c0 : w1.cell? ⟨b, 0, none⟩ = some (.pointer (some ⟨b, 0, none⟩)) := by rw [Lib.cell_of_heap hbk]; rfl
  have c1 : w1.cell? ⟨b, 1, none⟩ = some v := by rw [Lib.cell_of_heap hbk]; rfl
  have HBK := hiq hbk
  clear hbk F
  go_wp2_with (at_builtin; refine wpList_append_own _ rfl _ _ 183 rfl B 5 i0 (.int .u8 0) 1 1 Tryz.underlying183 hi hz0 hz1 hz2 rfl (by decide) _ _ _ rfl (hown.alloc _) ⟨w1.heap.size, 0, none⟩ 1 1 [.int .u8 c.toNat] rfl rfl (cell_one_new _ _ _) (by simp [Value.oneCell']) ?c3 ?c4 ?c5 ?_)
  case c3 => unfold maxLen; omega
  case c4 => omega
  case c5 => have := hb1.size; simp; omega
  intro v' w2 hown' hgrow _
  have hbk := HBK.out
  have hlt : b < w1.heap.size := (Array.getElem?_eq_some_iff.1 hbk).1
  have hb2 : w2.heap[b]? = some (.cells #[.pointer (some ⟨b, 0, none⟩), v] 265 (0, 0)) := by
    rw [hgrow.block b (by simp; omega) (fun e => hne e.symm), Below.heap_alloc _ _ _ hlt]
    exact hbk
  have d0 : w2.cell? ⟨b, 0, none⟩ = some (.pointer (some ⟨b, 0, none⟩)) := by rw [Lib.cell_of_heap hb2]; rfl
  have d1 : w2.cell? ⟨b, 1, none⟩ = some v := by rw [Lib.cell_of_heap hb2]; rfl
  have f1 : w2.frozen? ⟨b, 1, none⟩ = false := Lib.frozen_of_heap hb2 1
  obtain ⟨ao, n', cap, rfl⟩ : ∃ ao n' cap, v' = .slice ao n' cap := by
    rcases hown'.2 with ⟨hv, _⟩ | ⟨g, cap, cur, hv, _⟩
    · exact ⟨_, _, _, hv⟩
    · exact ⟨_, _, _, hv⟩
  have HB2 := hiq hb2
  clear hb2 hbk
  go_wp2
  go_ret
  refine ⟨rfl, .inr ?_, ?_, ?_⟩
  · exact Lib.BuilderAt.put (T := 265) (e := 5) hB HB2.out (bs' := bs ++ [.int .u8 c.toNat]) (by simpa using hown') (by decide)
  · have hbs := hb1.size
    exact ((hb1.alloc (by omega) _).grown hgrow (by simp; omega) (fun k hk => (hown.lt k hk).1)).setCell (p := ⟨b, 1, none⟩) hB _
  · exact ((hk1.trans (KeepT.below ((Below.refl _ _).alloc (Nat.le_refl _) _))).trans (KeepT.grown (hown.alloc _) hgrow)).trans (KeepT.setCell _ _ _ _)
end Go.Proofs.YtlbcmeebcfalpaaGreatDoor
namespace Go.Proofs.YtlbcmeebcfalpaaGreatDoor
open Go.RowKit Go.Shelf

/-- How write ends. -/
def WriPost (B b : Nat) (out ev : List UInt8) (w : World) (e : Ending) (w' : World) : Prop := ∃ (ok : Bool) (r : List UInt8), e = .returned (.bool ok) /\ Bld B b (Lib.byteCells r) w' /\ Below B w w' /\ KeepT b w w' /\
  (out.length + ev.length <= 1048576 -> ok = true /\ r = out ++ ev) /\ (1048576 < out.length + ev.length -> ok = false)
theorem strCells_eq {s : ByteArray} {l : List UInt8} (h : s.data.toList = l) : Lib.strCells s = Lib.byteCells l := by rw [Lib.strCells, h]; rfl
theorem size_eq {s : ByteArray} {l : List UInt8} (h : s.data.toList = l) : s.size = l.length := by rw [<- h]; simp
theorem cat3 (a b c : List UInt8) : (({ data := a.toArray } : ByteArray) ++ { data := b.toArray } ++ { data := c.toArray }).data.toList = a ++ b ++ c := by
  simp [ByteArray.data_append]
theorem byteCells_append (a b : List UInt8) : Lib.byteCells (a ++ b) = Lib.byteCells a ++ Lib.byteCells b := by simp [Lib.byteCells]
theorem Bld.below {B b : Nat} {bs : List Value} {w w' : World} (h : Bld B b bs w) (hb : Below w.heap.size w w') : Bld B b bs w' := by
  have key : ∀ p, Lib.BuilderAt 265 5 B b p bs w -> Lib.BuilderAt 265 5 B b p bs w' := by
    rintro p ⟨h1, v, h2, h3, h4⟩
    exact ⟨h1, v, by rw [hb.block b (Array.getElem?_eq_some_iff.1 h2).1]; exact h2, ownsRow_below h3 hb, h4⟩
  exact h.elim (fun x => .inl (key _ x)) (fun x => .inr (key _ x))
theorem Bld.lt {B b : Nat} {bs : List Value} {w : World} (h : Bld B b bs w) : B <= b /\ b < w.heap.size := by
  rcases h with h | h <;> exact ⟨h.1, h.lt⟩
theorem write_int (S : Nat -> Prop) (B b bw : Nat) (out : List UInt8) (nn : Int) (t : ByteArray) (aa : Option Addr) (cc : Nat) (l : List Vl) (w : World) (hrd : Rd S w (.mk 1 nn t aa cc l)) (ho : Bld B b (Lib.byteCells out) w) (hn : out.length <= 1100000) (hBw : B <= w.heap.size) (hE : EnvB B w) :
    Calls Tryz.prog 196 #[.agg #[.int .i64 1, .int .i64 nn, .string t, .slice aa l.length cc], .pointer (some ⟨b, 0, none⟩), .pointer (some ⟨bw, 0, none⟩)] w (WriPost B b out (leafV (.mk 1 nn t (l.map Vl.er))) w) := by
  have hI := (rd_iff.1 hrd).2.1
  change I64 nn at hI
  have hil := Lib.itoa_length_le nn hI.1 hI.2
  have IT : Hid (∀ W, EnvB B W -> _) := fun W hE' => itoa_any nn hI W hE'.env
  have hb1 : Below w.heap.size w (w.alloc (.cells #[.int .i64 1, .int .i64 nn, .string t, .slice aa l.length cc] 24)) := (Below.refl _ _).alloc (Nat.le_refl _) _
  have hE1 := hE.below (hb1.mono hBw)
  have hs1 : w.heap.size <= (w.alloc (.cells #[.int .i64 1, .int .i64 nn, .string t, .slice aa l.length cc] 24)).heap.size := hb1.size
  have ho1 := ho.below hb1
  have hst : ({ data := #[105] } ++ { data := (Lib.itoa nn).toArray } ++ { data := #[59] } : ByteArray).data.toList = [105] ++ Lib.itoa nn ++ [59] := cat3 [105] _ [59]
  have hlf : leafV (.mk 1 nn t (l.map Vl.er)) = [105] ++ Lib.itoa nn ++ [59] := by
    show (if (1 : Int) = 1 then (105 :: (Lib.itoa nn ++ [59])) else _) = _
    simp
  rw [hlf]
  have HC := hiq (strCells_eq hst)
  have HZ := hiq (size_eq hst)
  have hll : ([105] ++ Lib.itoa nn ++ [59]).length <= 23 := by simp; omega
  generalize [105] ++ Lib.itoa nn ++ [59] = LF at *
  clear hI hrd hst hlf hE ho
  go_enter Tryz.func196, Tryz.ntmps196
  go_wp2_with (go_at_call 198; refine (IT.out _ hE1).mono ?_; rintro e w2 ⟨rfl, b2⟩; have z2 := b2.size; have o2 := ho1.below b2; have hb2 := hb1.trans (b2.mono hb1.size))
  generalize ({ data := #[105] } ++ { data := (Lib.itoa nn).toArray } ++ { data := #[59] } : ByteArray) = TX at *
  refine (writeString_K B b _ TX w2 o2 (by rw [Lib.byteCells_length, HZ.out]; omega) (by omega)).mono ?_
  rintro e w3 ⟨rfl, o3, b3, k3⟩
  rw [HC.out, <- byteCells_append] at o3
  have hb3 := (hb2.mono hBw).trans b3
  have hk3 := (KeepT.below (b := b) hb2).trans k3
  have LN := Tryz.Builder_Len B b _ w3 o3
  rw [Lib.byteCells_length] at LN
  have HLN := hiq LN
  clear LN HC HZ IT
  generalize hX : out ++ LF = X at *
  have hXl : X.length = out.length + LF.length := by rw [<- hX, List.length_append]
  have HX := hiq hX
  have HXL := hiq hXl
  clear hX hXl
  by_cases hM : X.length <= 1048576
  · go_wp2_with (go_at_call 199; refine HLN.out.mono ?_; rintro e w4 ⟨rfl, rfl⟩)
    go_ret
    have dM : decide ((X.length : Int) <= 1048576) = true := by rw [decide_eq_true_eq]; omega
    exact ⟨true, X, by simp; omega, o3, hb3, hk3, fun _ => ⟨rfl, HX.out.symm⟩, fun h => by have := HXL.out; omega⟩
  · go_wp2_with (go_at_call 199; refine HLN.out.mono ?_; rintro e w4 ⟨rfl, rfl⟩)
    go_ret
    exact ⟨false, X, by simp; omega, o3, hb3, hk3, fun h => by have := HXL.out; omega, fun _ => rfl⟩
end Go.Proofs.YtlbcmeebcfalpaaGreatDoor

namespace Go.Proofs.YtlbcmeebcfalpaaGreatDoor
open Go.RowKit Go.Shelf

theorem Bld.drew {B b : Nat} {bs : List Value} {w : World} (h : Bld B b bs w) (k : Nat) : Bld B b bs (w.drewN k) := h.below (below_drewN (Below.refl _ _) k)
theorem write_text (B b bw : Nat) (out : List UInt8) (nn : Int) (t : ByteArray) (aa : Option Addr) (cc : Nat) (l : List Vl) (w : World) (htz : t.size <= 1048576) (ho : Bld B b (Lib.byteCells out) w) (hn : out.length <= 1100000) (hBw : B <= w.heap.size) (hE : EnvB B w) :
    Calls Tryz.prog 196 #[.agg #[.int .i64 2, .int .i64 nn, .string t, .slice aa l.length cc], .pointer (some ⟨b, 0, none⟩), .pointer (some ⟨bw, 0, none⟩)] w (WriPost B b out (leafV (.mk 2 nn t (l.map Vl.er))) w) := by
  have hI : I64 (t.size : Int) := ⟨by omega, by omega⟩
  have hil := Lib.itoa_length_le (t.size : Int) hI.1 hI.2
  have IT : Hid (∀ W, EnvB B W -> _) := fun W hE' => itoa_any (t.size : Int) hI W hE'.env
  have hb1 : Below w.heap.size w (w.alloc (.cells #[.int .i64 2, .int .i64 nn, .string t, .slice aa l.length cc] 24)) := (Below.refl _ _).alloc (Nat.le_refl _) _
  have hE1 := hE.below (hb1.mono hBw)
  have hs1 : w.heap.size <= (w.alloc (.cells #[.int .i64 2, .int .i64 nn, .string t, .slice aa l.length cc] 24)).heap.size := hb1.size
  have ho1 := ho.below hb1
  have x2 : (w.alloc (.cells #[.int .i64 2, .int .i64 nn, .string t, .slice aa l.length cc] 24)).heap[w.heap.size]? = some (.cells #[.int .i64 2, .int .i64 nn, .string t, .slice aa l.length cc] 24 (0, 0)) := (by simp only [World.alloc]; exact Array.getElem?_push_size)
  have hbne : w.heap.size ≠ b := by have := ho.lt; omega
  have HNE := hiq hbne
  have hst : ({ data := #[115] } ++ { data := (Lib.itoa (t.size : Int)).toArray } ++ { data := #[58] } : ByteArray).data.toList = [115] ++ Lib.itoa (t.size : Int) ++ [58] := cat3 [115] _ [58]
  have hlf : leafV (.mk 2 nn t (l.map Vl.er)) = ([115] ++ Lib.itoa (t.size : Int) ++ [58]) ++ t.data.toList := by
    simp [leafV, V.kind, V.text]
  rw [hlf]
  have HC := hiq (strCells_eq hst)
  have HZ := hiq (size_eq hst)
  have hll : ([115] ++ Lib.itoa (t.size : Int) ++ [58]).length <= 23 := by simp; omega
  generalize [115] ++ Lib.itoa (t.size : Int) ++ [58] = LF at *
  have htl : t.data.toList.length = t.size := by simp
  have HTL := hiq htl
  have HX2 := hiq x2
  clear hI hst hlf hE ho hbne htl x2
  go_enter Tryz.func196, Tryz.ntmps196
  go_wp2_with (go_at_call 198; refine (IT.out _ hE1).mono ?_; rintro e w2 ⟨rfl, b2⟩; have z2 := b2.size; have o2 := ho1.below b2; have hb2 := hb1.trans (b2.mono hb1.size))
  generalize ({ data := #[115] } ++ { data := (Lib.itoa (t.size : Int)).toArray } ++ { data := #[58] } : ByteArray) = TX at *
  refine (writeString_K B b _ TX w2 o2 (by rw [Lib.byteCells_length, HZ.out]; omega) (by omega)).mono ?_
  rintro e w3 ⟨rfl, o3, b3, k3⟩
  rw [HC.out, <- byteCells_append] at o3
  have hb3 := (hb2.mono hBw).trans b3
  have hk3 := (KeepT.below (b := b) hb2).trans k3
  have X3 := hiq (((KeepT.below (b := b) b2).trans k3).2 _ _ _ _ HNE.out (by decide) HX2.out)
  have x32 : w3.cell? ⟨w.heap.size, 2, none⟩ = some (.string t) := by rw [Lib.cell_of_heap X3.out]; rfl
  have LN : ∀ k, Calls Tryz.prog 199 #[.pointer (some ⟨b, 0, none⟩)] (w3.drewN k) fun e w' => e = .returned (.int .i64 (out ++ LF).length) /\ w' = w3.drewN k := fun k => by
    have := Tryz.Builder_Len B b _ _ (o3.drew k)
    rwa [Lib.byteCells_length] at this
  have HLN := hiq LN
  have hzz := b3.size
  clear LN HC HZ IT
  generalize hX : out ++ LF = X at *
  have hXl : X.length = out.length + LF.length := by rw [<- hX, List.length_append]
  have HX := hiq hX
  have HXL := hiq hXl
  have hXb : X.length <= 1200000 := by omega
  clear hX hXl
  have hw1 : IntKind.i64.wrap ((X.length : Int) + (t.size : Int)) = (X.length : Int) + (t.size : Int) := IntWalk.i64_in _ (by omega)
  by_cases hM : X.length + t.size <= 1048576
  · have dM : decide ((X.length : Int) + (t.size : Int) <= 1048576) = true := by rw [decide_eq_true_eq]; omega
    go_wp2_with fail
    go_quiet ((go_at_call 199; exact Calls.quiet_of_same (HLN.out _)))
    have o4 := o3.drew nq
    have b4 : Below w3.heap.size w3 (w3.drewN nq) := below_drewN (Below.refl _ _) nq
    have hb4 := hb3.trans (b4.mono (by have := hb3.size; omega))
    have hk4 := hk3.trans (KeepT.below (b := b) b4)
    have x42 : (w3.drewN nq).cell? ⟨w.heap.size, 2, none⟩ = some (.string t) := by rw [World.cell?_drewN]; exact x32
    have z4 := b4.size
    generalize w3.drewN nq = w4 at *
    clear HLN x32 dM b4
    go_wp2_with fail
    refine (writeString_K B b _ t w4 o4 (by rw [Lib.byteCells_length]; omega) (by omega)).mono ?_
    rintro e w5 ⟨rfl, o5, b5, k5⟩
    rw [strCells_eq rfl, <- byteCells_append] at o5
    have hb5 := hb4.trans b5
    have hk5 := hk4.trans k5
    have LN5 := Tryz.Builder_Len B b _ w5 o5
    rw [Lib.byteCells_length] at LN5
    have HLN5 := hiq LN5
    clear LN5
    generalize hY : X ++ t.data.toList = Y at *
    have hYl : Y.length = X.length + t.size := by rw [<- hY, List.length_append, HTL.out]
    have HY := hiq hY
    have HYL := hiq hYl
    clear hY hYl
    go_wp2_with (go_at_call 199; refine HLN5.out.mono ?_; rintro e w6 ⟨rfl, rfl⟩)
    go_ret
    have h1 := HYL.out
    have h2 := HXL.out
    have h3 := HTL.out
    refine ⟨true, Y, by simp; omega, o5, hb5, hk5, fun _ => ⟨rfl, by rw [<- HY.out, <- HX.out, List.append_assoc]⟩, fun h => ?_⟩
    rw [List.length_append] at h; omega
  · have dM : decide ((X.length : Int) + (t.size : Int) <= 1048576) = false := by rw [decide_eq_false_iff_not]; omega
    go_wp2_with fail
    go_quiet ((go_at_call 199; exact Calls.quiet_of_same (HLN.out _)))
    have o4 := o3.drew nq
    have b4 : Below w3.heap.size w3 (w3.drewN nq) := below_drewN (Below.refl _ _) nq
    have hb4 := hb3.trans (b4.mono (by have := hb3.size; omega))
    have hk4 := hk3.trans (KeepT.below (b := b) b4)
    clear HLN x32 dM b4
    go_wp2
    go_ret
    have h2 := HXL.out
    have h3 := HTL.out
    refine ⟨false, X, rfl, o4, hb4, hk4, fun h => ?_, fun _ => rfl⟩
    rw [List.length_append] at h; omega
end Go.Proofs.YtlbcmeebcfalpaaGreatDoor

namespace Go.Proofs.YtlbcmeebcfalpaaGreatDoor
open Go.RowKit Go.Shelf

theorem WriPost.pre {B b : Nat} {out ev : List UInt8} {w w1 : World} {e : Ending} {w' : World} (hb : Below B w w1) (hk : KeepT b w w1) (h : WriPost B b out ev w1 e w') : WriPost B b out ev w e w' := by
  obtain ⟨ok, r, h1, h2, h3, h4, h5, h6⟩ := h
  exact ⟨ok, r, h1, h2, hb.trans h3, hk.trans h4, h5, h6⟩
/-- The closure write, as it lies in its own variable. -/
abbrev wriFn (b bw : Nat) : Value := .func (.func 196) #[] #[.pointer (some ⟨b, 0, none⟩), .pointer (some ⟨bw, 0, none⟩)]
theorem write_any (b bw B : Nat) (hne : bw ≠ b) : ∀ (f : Nat) (S : Nat -> Prop) (v : Vl) (w : World) (out : List UInt8), f <= 64 -> GoodD f v.er -> Rd S w v -> (∀ x, S x -> x < B) -> Bld B b (Lib.byteCells out) w -> out.length + f <= 1048641 -> B <= w.heap.size -> EnvB B w ->
    w.heap[bw]? = some (.cells #[wriFn b bw] 25 (0, 0)) ->
    Calls Tryz.prog 196 #[v.val, .pointer (some ⟨b, 0, none⟩), .pointer (some ⟨bw, 0, none⟩)] w (WriPost B b out (encV v.er) w)
  | f, S, .mk k nn t aa cc l, w, out, hf, hg, hrd, hS, ho, hn, hBw, hE, hw => by
    have hs := singV_ok (allV_items hg.2).1
    have hker : (Vl.mk k nn t aa cc l).er = .mk k nn t (l.map Vl.er) := by rw [Vl.er, Vl.erL_map]
    rw [hker] at hs
    by_cases h1 : k = 1
    · subst h1
      have : encV (Vl.mk 1 nn t aa cc l).er = leafV (.mk 1 nn t (l.map Vl.er)) := by rw [hker, encV, if_pos (.inl rfl)]
      rw [this]
      exact write_int S B b bw out nn t aa cc l w hrd ho (by omega) hBw hE
    · by_cases h2 : k = 2
      · subst h2
        have : encV (Vl.mk 2 nn t aa cc l).er = leafV (.mk 2 nn t (l.map Vl.er)) := by rw [hker, encV, if_pos (.inr rfl)]
        rw [this]
        exact write_text B b bw out nn t aa cc l w hs.2.1 ho (by omega) hBw hE
      · have h3 : k = 3 := by have := hs.1; change k = 1 \/ k = 2 \/ k = 3 at this; omega
        subst h3
        cases f with
        | zero => exact absurd rfl hg.1
        | succ f =>
          have IH := hiq (fun (u : Vl) (W : World) (o : List UInt8) => write_any b bw B hne f S u W o (by omega))
          have hgi : Hid (∀ u ∈ l.map Vl.er, GoodD f u) := fun u hu => by
            rw [hker] at hg
            exact hg.items rfl u hu
          have hr : encV (Vl.mk 3 nn t aa cc l).er = 108 :: (encL (l.map Vl.er) ++ [101]) := by rw [hker, encV, if_neg (by omega)]
          have hb1 : Below w.heap.size w (w.alloc (.cells #[.int .i64 3, .int .i64 nn, .string t, .slice aa l.length cc] 24)) := (Below.refl _ _).alloc (Nat.le_refl _) _
          have hs1 : (w.alloc (.cells #[.int .i64 3, .int .i64 nn, .string t, .slice aa l.length cc] 24)).heap.size = w.heap.size + 1 := by simp
          have x3 : (w.alloc (.cells #[.int .i64 3, .int .i64 nn, .string t, .slice aa l.length cc] 24)).heap[w.heap.size]? = some (.cells #[.int .i64 3, .int .i64 nn, .string t, .slice aa l.length cc] 24 (0, 0)) := (by simp only [World.alloc]; exact Array.getElem?_push_size)
          have hbne : w.heap.size ≠ b := by have := ho.lt; omega
          have ho1 := ho.below hb1
          have hE1 := hE.below (hb1.mono hBw)
          have hw1 : (w.alloc (.cells #[.int .i64 3, .int .i64 nn, .string t, .slice aa l.length cc] 24)).heap[bw]? = _ := (hb1.block bw (Array.getElem?_eq_some_iff.1 hw).1).trans hw
          have hv1 := (hrd.below hb1).vals
          change Vals S _ aa l.length cc l at hv1
          have hL := hv1.2.2.1
          rw [hr]
          have HS := hiq hS
          have HNE := hiq hbne
          have HWN := hiq hne
          have HX3 := hiq x3
          have HW1 := hiq hw1
          change Calls _ _ #[.agg #[.int .i64 3, .int .i64 nn, .string t, .slice aa l.length cc], _, _] _ _
          clear ho hE hg hrd hr hker hS h1 h2 hs x3 hw hw1 hbne hne
          go_enter Tryz.func196, Tryz.ntmps196
          go_wp2_with fail
          generalize w.alloc (.cells #[.int .i64 3, .int .i64 nn, .string t, .slice aa l.length cc] 24) = W1 at *
          refine (writeByte_K B b _ 108 W1 ho1 (by rw [Lib.byteCells_length]; omega) (by omega)).mono ?_
          rintro e W2 ⟨rfl, o2, b2, k2⟩
          have X32 := k2.2 _ _ _ _ HNE.out (by decide) HX3.out
          have c23 : W2.cell? ⟨w.heap.size, 3, none⟩ = some (.slice aa l.length cc) := by rw [Lib.cell_of_heap X32]; rfl
          have HW2 := hiq (k2.2 _ _ _ _ HWN.out (by decide) HW1.out)
          have o2' : Bld B b (Lib.byteCells (out ++ 108 :: encL ((l.map Vl.er).take 0))) W2 := by
            rw [byteCells_append]; exact o2
          have hb2 := (hb1.mono hBw).trans b2
          have hk2 := (KeepT.below (b := b) hb1).trans k2
          have hv2 := hv1.keep (.belowB b2 k2.1 HS.out)
          have hE2 := hE1.below b2
          have z2 := k2.1
          clear o2 X32 hv1 hE1 HX3 HW1 ho1 k2 b2 hb1
          go_wp2_with fail
          go_loopw [13] (fun i wr => ∃ j : Nat, i = .int .i64 j /\ j <= l.length /\ Bld B b (Lib.byteCells (out ++ 108 :: encL ((l.map Vl.er).take j))) wr /\ Below B W2 wr /\ KeepT b W2 wr /\ (out ++ 108 :: encL ((l.map Vl.er).take j)).length + f <= 1048641) (fun i _ => l.length - (intOf i).toNat)
          case atStart => exact ⟨0, rfl, Nat.zero_le _, o2', .refl _ _, .refl _ _, by simp [encL]; omega⟩
          case round =>
            clear o2'
            obtain ⟨j, rfl, hj, oj, bj, kj, nj⟩ := hrel
            have zj := kj.1
            by_cases hlj : j < l.length
            · obtain ⟨u, bb, off, hu, -, rfl, -, -, ⟨c1, c2, c3, c4⟩, hru⟩ := (hv2.keep (.belowB bj zj HS.out)).get hlj
              have hbu : Below wr.heap.size wr (wr.alloc (.cells u.cells 24)) := (Below.refl _ _).alloc (Nat.le_refl _) _
              have hgu := hgi.out u.er (List.mem_map_of_mem (List.mem_of_getElem? hu))
              have hwj := kj.2 _ _ _ _ HWN.out (by decide) HW2.out
              have hwj2 : (wr.alloc (.cells u.cells 24)).heap[bw]? = _ := (hbu.block bw (Array.getElem?_eq_some_iff.1 hwj).1).trans hwj
              have F := IH.out u _ _ hgu (hru.below hbu) HS.out (oj.below hbu) nj (by have := hbu.size; omega) ((hE2.below bj).below (hbu.mono (by omega))) hwj2
              have hst : Hid (encL ((l.map Vl.er).take (j + 1)) = encL ((l.map Vl.er).take j) ++ encV u.er) := by
                show _ = _
                rw [take_er hu, encL_append]; simp [encL]
              have hsp : Hid (encL (l.map Vl.er) = encL ((l.map Vl.er).take (j + 1)) ++ encL ((l.map Vl.er).drop (j + 1))) := by
                show _ = _
                rw [<- encL_append, List.take_append_drop]
              have cw : wr.cell? ⟨bw, 0, none⟩ = some (wriFn b bw) := by rw [Lib.cell_of_heap hwj]; rfl
              have cw2 : (wr.alloc (.cells u.cells 24)).cell? ⟨bw, 0, none⟩ = some (wriFn b bw) := by rw [Lib.cell_of_heap hwj2]; rfl
              have hbu' := hbu
              generalize hEU : encV u.er = EU at *
              obtain ⟨uk, un, ut, ua, uc, ul⟩ := u
              dsimp only [Vl.val, Vl.cells, Vl.kind, Vl.num, Vl.text, Vl.sl, Vl.addr, Vl.items, Vl.cap] at c1 c2 c3 c4 F cw2 hbu'
              have HF := hiq F
              clear F hru hu oj hgu hwj hwj2 hEU
              go_wp2_with fail
              refine HF.out.mono ?_
              rintro e W5 ⟨ok, r, rfl, o5, b5, k5, h5, h6⟩
              have kj5 := (kj.trans (KeepT.below (b := b) hbu)).trans k5
              have bj5 := (bj.trans (hbu.mono (by omega))).trans b5
              by_cases hM : (out ++ 108 :: encL ((l.map Vl.er).take j)).length + EU.length <= 1048576
              · obtain ⟨rfl, hr5⟩ := h5 hM
                have hst5 : out ++ 108 :: encL ((l.map Vl.er).take (j + 1)) = r := by rw [hr5, hst.out]; simp
                have hln5 : r.length <= 1048576 := by rw [hr5, List.length_append]; omega
                have HST := hiq hst5
                clear h5 h6 HF hst5 hr5 hM
                go_wp2
                go_roundw
                case rel => exact ⟨j + 1, by go_num, by omega, by rw [HST.out]; exact o5, bj5, kj5, by rw [HST.out]; omega⟩
                case measure => simp [intOf]; omega
              · obtain rfl := h6 (by omega)
                have hbig : Hid (1048576 < out.length + (108 :: (encL (l.map Vl.er) ++ [101])).length) := by
                  show _ < _
                  rw [hsp.out, hst.out]
                  rw [List.length_append] at hM
                  simp only [List.length_append, List.length_cons] at hM ⊢
                  omega
                clear h5 h6 HF hM
                go_wp2
                go_ret
                exact ⟨false, r, rfl, o5, hb2.trans bj5, hk2.trans kj5, fun h => by have := hbig.out; omega, fun _ => rfl⟩
            · obtain rfl : j = l.length := by omega
              rw [List.take_of_length_le (by simp)] at oj nj
              generalize encL (l.map Vl.er) = EL at *
              have F9 := writeByte_K B b _ 101 wr oj (by rw [Lib.byteCells_length]; omega) (by omega)
              have HF9 := hiq F9
              clear F9 oj
              go_wp2_with fail
              refine HF9.out.mono ?_
              rintro e W9 ⟨rfl, o9, b9, k9⟩
              have o9' : Bld B b (Lib.byteCells (out ++ 108 :: (EL ++ [101]))) W9 := by
                have : Lib.byteCells (out ++ 108 :: (EL ++ [101])) = Lib.byteCells (out ++ 108 :: EL) ++ [.int .u8 101] := by
                  rw [show out ++ 108 :: (EL ++ [101]) = (out ++ 108 :: EL) ++ [101] by simp, byteCells_append]; rfl
                rw [this]; exact o9
              have LN := Tryz.Builder_Len B b _ W9 o9'
              rw [Lib.byteCells_length] at LN
              have HLN := hiq LN
              clear LN o9 HF9
              have hb9 := (hb2.trans bj).trans b9
              have hk9 := (hk2.trans kj).trans k9
              have HXL : Hid ((out ++ 108 :: (EL ++ [101])).length = out.length + (108 :: (EL ++ [101])).length) := by show _ = _; rw [List.length_append]
              generalize hX : out ++ 108 :: (EL ++ [101]) = X at *
              have HX := hiq hX.symm
              clear hX
              go_wp2_with (go_at_call 199; refine HLN.out.mono ?_; rintro e w4 ⟨rfl, rfl⟩)
              go_ret
              by_cases hM : X.length <= 1048576
              · exact ⟨true, X, by simp; omega, o9', hb9, hk9, fun _ => ⟨rfl, HX.out⟩, fun h => by have := HXL.out; omega⟩
              · exact ⟨false, X, by simp; omega, o9', hb9, hk9, fun h => by have := HXL.out; omega, fun _ => rfl⟩
termination_by f => f
end Go.Proofs.YtlbcmeebcfalpaaGreatDoor
