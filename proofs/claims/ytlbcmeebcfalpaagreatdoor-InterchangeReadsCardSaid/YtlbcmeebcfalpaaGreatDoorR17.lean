/- Joined: IRrA, IRrB, IRrC, IRrD. -/
import Derived.Test.YtlbcmeebcfalpaaGreatDoorR16
set_option linter.unusedVariables false
set_option linter.unusedSimpArgs false
set_option maxRecDepth 100000
set_option maxHeartbeats 16000000
namespace Go.Proofs.YtlbcmeebcfalpaaGreatDoor
open Go.RowKit

theorem LT.isA_F2 {T : LT} (h : T.isA = true) : T.isF = true := by cases T <;> first | rfl | cases h
theorem rdA_st (T : LT) (hL : T.isA = true) (f : Nat) (hs : ∀ U : LT, T.us U = true -> Reads (.list U.k U.s U.ty) f U.ss (fun p => #[p, .func (.func U.rd) #[] #[]])) (hf : ∀ U : LT, T.uf U = true -> Reads U.ty f U.fi (fun p => #[p, .func (.func U.rd) #[] #[]])) : ReadsL T.ts f T.rd := by
  intro S rb wb a n c l g w hr hv hS hG
  have hb1 : Below w.heap.size w (w.alloc (.cells T.zero.toArray T.tid)) := (Below.refl _ _).alloc (Nat.le_refl _) _
  have hlt := hr.lt
  have hz := World.alloc_heap_new w (.cells T.zero.toArray T.tid)
  have HE : Hid (∀ (W : World) (ds : List Dv) (a1 : Option Addr) (n1 c1 : Nat) (l1 : List Vl) (g1 : Bool), Acc (InS S w) T.ts rb wb l g (w.alloc (.cells T.zero.toArray T.tid)) W ds a1 n1 c1 l1 g1 -> T.End S rb wb l g w W ds) := fun W ds a1 n1 c1 l1 g1 A => T.end_of (LT.isA_F2 hL) hlt hb1 hz A
  have A0 := hiq (Acc.init (S := InS S w) (hr.below hb1) ((hv.mono fun b h1 h2 => ⟨h1, h2⟩).below hb1) (Below.refl _ _))
  have hS2 : ∀ b, InS S w b -> b ≠ rb /\ b ≠ wb := fun b hb => hS b hb.1
  have hlt2 : rb < (w.alloc (.cells T.zero.toArray T.tid)).heap.size /\ wb < (w.alloc (.cells T.zero.toArray T.tid)).heap.size := by have := hb1.size; omega
  have CN := hiq (fun (ts : List Ty) (W : World) (ds : List Dv) (a : Option Addr) (n c : Nat) (l1 : List Vl) (g1 : Bool) (A : Acc (InS S w) ts rb wb l g (w.alloc (.cells T.zero.toArray T.tid)) W ds a n c l1 g1) => Acc.call (I := fun d => ∃ y, d = .int y) (rnum_any f) (fun d h => h.int_inv) hS2 hG hlt2 A)
  have CX := hiq (fun (ts : List Ty) (W : World) (ds : List Dv) (a : Option Addr) (n c : Nat) (l1 : List Vl) (g1 : Bool) (A : Acc (InS S w) ts rb wb l g (w.alloc (.cells T.zero.toArray T.tid)) W ds a n c l1 g1) => Acc.call (I := fun d => ∃ y, d = .text y) (rtext_any f) (fun d h => h.text_inv) hS2 hG hlt2 A)
  have CEint := hiq (fun (ts : List Ty) (W : World) (ds : List Dv) (a : Option Addr) (n c : Nat) (l1 : List Vl) (g1 : Bool) (A : Acc (InS S w) ts rb wb l g (w.alloc (.cells T.zero.toArray T.tid)) W ds a n c l1 g1) => Acc.call (elInt_any f) isList hS2 hG hlt2 A)
  have CEbool := hiq (fun (ts : List Ty) (W : World) (ds : List Dv) (a : Option Addr) (n c : Nat) (l1 : List Vl) (g1 : Bool) (A : Acc (InS S w) ts rb wb l g (w.alloc (.cells T.zero.toArray T.tid)) W ds a n c l1 g1) => Acc.call (elBool_any f) isList hS2 hG hlt2 A)
  have CEtext := hiq (fun (ts : List Ty) (W : World) (ds : List Dv) (a : Option Addr) (n c : Nat) (l1 : List Vl) (g1 : Bool) (A : Acc (InS S w) ts rb wb l g (w.alloc (.cells T.zero.toArray T.tid)) W ds a n c l1 g1) => Acc.call (elText_any f) isList hS2 hG hlt2 A)
  have CSop := hiq (fun (h : T.us .op = true) (ts : List Ty) (W : World) (ds : List Dv) (a : Option Addr) (n c : Nat) (l1 : List Vl) (g1 : Bool) (A : Acc (InS S w) ts rb wb l g (w.alloc (.cells T.zero.toArray T.tid)) W ds a n c l1 g1) => Acc.call (hs .op h) isList hS2 hG hlt2 A)
  have CSdec := hiq (fun (h : T.us .dec = true) (ts : List Ty) (W : World) (ds : List Dv) (a : Option Addr) (n c : Nat) (l1 : List Vl) (g1 : Bool) (A : Acc (InS S w) ts rb wb l g (w.alloc (.cells T.zero.toArray T.tid)) W ds a n c l1 g1) => Acc.call (hs .dec h) isList hS2 hG hlt2 A)
  have CSrew := hiq (fun (h : T.us .rew = true) (ts : List Ty) (W : World) (ds : List Dv) (a : Option Addr) (n c : Nat) (l1 : List Vl) (g1 : Bool) (A : Acc (InS S w) ts rb wb l g (w.alloc (.cells T.zero.toArray T.tid)) W ds a n c l1 g1) => Acc.call (hs .rew h) isList hS2 hG hlt2 A)
  have CSgrp := hiq (fun (h : T.us .grp = true) (ts : List Ty) (W : World) (ds : List Dv) (a : Option Addr) (n c : Nat) (l1 : List Vl) (g1 : Bool) (A : Acc (InS S w) ts rb wb l g (w.alloc (.cells T.zero.toArray T.tid)) W ds a n c l1 g1) => Acc.call (hs .grp h) isList hS2 hG hlt2 A)
  have CSpat := hiq (fun (h : T.us .pat = true) (ts : List Ty) (W : World) (ds : List Dv) (a : Option Addr) (n c : Nat) (l1 : List Vl) (g1 : Bool) (A : Acc (InS S w) ts rb wb l g (w.alloc (.cells T.zero.toArray T.tid)) W ds a n c l1 g1) => Acc.call (hs .pat h) isList hS2 hG hlt2 A)
  have CSsec := hiq (fun (h : T.us .sec = true) (ts : List Ty) (W : World) (ds : List Dv) (a : Option Addr) (n c : Nat) (l1 : List Vl) (g1 : Bool) (A : Acc (InS S w) ts rb wb l g (w.alloc (.cells T.zero.toArray T.tid)) W ds a n c l1 g1) => Acc.call (hs .sec h) isList hS2 hG hlt2 A)
  have CSrul := hiq (fun (h : T.us .rul = true) (ts : List Ty) (W : World) (ds : List Dv) (a : Option Addr) (n c : Nat) (l1 : List Vl) (g1 : Bool) (A : Acc (InS S w) ts rb wb l g (w.alloc (.cells T.zero.toArray T.tid)) W ds a n c l1 g1) => Acc.call (hs .rul h) isList hS2 hG hlt2 A)
  have CSwit := hiq (fun (h : T.us .wit = true) (ts : List Ty) (W : World) (ds : List Dv) (a : Option Addr) (n c : Nat) (l1 : List Vl) (g1 : Bool) (A : Acc (InS S w) ts rb wb l g (w.alloc (.cells T.zero.toArray T.tid)) W ds a n c l1 g1) => Acc.call (hs .wit h) isList hS2 hG hlt2 A)
  have CSnod := hiq (fun (h : T.us .nod = true) (ts : List Ty) (W : World) (ds : List Dv) (a : Option Addr) (n c : Nat) (l1 : List Vl) (g1 : Bool) (A : Acc (InS S w) ts rb wb l g (w.alloc (.cells T.zero.toArray T.tid)) W ds a n c l1 g1) => Acc.call (hs .nod h) isList hS2 hG hlt2 A)
  have CSexp := hiq (fun (h : T.us .exp = true) (ts : List Ty) (W : World) (ds : List Dv) (a : Option Addr) (n c : Nat) (l1 : List Vl) (g1 : Bool) (A : Acc (InS S w) ts rb wb l g (w.alloc (.cells T.zero.toArray T.tid)) W ds a n c l1 g1) => Acc.call (hs .exp h) isList hS2 hG hlt2 A)
  have CFexp := hiq (fun (h : T.uf .exp = true) (ts : List Ty) (W : World) (ds : List Dv) (a : Option Addr) (n c : Nat) (l1 : List Vl) (g1 : Bool) (A : Acc (InS S w) ts rb wb l g (w.alloc (.cells T.zero.toArray T.tid)) W ds a n c l1 g1) => Acc.call (I := LT.Inv .exp) (hf .exp h) (fun d h => LT.inv .exp h) hS2 hG hlt2 A)
  have CFcst := hiq (fun (h : T.uf .cst = true) (ts : List Ty) (W : World) (ds : List Dv) (a : Option Addr) (n c : Nat) (l1 : List Vl) (g1 : Bool) (A : Acc (InS S w) ts rb wb l g (w.alloc (.cells T.zero.toArray T.tid)) W ds a n c l1 g1) => Acc.call (I := LT.Inv .cst) (hf .cst h) (fun d h => LT.inv .cst h) hS2 hG hlt2 A)
  have CFsty := hiq (fun (h : T.uf .sty = true) (ts : List Ty) (W : World) (ds : List Dv) (a : Option Addr) (n c : Nat) (l1 : List Vl) (g1 : Bool) (A : Acc (InS S w) ts rb wb l g (w.alloc (.cells T.zero.toArray T.tid)) W ds a n c l1 g1) => Acc.call (I := LT.Inv .sty) (hf .sty h) (fun d h => LT.inv .sty h) hS2 hG hlt2 A)
  clear hr hv hS hG hb1 hz hS2 hlt2 hs hf
  change Calls _ _ #[.pointer (some ⟨rb, 0, none⟩)] _ _
  cases T
  case' op => go_enter Tryz.func176, Tryz.ntmps176
  case' dec => go_enter Tryz.func180, Tryz.ntmps180
  case' rew => go_enter Tryz.func60, Tryz.ntmps60
  case' grp => go_enter Tryz.func66, Tryz.ntmps66
  case pat => cases hL
  case sec => cases hL
  case rul => cases hL
  case wit => cases hL
  case nod => cases hL
  case exp => cases hL
  case cst => cases hL
  case sty => cases hL
  case edi => cases hL
  case int => cases hL
  case bool => cases hL
  case text => cases hL
  case pos => cases hL
  case tok => cases hL
  case inp => cases hL
  case toks => cases hL
  all_goals
    dsimp only [LT.ts, LT.rd, LT.tid, LT.zero, LT.us, LT.uf, LT.ss, LT.fi, LT.k, LT.s, LT.ty, LT.Inv, IsList] at *
    go_wp2_with fail
    generalize w.alloc (.cells _ _) = W1 at *
    repeat
      first
        | with_reducible refine (CN.out _ _ _ _ _ _ _ _ A0.out).mono ?_
        | with_reducible refine (CX.out _ _ _ _ _ _ _ _ A0.out).mono ?_
        | with_reducible refine (CEint.out _ _ _ _ _ _ _ _ A0.out).mono ?_
        | with_reducible refine (CEbool.out _ _ _ _ _ _ _ _ A0.out).mono ?_
        | with_reducible refine (CEtext.out _ _ _ _ _ _ _ _ A0.out).mono ?_
        | with_reducible refine (CSop.out (by trivial) _ _ _ _ _ _ _ _ A0.out).mono ?_
        | with_reducible refine (CSdec.out (by trivial) _ _ _ _ _ _ _ _ A0.out).mono ?_
        | with_reducible refine (CSrew.out (by trivial) _ _ _ _ _ _ _ _ A0.out).mono ?_
        | with_reducible refine (CSgrp.out (by trivial) _ _ _ _ _ _ _ _ A0.out).mono ?_
        | with_reducible refine (CSpat.out (by trivial) _ _ _ _ _ _ _ _ A0.out).mono ?_
        | with_reducible refine (CSsec.out (by trivial) _ _ _ _ _ _ _ _ A0.out).mono ?_
        | with_reducible refine (CSrul.out (by trivial) _ _ _ _ _ _ _ _ A0.out).mono ?_
        | with_reducible refine (CSwit.out (by trivial) _ _ _ _ _ _ _ _ A0.out).mono ?_
        | with_reducible refine (CSnod.out (by trivial) _ _ _ _ _ _ _ _ A0.out).mono ?_
        | with_reducible refine (CSexp.out (by trivial) _ _ _ _ _ _ _ _ A0.out).mono ?_
        | with_reducible refine (CFexp.out (by trivial) _ _ _ _ _ _ _ _ A0.out).mono ?_
        | with_reducible refine (CFcst.out (by trivial) _ _ _ _ _ _ _ _ A0.out).mono ?_
        | with_reducible refine (CFsty.out (by trivial) _ _ _ _ _ _ _ _ A0.out).mono ?_
      rintro e V ⟨d, a1, n1, c1, l1, g1, he, hi, A1⟩
      clear A0
      have A0 := hiq A1
      clear A1
      repeat (rcases (hi : ∃ _, _) with ⟨_, hi⟩)
      subst hi
      simp only [Dv.val, Dv.cells, Dv.cellsL, List.cons_append, List.nil_append, List.append_nil] at he
      subst he
      first
        | have hend := HE.out _ _ _ _ _ _ _ A0.out
          obtain ⟨WF, hst, hzz, HF⟩ := hend
          simp only [StL, LdV, Dv.cells, Dv.cellsL, List.cons_append, List.nil_append, List.append_nil] at hst hzz HF
          have HST := hiq hst
          have HZZ := hiq hzz
          have HF := hiq HF
          clear hst hzz A0 HE CN CX CEint CEbool CEtext CSop CSdec CSrew CSgrp CSpat CSsec CSrul CSwit CSnod CSexp CFexp CFcst CFsty
          go_wp2_with ((with_reducible refine wpList_stL HST.out rfl _ _ _ rfl ?_ ?_ ?_ ?_); rfl; rfl; kernel_rfl)
          exact ret_ldL HZZ.out rfl rfl rfl HF.out
          done
        | go_wp2_with fail
end Go.Proofs.YtlbcmeebcfalpaaGreatDoor
namespace Go.Proofs.YtlbcmeebcfalpaaGreatDoor
open Go.RowKit

theorem LT.isB_F2 {T : LT} (h : T.isB = true) : T.isF = true := by cases T <;> first | rfl | cases h
theorem rdB_st (T : LT) (hL : T.isB = true) (f : Nat) (hs : ∀ U : LT, T.us U = true -> Reads (.list U.k U.s U.ty) f U.ss (fun p => #[p, .func (.func U.rd) #[] #[]])) (hf : ∀ U : LT, T.uf U = true -> Reads U.ty f U.fi (fun p => #[p, .func (.func U.rd) #[] #[]])) : ReadsL T.ts f T.rd := by
  intro S rb wb a n c l g w hr hv hS hG
  have hb1 : Below w.heap.size w (w.alloc (.cells T.zero.toArray T.tid)) := (Below.refl _ _).alloc (Nat.le_refl _) _
  have hlt := hr.lt
  have hz := World.alloc_heap_new w (.cells T.zero.toArray T.tid)
  have HE : Hid (∀ (W : World) (ds : List Dv) (a1 : Option Addr) (n1 c1 : Nat) (l1 : List Vl) (g1 : Bool), Acc (InS S w) T.ts rb wb l g (w.alloc (.cells T.zero.toArray T.tid)) W ds a1 n1 c1 l1 g1 -> T.End S rb wb l g w W ds) := fun W ds a1 n1 c1 l1 g1 A => T.end_of (LT.isB_F2 hL) hlt hb1 hz A
  have A0 := hiq (Acc.init (S := InS S w) (hr.below hb1) ((hv.mono fun b h1 h2 => ⟨h1, h2⟩).below hb1) (Below.refl _ _))
  have hS2 : ∀ b, InS S w b -> b ≠ rb /\ b ≠ wb := fun b hb => hS b hb.1
  have hlt2 : rb < (w.alloc (.cells T.zero.toArray T.tid)).heap.size /\ wb < (w.alloc (.cells T.zero.toArray T.tid)).heap.size := by have := hb1.size; omega
  have CN := hiq (fun (ts : List Ty) (W : World) (ds : List Dv) (a : Option Addr) (n c : Nat) (l1 : List Vl) (g1 : Bool) (A : Acc (InS S w) ts rb wb l g (w.alloc (.cells T.zero.toArray T.tid)) W ds a n c l1 g1) => Acc.call (I := fun d => ∃ y, d = .int y) (rnum_any f) (fun d h => h.int_inv) hS2 hG hlt2 A)
  have CX := hiq (fun (ts : List Ty) (W : World) (ds : List Dv) (a : Option Addr) (n c : Nat) (l1 : List Vl) (g1 : Bool) (A : Acc (InS S w) ts rb wb l g (w.alloc (.cells T.zero.toArray T.tid)) W ds a n c l1 g1) => Acc.call (I := fun d => ∃ y, d = .text y) (rtext_any f) (fun d h => h.text_inv) hS2 hG hlt2 A)
  have CEint := hiq (fun (ts : List Ty) (W : World) (ds : List Dv) (a : Option Addr) (n c : Nat) (l1 : List Vl) (g1 : Bool) (A : Acc (InS S w) ts rb wb l g (w.alloc (.cells T.zero.toArray T.tid)) W ds a n c l1 g1) => Acc.call (elInt_any f) isList hS2 hG hlt2 A)
  have CEbool := hiq (fun (ts : List Ty) (W : World) (ds : List Dv) (a : Option Addr) (n c : Nat) (l1 : List Vl) (g1 : Bool) (A : Acc (InS S w) ts rb wb l g (w.alloc (.cells T.zero.toArray T.tid)) W ds a n c l1 g1) => Acc.call (elBool_any f) isList hS2 hG hlt2 A)
  have CEtext := hiq (fun (ts : List Ty) (W : World) (ds : List Dv) (a : Option Addr) (n c : Nat) (l1 : List Vl) (g1 : Bool) (A : Acc (InS S w) ts rb wb l g (w.alloc (.cells T.zero.toArray T.tid)) W ds a n c l1 g1) => Acc.call (elText_any f) isList hS2 hG hlt2 A)
  have CSop := hiq (fun (h : T.us .op = true) (ts : List Ty) (W : World) (ds : List Dv) (a : Option Addr) (n c : Nat) (l1 : List Vl) (g1 : Bool) (A : Acc (InS S w) ts rb wb l g (w.alloc (.cells T.zero.toArray T.tid)) W ds a n c l1 g1) => Acc.call (hs .op h) isList hS2 hG hlt2 A)
  have CSdec := hiq (fun (h : T.us .dec = true) (ts : List Ty) (W : World) (ds : List Dv) (a : Option Addr) (n c : Nat) (l1 : List Vl) (g1 : Bool) (A : Acc (InS S w) ts rb wb l g (w.alloc (.cells T.zero.toArray T.tid)) W ds a n c l1 g1) => Acc.call (hs .dec h) isList hS2 hG hlt2 A)
  have CSrew := hiq (fun (h : T.us .rew = true) (ts : List Ty) (W : World) (ds : List Dv) (a : Option Addr) (n c : Nat) (l1 : List Vl) (g1 : Bool) (A : Acc (InS S w) ts rb wb l g (w.alloc (.cells T.zero.toArray T.tid)) W ds a n c l1 g1) => Acc.call (hs .rew h) isList hS2 hG hlt2 A)
  have CSgrp := hiq (fun (h : T.us .grp = true) (ts : List Ty) (W : World) (ds : List Dv) (a : Option Addr) (n c : Nat) (l1 : List Vl) (g1 : Bool) (A : Acc (InS S w) ts rb wb l g (w.alloc (.cells T.zero.toArray T.tid)) W ds a n c l1 g1) => Acc.call (hs .grp h) isList hS2 hG hlt2 A)
  have CSpat := hiq (fun (h : T.us .pat = true) (ts : List Ty) (W : World) (ds : List Dv) (a : Option Addr) (n c : Nat) (l1 : List Vl) (g1 : Bool) (A : Acc (InS S w) ts rb wb l g (w.alloc (.cells T.zero.toArray T.tid)) W ds a n c l1 g1) => Acc.call (hs .pat h) isList hS2 hG hlt2 A)
  have CSsec := hiq (fun (h : T.us .sec = true) (ts : List Ty) (W : World) (ds : List Dv) (a : Option Addr) (n c : Nat) (l1 : List Vl) (g1 : Bool) (A : Acc (InS S w) ts rb wb l g (w.alloc (.cells T.zero.toArray T.tid)) W ds a n c l1 g1) => Acc.call (hs .sec h) isList hS2 hG hlt2 A)
  have CSrul := hiq (fun (h : T.us .rul = true) (ts : List Ty) (W : World) (ds : List Dv) (a : Option Addr) (n c : Nat) (l1 : List Vl) (g1 : Bool) (A : Acc (InS S w) ts rb wb l g (w.alloc (.cells T.zero.toArray T.tid)) W ds a n c l1 g1) => Acc.call (hs .rul h) isList hS2 hG hlt2 A)
  have CSwit := hiq (fun (h : T.us .wit = true) (ts : List Ty) (W : World) (ds : List Dv) (a : Option Addr) (n c : Nat) (l1 : List Vl) (g1 : Bool) (A : Acc (InS S w) ts rb wb l g (w.alloc (.cells T.zero.toArray T.tid)) W ds a n c l1 g1) => Acc.call (hs .wit h) isList hS2 hG hlt2 A)
  have CSnod := hiq (fun (h : T.us .nod = true) (ts : List Ty) (W : World) (ds : List Dv) (a : Option Addr) (n c : Nat) (l1 : List Vl) (g1 : Bool) (A : Acc (InS S w) ts rb wb l g (w.alloc (.cells T.zero.toArray T.tid)) W ds a n c l1 g1) => Acc.call (hs .nod h) isList hS2 hG hlt2 A)
  have CSexp := hiq (fun (h : T.us .exp = true) (ts : List Ty) (W : World) (ds : List Dv) (a : Option Addr) (n c : Nat) (l1 : List Vl) (g1 : Bool) (A : Acc (InS S w) ts rb wb l g (w.alloc (.cells T.zero.toArray T.tid)) W ds a n c l1 g1) => Acc.call (hs .exp h) isList hS2 hG hlt2 A)
  have CFexp := hiq (fun (h : T.uf .exp = true) (ts : List Ty) (W : World) (ds : List Dv) (a : Option Addr) (n c : Nat) (l1 : List Vl) (g1 : Bool) (A : Acc (InS S w) ts rb wb l g (w.alloc (.cells T.zero.toArray T.tid)) W ds a n c l1 g1) => Acc.call (I := LT.Inv .exp) (hf .exp h) (fun d h => LT.inv .exp h) hS2 hG hlt2 A)
  have CFcst := hiq (fun (h : T.uf .cst = true) (ts : List Ty) (W : World) (ds : List Dv) (a : Option Addr) (n c : Nat) (l1 : List Vl) (g1 : Bool) (A : Acc (InS S w) ts rb wb l g (w.alloc (.cells T.zero.toArray T.tid)) W ds a n c l1 g1) => Acc.call (I := LT.Inv .cst) (hf .cst h) (fun d h => LT.inv .cst h) hS2 hG hlt2 A)
  have CFsty := hiq (fun (h : T.uf .sty = true) (ts : List Ty) (W : World) (ds : List Dv) (a : Option Addr) (n c : Nat) (l1 : List Vl) (g1 : Bool) (A : Acc (InS S w) ts rb wb l g (w.alloc (.cells T.zero.toArray T.tid)) W ds a n c l1 g1) => Acc.call (I := LT.Inv .sty) (hf .sty h) (fun d h => LT.inv .sty h) hS2 hG hlt2 A)
  clear hr hv hS hG hb1 hz hS2 hlt2 hs hf
  change Calls _ _ #[.pointer (some ⟨rb, 0, none⟩)] _ _
  cases T
  case' pat => go_enter Tryz.func68, Tryz.ntmps68
  case' sec => go_enter Tryz.func71, Tryz.ntmps71
  case' rul => go_enter Tryz.func64, Tryz.ntmps64
  case op => cases hL
  case dec => cases hL
  case rew => cases hL
  case grp => cases hL
  case wit => cases hL
  case nod => cases hL
  case exp => cases hL
  case cst => cases hL
  case sty => cases hL
  case edi => cases hL
  case int => cases hL
  case bool => cases hL
  case text => cases hL
  case pos => cases hL
  case tok => cases hL
  case inp => cases hL
  case toks => cases hL
  all_goals
    dsimp only [LT.ts, LT.rd, LT.tid, LT.zero, LT.us, LT.uf, LT.ss, LT.fi, LT.k, LT.s, LT.ty, LT.Inv, IsList] at *
    go_wp2_with fail
    generalize w.alloc (.cells _ _) = W1 at *
    repeat
      first
        | with_reducible refine (CN.out _ _ _ _ _ _ _ _ A0.out).mono ?_
        | with_reducible refine (CX.out _ _ _ _ _ _ _ _ A0.out).mono ?_
        | with_reducible refine (CEint.out _ _ _ _ _ _ _ _ A0.out).mono ?_
        | with_reducible refine (CEbool.out _ _ _ _ _ _ _ _ A0.out).mono ?_
        | with_reducible refine (CEtext.out _ _ _ _ _ _ _ _ A0.out).mono ?_
        | with_reducible refine (CSop.out (by trivial) _ _ _ _ _ _ _ _ A0.out).mono ?_
        | with_reducible refine (CSdec.out (by trivial) _ _ _ _ _ _ _ _ A0.out).mono ?_
        | with_reducible refine (CSrew.out (by trivial) _ _ _ _ _ _ _ _ A0.out).mono ?_
        | with_reducible refine (CSgrp.out (by trivial) _ _ _ _ _ _ _ _ A0.out).mono ?_
        | with_reducible refine (CSpat.out (by trivial) _ _ _ _ _ _ _ _ A0.out).mono ?_
        | with_reducible refine (CSsec.out (by trivial) _ _ _ _ _ _ _ _ A0.out).mono ?_
        | with_reducible refine (CSrul.out (by trivial) _ _ _ _ _ _ _ _ A0.out).mono ?_
        | with_reducible refine (CSwit.out (by trivial) _ _ _ _ _ _ _ _ A0.out).mono ?_
        | with_reducible refine (CSnod.out (by trivial) _ _ _ _ _ _ _ _ A0.out).mono ?_
        | with_reducible refine (CSexp.out (by trivial) _ _ _ _ _ _ _ _ A0.out).mono ?_
        | with_reducible refine (CFexp.out (by trivial) _ _ _ _ _ _ _ _ A0.out).mono ?_
        | with_reducible refine (CFcst.out (by trivial) _ _ _ _ _ _ _ _ A0.out).mono ?_
        | with_reducible refine (CFsty.out (by trivial) _ _ _ _ _ _ _ _ A0.out).mono ?_
      rintro e V ⟨d, a1, n1, c1, l1, g1, he, hi, A1⟩
      clear A0
      have A0 := hiq A1
      clear A1
      repeat (rcases (hi : ∃ _, _) with ⟨_, hi⟩)
      subst hi
      simp only [Dv.val, Dv.cells, Dv.cellsL, List.cons_append, List.nil_append, List.append_nil] at he
      subst he
      first
        | have hend := HE.out _ _ _ _ _ _ _ A0.out
          obtain ⟨WF, hst, hzz, HF⟩ := hend
          simp only [StL, LdV, Dv.cells, Dv.cellsL, List.cons_append, List.nil_append, List.append_nil] at hst hzz HF
          have HST := hiq hst
          have HZZ := hiq hzz
          have HF := hiq HF
          clear hst hzz A0 HE CN CX CEint CEbool CEtext CSop CSdec CSrew CSgrp CSpat CSsec CSrul CSwit CSnod CSexp CFexp CFcst CFsty
          go_wp2_with ((with_reducible refine wpList_stL HST.out rfl _ _ _ rfl ?_ ?_ ?_ ?_); rfl; rfl; kernel_rfl)
          exact ret_ldL HZZ.out rfl rfl rfl HF.out
          done
        | go_wp2_with fail
end Go.Proofs.YtlbcmeebcfalpaaGreatDoor
namespace Go.Proofs.YtlbcmeebcfalpaaGreatDoor
open Go.RowKit

theorem LT.isC_F2 {T : LT} (h : T.isC = true) : T.isF = true := by cases T <;> first | rfl | cases h
theorem rdC_st (T : LT) (hL : T.isC = true) (f : Nat) (hs : ∀ U : LT, T.us U = true -> Reads (.list U.k U.s U.ty) f U.ss (fun p => #[p, .func (.func U.rd) #[] #[]])) (hf : ∀ U : LT, T.uf U = true -> Reads U.ty f U.fi (fun p => #[p, .func (.func U.rd) #[] #[]])) : ReadsL T.ts f T.rd := by
  intro S rb wb a n c l g w hr hv hS hG
  have hb1 : Below w.heap.size w (w.alloc (.cells T.zero.toArray T.tid)) := (Below.refl _ _).alloc (Nat.le_refl _) _
  have hlt := hr.lt
  have hz := World.alloc_heap_new w (.cells T.zero.toArray T.tid)
  have HE : Hid (∀ (W : World) (ds : List Dv) (a1 : Option Addr) (n1 c1 : Nat) (l1 : List Vl) (g1 : Bool), Acc (InS S w) T.ts rb wb l g (w.alloc (.cells T.zero.toArray T.tid)) W ds a1 n1 c1 l1 g1 -> T.End S rb wb l g w W ds) := fun W ds a1 n1 c1 l1 g1 A => T.end_of (LT.isC_F2 hL) hlt hb1 hz A
  have A0 := hiq (Acc.init (S := InS S w) (hr.below hb1) ((hv.mono fun b h1 h2 => ⟨h1, h2⟩).below hb1) (Below.refl _ _))
  have hS2 : ∀ b, InS S w b -> b ≠ rb /\ b ≠ wb := fun b hb => hS b hb.1
  have hlt2 : rb < (w.alloc (.cells T.zero.toArray T.tid)).heap.size /\ wb < (w.alloc (.cells T.zero.toArray T.tid)).heap.size := by have := hb1.size; omega
  have CN := hiq (fun (ts : List Ty) (W : World) (ds : List Dv) (a : Option Addr) (n c : Nat) (l1 : List Vl) (g1 : Bool) (A : Acc (InS S w) ts rb wb l g (w.alloc (.cells T.zero.toArray T.tid)) W ds a n c l1 g1) => Acc.call (I := fun d => ∃ y, d = .int y) (rnum_any f) (fun d h => h.int_inv) hS2 hG hlt2 A)
  have CX := hiq (fun (ts : List Ty) (W : World) (ds : List Dv) (a : Option Addr) (n c : Nat) (l1 : List Vl) (g1 : Bool) (A : Acc (InS S w) ts rb wb l g (w.alloc (.cells T.zero.toArray T.tid)) W ds a n c l1 g1) => Acc.call (I := fun d => ∃ y, d = .text y) (rtext_any f) (fun d h => h.text_inv) hS2 hG hlt2 A)
  have CEint := hiq (fun (ts : List Ty) (W : World) (ds : List Dv) (a : Option Addr) (n c : Nat) (l1 : List Vl) (g1 : Bool) (A : Acc (InS S w) ts rb wb l g (w.alloc (.cells T.zero.toArray T.tid)) W ds a n c l1 g1) => Acc.call (elInt_any f) isList hS2 hG hlt2 A)
  have CEbool := hiq (fun (ts : List Ty) (W : World) (ds : List Dv) (a : Option Addr) (n c : Nat) (l1 : List Vl) (g1 : Bool) (A : Acc (InS S w) ts rb wb l g (w.alloc (.cells T.zero.toArray T.tid)) W ds a n c l1 g1) => Acc.call (elBool_any f) isList hS2 hG hlt2 A)
  have CEtext := hiq (fun (ts : List Ty) (W : World) (ds : List Dv) (a : Option Addr) (n c : Nat) (l1 : List Vl) (g1 : Bool) (A : Acc (InS S w) ts rb wb l g (w.alloc (.cells T.zero.toArray T.tid)) W ds a n c l1 g1) => Acc.call (elText_any f) isList hS2 hG hlt2 A)
  have CSop := hiq (fun (h : T.us .op = true) (ts : List Ty) (W : World) (ds : List Dv) (a : Option Addr) (n c : Nat) (l1 : List Vl) (g1 : Bool) (A : Acc (InS S w) ts rb wb l g (w.alloc (.cells T.zero.toArray T.tid)) W ds a n c l1 g1) => Acc.call (hs .op h) isList hS2 hG hlt2 A)
  have CSdec := hiq (fun (h : T.us .dec = true) (ts : List Ty) (W : World) (ds : List Dv) (a : Option Addr) (n c : Nat) (l1 : List Vl) (g1 : Bool) (A : Acc (InS S w) ts rb wb l g (w.alloc (.cells T.zero.toArray T.tid)) W ds a n c l1 g1) => Acc.call (hs .dec h) isList hS2 hG hlt2 A)
  have CSrew := hiq (fun (h : T.us .rew = true) (ts : List Ty) (W : World) (ds : List Dv) (a : Option Addr) (n c : Nat) (l1 : List Vl) (g1 : Bool) (A : Acc (InS S w) ts rb wb l g (w.alloc (.cells T.zero.toArray T.tid)) W ds a n c l1 g1) => Acc.call (hs .rew h) isList hS2 hG hlt2 A)
  have CSgrp := hiq (fun (h : T.us .grp = true) (ts : List Ty) (W : World) (ds : List Dv) (a : Option Addr) (n c : Nat) (l1 : List Vl) (g1 : Bool) (A : Acc (InS S w) ts rb wb l g (w.alloc (.cells T.zero.toArray T.tid)) W ds a n c l1 g1) => Acc.call (hs .grp h) isList hS2 hG hlt2 A)
  have CSpat := hiq (fun (h : T.us .pat = true) (ts : List Ty) (W : World) (ds : List Dv) (a : Option Addr) (n c : Nat) (l1 : List Vl) (g1 : Bool) (A : Acc (InS S w) ts rb wb l g (w.alloc (.cells T.zero.toArray T.tid)) W ds a n c l1 g1) => Acc.call (hs .pat h) isList hS2 hG hlt2 A)
  have CSsec := hiq (fun (h : T.us .sec = true) (ts : List Ty) (W : World) (ds : List Dv) (a : Option Addr) (n c : Nat) (l1 : List Vl) (g1 : Bool) (A : Acc (InS S w) ts rb wb l g (w.alloc (.cells T.zero.toArray T.tid)) W ds a n c l1 g1) => Acc.call (hs .sec h) isList hS2 hG hlt2 A)
  have CSrul := hiq (fun (h : T.us .rul = true) (ts : List Ty) (W : World) (ds : List Dv) (a : Option Addr) (n c : Nat) (l1 : List Vl) (g1 : Bool) (A : Acc (InS S w) ts rb wb l g (w.alloc (.cells T.zero.toArray T.tid)) W ds a n c l1 g1) => Acc.call (hs .rul h) isList hS2 hG hlt2 A)
  have CSwit := hiq (fun (h : T.us .wit = true) (ts : List Ty) (W : World) (ds : List Dv) (a : Option Addr) (n c : Nat) (l1 : List Vl) (g1 : Bool) (A : Acc (InS S w) ts rb wb l g (w.alloc (.cells T.zero.toArray T.tid)) W ds a n c l1 g1) => Acc.call (hs .wit h) isList hS2 hG hlt2 A)
  have CSnod := hiq (fun (h : T.us .nod = true) (ts : List Ty) (W : World) (ds : List Dv) (a : Option Addr) (n c : Nat) (l1 : List Vl) (g1 : Bool) (A : Acc (InS S w) ts rb wb l g (w.alloc (.cells T.zero.toArray T.tid)) W ds a n c l1 g1) => Acc.call (hs .nod h) isList hS2 hG hlt2 A)
  have CSexp := hiq (fun (h : T.us .exp = true) (ts : List Ty) (W : World) (ds : List Dv) (a : Option Addr) (n c : Nat) (l1 : List Vl) (g1 : Bool) (A : Acc (InS S w) ts rb wb l g (w.alloc (.cells T.zero.toArray T.tid)) W ds a n c l1 g1) => Acc.call (hs .exp h) isList hS2 hG hlt2 A)
  have CFexp := hiq (fun (h : T.uf .exp = true) (ts : List Ty) (W : World) (ds : List Dv) (a : Option Addr) (n c : Nat) (l1 : List Vl) (g1 : Bool) (A : Acc (InS S w) ts rb wb l g (w.alloc (.cells T.zero.toArray T.tid)) W ds a n c l1 g1) => Acc.call (I := LT.Inv .exp) (hf .exp h) (fun d h => LT.inv .exp h) hS2 hG hlt2 A)
  have CFcst := hiq (fun (h : T.uf .cst = true) (ts : List Ty) (W : World) (ds : List Dv) (a : Option Addr) (n c : Nat) (l1 : List Vl) (g1 : Bool) (A : Acc (InS S w) ts rb wb l g (w.alloc (.cells T.zero.toArray T.tid)) W ds a n c l1 g1) => Acc.call (I := LT.Inv .cst) (hf .cst h) (fun d h => LT.inv .cst h) hS2 hG hlt2 A)
  have CFsty := hiq (fun (h : T.uf .sty = true) (ts : List Ty) (W : World) (ds : List Dv) (a : Option Addr) (n c : Nat) (l1 : List Vl) (g1 : Bool) (A : Acc (InS S w) ts rb wb l g (w.alloc (.cells T.zero.toArray T.tid)) W ds a n c l1 g1) => Acc.call (I := LT.Inv .sty) (hf .sty h) (fun d h => LT.inv .sty h) hS2 hG hlt2 A)
  clear hr hv hS hG hb1 hz hS2 hlt2 hs hf
  change Calls _ _ #[.pointer (some ⟨rb, 0, none⟩)] _ _
  cases T
  case' wit => go_enter Tryz.func58, Tryz.ntmps58
  case' nod => go_enter Tryz.func156, Tryz.ntmps156
  case' exp => go_enter Tryz.func164, Tryz.ntmps164
  case' cst => go_enter Tryz.func62, Tryz.ntmps62
  case op => cases hL
  case dec => cases hL
  case rew => cases hL
  case grp => cases hL
  case pat => cases hL
  case sec => cases hL
  case rul => cases hL
  case sty => cases hL
  case edi => cases hL
  case int => cases hL
  case bool => cases hL
  case text => cases hL
  case pos => cases hL
  case tok => cases hL
  case inp => cases hL
  case toks => cases hL
  all_goals
    dsimp only [LT.ts, LT.rd, LT.tid, LT.zero, LT.us, LT.uf, LT.ss, LT.fi, LT.k, LT.s, LT.ty, LT.Inv, IsList] at *
    go_wp2_with fail
    generalize w.alloc (.cells _ _) = W1 at *
    repeat
      first
        | with_reducible refine (CN.out _ _ _ _ _ _ _ _ A0.out).mono ?_
        | with_reducible refine (CX.out _ _ _ _ _ _ _ _ A0.out).mono ?_
        | with_reducible refine (CEint.out _ _ _ _ _ _ _ _ A0.out).mono ?_
        | with_reducible refine (CEbool.out _ _ _ _ _ _ _ _ A0.out).mono ?_
        | with_reducible refine (CEtext.out _ _ _ _ _ _ _ _ A0.out).mono ?_
        | with_reducible refine (CSop.out (by trivial) _ _ _ _ _ _ _ _ A0.out).mono ?_
        | with_reducible refine (CSdec.out (by trivial) _ _ _ _ _ _ _ _ A0.out).mono ?_
        | with_reducible refine (CSrew.out (by trivial) _ _ _ _ _ _ _ _ A0.out).mono ?_
        | with_reducible refine (CSgrp.out (by trivial) _ _ _ _ _ _ _ _ A0.out).mono ?_
        | with_reducible refine (CSpat.out (by trivial) _ _ _ _ _ _ _ _ A0.out).mono ?_
        | with_reducible refine (CSsec.out (by trivial) _ _ _ _ _ _ _ _ A0.out).mono ?_
        | with_reducible refine (CSrul.out (by trivial) _ _ _ _ _ _ _ _ A0.out).mono ?_
        | with_reducible refine (CSwit.out (by trivial) _ _ _ _ _ _ _ _ A0.out).mono ?_
        | with_reducible refine (CSnod.out (by trivial) _ _ _ _ _ _ _ _ A0.out).mono ?_
        | with_reducible refine (CSexp.out (by trivial) _ _ _ _ _ _ _ _ A0.out).mono ?_
        | with_reducible refine (CFexp.out (by trivial) _ _ _ _ _ _ _ _ A0.out).mono ?_
        | with_reducible refine (CFcst.out (by trivial) _ _ _ _ _ _ _ _ A0.out).mono ?_
        | with_reducible refine (CFsty.out (by trivial) _ _ _ _ _ _ _ _ A0.out).mono ?_
      rintro e V ⟨d, a1, n1, c1, l1, g1, he, hi, A1⟩
      clear A0
      have A0 := hiq A1
      clear A1
      repeat (rcases (hi : ∃ _, _) with ⟨_, hi⟩)
      subst hi
      simp only [Dv.val, Dv.cells, Dv.cellsL, List.cons_append, List.nil_append, List.append_nil] at he
      subst he
      first
        | have hend := HE.out _ _ _ _ _ _ _ A0.out
          obtain ⟨WF, hst, hzz, HF⟩ := hend
          simp only [StL, LdV, Dv.cells, Dv.cellsL, List.cons_append, List.nil_append, List.append_nil] at hst hzz HF
          have HST := hiq hst
          have HZZ := hiq hzz
          have HF := hiq HF
          clear hst hzz A0 HE CN CX CEint CEbool CEtext CSop CSdec CSrew CSgrp CSpat CSsec CSrul CSwit CSnod CSexp CFexp CFcst CFsty
          go_wp2_with ((with_reducible refine wpList_stL HST.out rfl _ _ _ rfl ?_ ?_ ?_ ?_); rfl; rfl; kernel_rfl)
          exact ret_ldL HZZ.out rfl rfl rfl HF.out
          done
        | go_wp2_with fail
end Go.Proofs.YtlbcmeebcfalpaaGreatDoor
namespace Go.Proofs.YtlbcmeebcfalpaaGreatDoor
open Go.RowKit

theorem LT.isD_F2 {T : LT} (h : T.isD = true) : T.isF = true := by cases T <;> first | rfl | cases h
theorem rdD_st (T : LT) (hL : T.isD = true) (f : Nat) (hs : ∀ U : LT, T.us U = true -> Reads (.list U.k U.s U.ty) f U.ss (fun p => #[p, .func (.func U.rd) #[] #[]])) (hf : ∀ U : LT, T.uf U = true -> Reads U.ty f U.fi (fun p => #[p, .func (.func U.rd) #[] #[]])) : ReadsL T.ts f T.rd := by
  intro S rb wb a n c l g w hr hv hS hG
  have hb1 : Below w.heap.size w (w.alloc (.cells T.zero.toArray T.tid)) := (Below.refl _ _).alloc (Nat.le_refl _) _
  have hlt := hr.lt
  have hz := World.alloc_heap_new w (.cells T.zero.toArray T.tid)
  have HE : Hid (∀ (W : World) (ds : List Dv) (a1 : Option Addr) (n1 c1 : Nat) (l1 : List Vl) (g1 : Bool), Acc (InS S w) T.ts rb wb l g (w.alloc (.cells T.zero.toArray T.tid)) W ds a1 n1 c1 l1 g1 -> T.End S rb wb l g w W ds) := fun W ds a1 n1 c1 l1 g1 A => T.end_of (LT.isD_F2 hL) hlt hb1 hz A
  have A0 := hiq (Acc.init (S := InS S w) (hr.below hb1) ((hv.mono fun b h1 h2 => ⟨h1, h2⟩).below hb1) (Below.refl _ _))
  have hS2 : ∀ b, InS S w b -> b ≠ rb /\ b ≠ wb := fun b hb => hS b hb.1
  have hlt2 : rb < (w.alloc (.cells T.zero.toArray T.tid)).heap.size /\ wb < (w.alloc (.cells T.zero.toArray T.tid)).heap.size := by have := hb1.size; omega
  have CN := hiq (fun (ts : List Ty) (W : World) (ds : List Dv) (a : Option Addr) (n c : Nat) (l1 : List Vl) (g1 : Bool) (A : Acc (InS S w) ts rb wb l g (w.alloc (.cells T.zero.toArray T.tid)) W ds a n c l1 g1) => Acc.call (I := fun d => ∃ y, d = .int y) (rnum_any f) (fun d h => h.int_inv) hS2 hG hlt2 A)
  have CX := hiq (fun (ts : List Ty) (W : World) (ds : List Dv) (a : Option Addr) (n c : Nat) (l1 : List Vl) (g1 : Bool) (A : Acc (InS S w) ts rb wb l g (w.alloc (.cells T.zero.toArray T.tid)) W ds a n c l1 g1) => Acc.call (I := fun d => ∃ y, d = .text y) (rtext_any f) (fun d h => h.text_inv) hS2 hG hlt2 A)
  have CEint := hiq (fun (ts : List Ty) (W : World) (ds : List Dv) (a : Option Addr) (n c : Nat) (l1 : List Vl) (g1 : Bool) (A : Acc (InS S w) ts rb wb l g (w.alloc (.cells T.zero.toArray T.tid)) W ds a n c l1 g1) => Acc.call (elInt_any f) isList hS2 hG hlt2 A)
  have CEbool := hiq (fun (ts : List Ty) (W : World) (ds : List Dv) (a : Option Addr) (n c : Nat) (l1 : List Vl) (g1 : Bool) (A : Acc (InS S w) ts rb wb l g (w.alloc (.cells T.zero.toArray T.tid)) W ds a n c l1 g1) => Acc.call (elBool_any f) isList hS2 hG hlt2 A)
  have CEtext := hiq (fun (ts : List Ty) (W : World) (ds : List Dv) (a : Option Addr) (n c : Nat) (l1 : List Vl) (g1 : Bool) (A : Acc (InS S w) ts rb wb l g (w.alloc (.cells T.zero.toArray T.tid)) W ds a n c l1 g1) => Acc.call (elText_any f) isList hS2 hG hlt2 A)
  have CSop := hiq (fun (h : T.us .op = true) (ts : List Ty) (W : World) (ds : List Dv) (a : Option Addr) (n c : Nat) (l1 : List Vl) (g1 : Bool) (A : Acc (InS S w) ts rb wb l g (w.alloc (.cells T.zero.toArray T.tid)) W ds a n c l1 g1) => Acc.call (hs .op h) isList hS2 hG hlt2 A)
  have CSdec := hiq (fun (h : T.us .dec = true) (ts : List Ty) (W : World) (ds : List Dv) (a : Option Addr) (n c : Nat) (l1 : List Vl) (g1 : Bool) (A : Acc (InS S w) ts rb wb l g (w.alloc (.cells T.zero.toArray T.tid)) W ds a n c l1 g1) => Acc.call (hs .dec h) isList hS2 hG hlt2 A)
  have CSrew := hiq (fun (h : T.us .rew = true) (ts : List Ty) (W : World) (ds : List Dv) (a : Option Addr) (n c : Nat) (l1 : List Vl) (g1 : Bool) (A : Acc (InS S w) ts rb wb l g (w.alloc (.cells T.zero.toArray T.tid)) W ds a n c l1 g1) => Acc.call (hs .rew h) isList hS2 hG hlt2 A)
  have CSgrp := hiq (fun (h : T.us .grp = true) (ts : List Ty) (W : World) (ds : List Dv) (a : Option Addr) (n c : Nat) (l1 : List Vl) (g1 : Bool) (A : Acc (InS S w) ts rb wb l g (w.alloc (.cells T.zero.toArray T.tid)) W ds a n c l1 g1) => Acc.call (hs .grp h) isList hS2 hG hlt2 A)
  have CSpat := hiq (fun (h : T.us .pat = true) (ts : List Ty) (W : World) (ds : List Dv) (a : Option Addr) (n c : Nat) (l1 : List Vl) (g1 : Bool) (A : Acc (InS S w) ts rb wb l g (w.alloc (.cells T.zero.toArray T.tid)) W ds a n c l1 g1) => Acc.call (hs .pat h) isList hS2 hG hlt2 A)
  have CSsec := hiq (fun (h : T.us .sec = true) (ts : List Ty) (W : World) (ds : List Dv) (a : Option Addr) (n c : Nat) (l1 : List Vl) (g1 : Bool) (A : Acc (InS S w) ts rb wb l g (w.alloc (.cells T.zero.toArray T.tid)) W ds a n c l1 g1) => Acc.call (hs .sec h) isList hS2 hG hlt2 A)
  have CSrul := hiq (fun (h : T.us .rul = true) (ts : List Ty) (W : World) (ds : List Dv) (a : Option Addr) (n c : Nat) (l1 : List Vl) (g1 : Bool) (A : Acc (InS S w) ts rb wb l g (w.alloc (.cells T.zero.toArray T.tid)) W ds a n c l1 g1) => Acc.call (hs .rul h) isList hS2 hG hlt2 A)
  have CSwit := hiq (fun (h : T.us .wit = true) (ts : List Ty) (W : World) (ds : List Dv) (a : Option Addr) (n c : Nat) (l1 : List Vl) (g1 : Bool) (A : Acc (InS S w) ts rb wb l g (w.alloc (.cells T.zero.toArray T.tid)) W ds a n c l1 g1) => Acc.call (hs .wit h) isList hS2 hG hlt2 A)
  have CSnod := hiq (fun (h : T.us .nod = true) (ts : List Ty) (W : World) (ds : List Dv) (a : Option Addr) (n c : Nat) (l1 : List Vl) (g1 : Bool) (A : Acc (InS S w) ts rb wb l g (w.alloc (.cells T.zero.toArray T.tid)) W ds a n c l1 g1) => Acc.call (hs .nod h) isList hS2 hG hlt2 A)
  have CSexp := hiq (fun (h : T.us .exp = true) (ts : List Ty) (W : World) (ds : List Dv) (a : Option Addr) (n c : Nat) (l1 : List Vl) (g1 : Bool) (A : Acc (InS S w) ts rb wb l g (w.alloc (.cells T.zero.toArray T.tid)) W ds a n c l1 g1) => Acc.call (hs .exp h) isList hS2 hG hlt2 A)
  have CFexp := hiq (fun (h : T.uf .exp = true) (ts : List Ty) (W : World) (ds : List Dv) (a : Option Addr) (n c : Nat) (l1 : List Vl) (g1 : Bool) (A : Acc (InS S w) ts rb wb l g (w.alloc (.cells T.zero.toArray T.tid)) W ds a n c l1 g1) => Acc.call (I := LT.Inv .exp) (hf .exp h) (fun d h => LT.inv .exp h) hS2 hG hlt2 A)
  have CFcst := hiq (fun (h : T.uf .cst = true) (ts : List Ty) (W : World) (ds : List Dv) (a : Option Addr) (n c : Nat) (l1 : List Vl) (g1 : Bool) (A : Acc (InS S w) ts rb wb l g (w.alloc (.cells T.zero.toArray T.tid)) W ds a n c l1 g1) => Acc.call (I := LT.Inv .cst) (hf .cst h) (fun d h => LT.inv .cst h) hS2 hG hlt2 A)
  have CFsty := hiq (fun (h : T.uf .sty = true) (ts : List Ty) (W : World) (ds : List Dv) (a : Option Addr) (n c : Nat) (l1 : List Vl) (g1 : Bool) (A : Acc (InS S w) ts rb wb l g (w.alloc (.cells T.zero.toArray T.tid)) W ds a n c l1 g1) => Acc.call (I := LT.Inv .sty) (hf .sty h) (fun d h => LT.inv .sty h) hS2 hG hlt2 A)
  clear hr hv hS hG hb1 hz hS2 hlt2 hs hf
  change Calls _ _ #[.pointer (some ⟨rb, 0, none⟩)] _ _
  cases T
  case' sty => go_enter Tryz.func73, Tryz.ntmps73
  case op => cases hL
  case dec => cases hL
  case rew => cases hL
  case grp => cases hL
  case pat => cases hL
  case sec => cases hL
  case rul => cases hL
  case wit => cases hL
  case nod => cases hL
  case exp => cases hL
  case cst => cases hL
  case edi => cases hL
  case int => cases hL
  case bool => cases hL
  case text => cases hL
  case pos => cases hL
  case tok => cases hL
  case inp => cases hL
  case toks => cases hL
  all_goals
    dsimp only [LT.ts, LT.rd, LT.tid, LT.zero, LT.us, LT.uf, LT.ss, LT.fi, LT.k, LT.s, LT.ty, LT.Inv, IsList] at *
    go_wp2_with fail
    generalize w.alloc (.cells _ _) = W1 at *
    repeat
      first
        | with_reducible refine (CN.out _ _ _ _ _ _ _ _ A0.out).mono ?_
        | with_reducible refine (CX.out _ _ _ _ _ _ _ _ A0.out).mono ?_
        | with_reducible refine (CEint.out _ _ _ _ _ _ _ _ A0.out).mono ?_
        | with_reducible refine (CEbool.out _ _ _ _ _ _ _ _ A0.out).mono ?_
        | with_reducible refine (CEtext.out _ _ _ _ _ _ _ _ A0.out).mono ?_
        | with_reducible refine (CSop.out (by trivial) _ _ _ _ _ _ _ _ A0.out).mono ?_
        | with_reducible refine (CSdec.out (by trivial) _ _ _ _ _ _ _ _ A0.out).mono ?_
        | with_reducible refine (CSrew.out (by trivial) _ _ _ _ _ _ _ _ A0.out).mono ?_
        | with_reducible refine (CSgrp.out (by trivial) _ _ _ _ _ _ _ _ A0.out).mono ?_
        | with_reducible refine (CSpat.out (by trivial) _ _ _ _ _ _ _ _ A0.out).mono ?_
        | with_reducible refine (CSsec.out (by trivial) _ _ _ _ _ _ _ _ A0.out).mono ?_
        | with_reducible refine (CSrul.out (by trivial) _ _ _ _ _ _ _ _ A0.out).mono ?_
        | with_reducible refine (CSwit.out (by trivial) _ _ _ _ _ _ _ _ A0.out).mono ?_
        | with_reducible refine (CSnod.out (by trivial) _ _ _ _ _ _ _ _ A0.out).mono ?_
        | with_reducible refine (CSexp.out (by trivial) _ _ _ _ _ _ _ _ A0.out).mono ?_
        | with_reducible refine (CFexp.out (by trivial) _ _ _ _ _ _ _ _ A0.out).mono ?_
        | with_reducible refine (CFcst.out (by trivial) _ _ _ _ _ _ _ _ A0.out).mono ?_
        | with_reducible refine (CFsty.out (by trivial) _ _ _ _ _ _ _ _ A0.out).mono ?_
      rintro e V ⟨d, a1, n1, c1, l1, g1, he, hi, A1⟩
      clear A0
      have A0 := hiq A1
      clear A1
      repeat (rcases (hi : ∃ _, _) with ⟨_, hi⟩)
      subst hi
      simp only [Dv.val, Dv.cells, Dv.cellsL, List.cons_append, List.nil_append, List.append_nil] at he
      subst he
      first
        | have hend := HE.out _ _ _ _ _ _ _ A0.out
          obtain ⟨WF, hst, hzz, HF⟩ := hend
          simp only [StL, LdV, Dv.cells, Dv.cellsL, List.cons_append, List.nil_append, List.append_nil] at hst hzz HF
          have HST := hiq hst
          have HZZ := hiq hzz
          have HF := hiq HF
          clear hst hzz A0 HE CN CX CEint CEbool CEtext CSop CSdec CSrew CSgrp CSpat CSsec CSrul CSwit CSnod CSexp CFexp CFcst CFsty
          go_wp2_with ((with_reducible refine wpList_stL HST.out rfl _ _ _ rfl ?_ ?_ ?_ ?_); rfl; rfl; kernel_rfl)
          exact ret_ldL HZZ.out rfl rfl rfl HF.out
          done
        | go_wp2_with fail
end Go.Proofs.YtlbcmeebcfalpaaGreatDoor
