/- Joined: ISa, ISlA, ISlB, ISb. -/
import Derived.Test.YtlbcmeebcfalpaaGreatDoorR10
import Derived.Test.YtlbcmeebcfalpaaGreatDoorR03
import Derived.Test.YtlbcmeebcfalpaaGreatDoorR07
import Derived.Test.YtlbcmeebcfalpaaGreatDoorR12
set_option linter.unusedVariables false
set_option linter.unusedSimpArgs false
set_option maxRecDepth 100000
set_option maxHeartbeats 16000000
namespace Go.Proofs.YtlbcmeebcfalpaaGreatDoor
open Go.RowKit

namespace LT
@[reducible] def sf : LT -> FuncId | grp => 193 | pat => 194 | sec => 195 | rul => 192 | wit => 191 | nod => 257 | exp => 239 | sty => 93 | edi => 36 | inp => 47 | toks => 217 | _ => 0
@[reducible] def slf : LT -> FuncId | op => 143 | dec => 145 | rew => 88 | grp => 90 | pat => 91 | sec => 92 | rul => 89 | wit => 87 | nod => 238 | exp => 258 | int => 240 | bool => 144 | text => 141 | tok => 217 | toks => 142 | _ => 0
@[reducible] def isQ : LT -> Bool | op => true | dec => true | rew => true | cst => true | int => true | bool => true | text => true | tok => true | _ => false
@[reducible] def isX : LT -> Bool | grp => true | pat => true | sec => true | rul => true | wit => true | nod => true | exp => true | sty => true | edi => true | inp => true | toks => true | _ => false
@[reducible] def isSA : LT -> Bool | grp => true | pat => true | sec => true | rul => true | wit => true | nod => true | exp => true | toks => true | _ => false
@[reducible] def isSB : LT -> Bool | op => true | dec => true | rew => true | int => true | bool => true | text => true | tok => true | _ => false
end LT
def SmeP (x y : V) (w : World) (e : Ending) (w' : World) : Prop := e = .returned (.bool (sameV x y)) /\ Below w.heap.size w w'
theorem sameV_true {a b : V} (h : a = b) : sameV a b = true := (sameV_iff a b).2 h
theorem sameV_false {a b : V} (h : a ≠ b) : sameV a b = false := by
  cases hh : sameV a b
  · rfl
  · exact absurd ((sameV_iff a b).1 hh) h
theorem toListB_iff (a b : ByteArray) : a.toList = b.toList ↔ a = b := by
  rw [ByteArray.toList_eq, ByteArray.toList_eq]
  obtain ⟨⟨x⟩⟩ := a
  obtain ⟨⟨y⟩⟩ := b
  simp
/-- What a comparison by the operator answers. -/
def EqR (op : BinOp) (t : TypeId) (a b : Value) (r : Bool) : Prop := ∀ (x y : Operand) (W : World), (do eqGuard op t x y a b; binOp op t a b).run Tryz.prog W = .ok (.bool r) W
section
variable {ops : Array Oper} {rest : List Oper} {o : Oper} {act : Act} {Q : Exit -> Act -> World -> Prop} {W : World}
/-- A comparison by the operator, under a guard that lets it through. -/
theorem wpList_bin {op : BinOp} {t : TypeId} {a b : Value} {r : Bool} (h : EqR op t a b r) (x y : Operand) (rt : TypeId) (ho : o.op = .binOp op t x y rt) (hg : Region.wanted o (yielded ops act.tmps) = true) (hx : act.eval x = a) (hy : act.eval y = b)
    (hk : wpList Tryz.prog ops Q rest (act.put o.dst (.bool r)) W) : wpList Tryz.prog ops Q (o :: rest) act W := by
  refine wpList_step fun K hK => ?_
  simp only [hg, if_true]
  have h' := h x y W
  simp only [Sem.run_bind] at h'
  unfold Oper.wp execOp
  simp only [ho, hx, hy, Sem.run_bind, h', Sem.run_pure, Result.andThen_ok]
  exact hK _ _ hk
end
theorem eqr_any (T : LT) (hQ : T.isQ = true) {d d' : Dv} (h : Has T.ty d) (h' : Has T.ty d') : EqR .neq T.tid d.val d'.val (!sameV d.toV d'.toV) /\ EqR .eql T.tid d.val d'.val (sameV d.toV d'.toV) := by
  have hi := T.inv h
  have hi' := T.inv h'
  clear h h'
  cases T
  all_goals first | (cases hQ; done) | skip
  all_goals
    dsimp only [LT.Inv] at hi hi'
    repeat (rcases (hi : ∃ _, _) with ⟨_, hi⟩)
    repeat (rcases (hi' : ∃ _, _) with ⟨_, hi'⟩)
    subst hi
    subst hi'
    refine ⟨fun x y W => ?_, fun x y W => ?_⟩
    all_goals (simp [go_sem, Dv.val, Dv.cells, Dv.cellsL, Dv.toV, Dv.toVL, sameV, sameL, toListB_iff, beq_toListBytes] <;> (repeat' split) <;> simp_all <;> (rename_i u v; by_cases e : u = v <;> simp [e, toListB_iff]))
/-- A round of a walk along two lists. -/
def SRound (T : LT) (C : World -> Dv -> Dv -> Bool -> Prop) (R : Nat -> World -> Prop) (P : Ending -> World -> Prop) (a a' : Option Addr) (n : Nat) (j : Nat) (wr : World) : Prop :=
  j <= n /\ Hid (j < n -> ∃ (d d' : Dv) (bb off bb' off' : Nat) (r : Bool), a = some ⟨bb, off, none⟩ /\ a' = some ⟨bb', off', none⟩ /\ T.Inv d /\ T.Inv d' /\ (∀ V, Below wr.heap.size wr V -> CellsO V bb (off + j * T.k) 0 d.cells /\ CellsO V bb' (off' + j * T.k) 0 d'.cells) /\ Hid (∀ V, Below wr.heap.size wr V -> C V d d' r) /\ Hid (r = true -> ∀ V, Below wr.heap.size wr V -> R (j + 1) V) /\ Hid (r = false -> ∀ V, Below wr.heap.size wr V -> P (.returned (.bool false)) V)) /\ Hid (j = n -> P (.returned (.bool true)) wr)
theorem map_cut {l m : List Dv} {j : Nat} {d d' : Dv} (h : (l.take j).map Dv.toV = (m.take j).map Dv.toV) (hd : l[j]? = some d) (hd' : m[j]? = some d') (e : d.toV = d'.toV) : (l.take (j + 1)).map Dv.toV = (m.take (j + 1)).map Dv.toV := by
  rw [List.take_add_one, List.take_add_one, hd, hd', List.map_append, List.map_append, h]
  simp [e]
abbrev lstX (l : List Dv) : V := .mk 3 0 ⟨#[]⟩ (l.map Dv.toV)
theorem lstX_ne {l m : List Dv} (h : l.map Dv.toV ≠ m.map Dv.toV) : sameV (lstX l) (lstX m) = false := sameV_false fun e => h (by injection e)
theorem sl_abs (T : LT) (C : World -> Dv -> Dv -> Bool -> Prop) {S S' : Nat -> Prop} {a a' : Option Addr} {n c c' : Nat} {l m : List Dv} {w : World} (h : Items S w T.k T.s a n c l) (h' : Items S' w T.k T.s a' n c' m) (hty : ∀ x ∈ l, Has T.ty x) (hty' : ∀ x ∈ m, Has T.ty x)
    (hit : ∀ d ∈ l, ∀ d' ∈ m, ∀ W, Below w.heap.size w W -> C W d d' (sameV d.toV d'.toV)) :
    ∃ R : Nat -> World -> Prop, R 0 w /\ ∀ j wr, R j wr -> SRound T C R (SmeP (lstX l) (lstX m) w) a a' n j wr := by
  refine ⟨fun j wr => j <= n /\ (l.take j).map Dv.toV = (m.take j).map Dv.toV /\ Below w.heap.size w wr, ⟨Nat.zero_le _, rfl, Below.refl _ _⟩, ?_⟩
  rintro j wr ⟨hj, he, hb⟩
  have hl : l.length = n := h.1.symm
  have hm : m.length = n := h'.1.symm
  refine ⟨hj, fun hlj => ?_, fun hjn => ⟨?_, hb⟩⟩
  · obtain ⟨d, bb, off, hd, hmem, ha, -, hat, hrd⟩ := (h.below hb).get hlj
    obtain ⟨d', bb', off', hd', hmem', ha', -, hat', hrd'⟩ := (h'.below hb).get hlj
    refine ⟨d, d', bb, off, bb', off', sameV d.toV d'.toV, ha, ha', T.inv (hty d hmem), T.inv (hty' d' hmem'), fun V hV => ⟨cellsO_gen (hat.keep (S := fun _ => True) trivial ⟨hV.size, fun b cs t fr _ hx => (hV.block _ (Array.getElem?_eq_some_iff.1 hx).1).trans hx⟩) d.cells 0 (fun j x hx => by rw [Nat.zero_add]; exact hx), cellsO_gen (hat'.keep (S := fun _ => True) trivial ⟨hV.size, fun b cs t fr _ hx => (hV.block _ (Array.getElem?_eq_some_iff.1 hx).1).trans hx⟩) d'.cells 0 (fun j x hx => by rw [Nat.zero_add]; exact hx)⟩,
      fun V hV => hit d hmem d' hmem' V (hb.trans (hV.mono hb.size)), fun hr V hV => ⟨by omega, map_cut he hd hd' ((sameV_iff _ _).1 hr), hb.trans (hV.mono hb.size)⟩, fun hr V hV => ⟨?_, hb.trans (hV.mono hb.size)⟩⟩
    rw [lstX_ne]
    intro e
    have e1 := congrArg (·[j]?) e
    simp only [List.getElem?_map, hd, hd', Option.map_some, Option.some.injEq] at e1
    rw [sameV_true e1] at hr
    cases hr
  · subst hjn
    rw [sameV_true]
    rw [List.take_of_length_le (by omega), List.take_of_length_le (by omega)] at he
    unfold lstX
    rw [he]
end Go.Proofs.YtlbcmeebcfalpaaGreatDoor
namespace Go.Proofs.YtlbcmeebcfalpaaGreatDoor
open Go.RowKit

theorem sa_any (T : LT) (hL : T.isSA = true) {S S' : Nat -> Prop} {a a' : Option Addr} {n c n' c' : Nat} {l m : List Dv} {w : World} (h : Items S w T.k T.s a n c l) (h' : Items S' w T.k T.s a' n' c' m) (hty : ∀ x ∈ l, Has T.ty x) (hty' : ∀ x ∈ m, Has T.ty x)
    (hit : ∀ d ∈ l, ∀ d' ∈ m, ∀ W, Below w.heap.size w W -> Calls Tryz.prog T.sf #[d.val, d'.val] W (fun e w' => e = .returned (.bool (sameV d.toV d'.toV)) /\ Below W.heap.size W w')) :
    Calls Tryz.prog T.slf #[.slice a n c, .slice a' n' c'] w (SmeP (lstX l) (lstX m) w) := by
  have hne : n ≠ n' -> SmeP (lstX l) (lstX m) w (.returned (.bool false)) w := fun hn => ⟨by rw [lstX_ne (fun e => hn (by rw [h.1, h'.1]; simpa using congrArg List.length e))], Below.refl _ _⟩
  have hnb : n <= 140737488355328 := by
    have h1 := h.2.2.1
    have h2 : 1 <= T.s := by cases T <;> decide
    have h3 : n * 1 <= n * T.s := Nat.mul_le_mul_left _ h2
    omega
  by_cases hn : n = n'
  · subst hn
    obtain ⟨R, hR0, hR⟩ := sl_abs T (fun W d d' r => Calls Tryz.prog T.sf #[d.val, d'.val] W (fun e w' => e = .returned (.bool r) /\ Below W.heap.size W w')) h h' hty hty' hit
    have HR0 := hiq hR0
    have HR := hiq hR
    clear h h' hty hty' hit hR0 hR hne
    generalize SmeP (lstX l) (lstX m) w = P at *
    cases T
    case' grp => go_enter Tryz.func90, Tryz.ntmps90
    case' pat => go_enter Tryz.func91, Tryz.ntmps91
    case' sec => go_enter Tryz.func92, Tryz.ntmps92
    case' rul => go_enter Tryz.func89, Tryz.ntmps89
    case' wit => go_enter Tryz.func87, Tryz.ntmps87
    case' nod => go_enter Tryz.func238, Tryz.ntmps238
    case' exp => go_enter Tryz.func258, Tryz.ntmps258
    case' toks => go_enter Tryz.func142, Tryz.ntmps142
    case op => cases hL
    case dec => cases hL
    case rew => cases hL
    case cst => cases hL
    case sty => cases hL
    case edi => cases hL
    case int => cases hL
    case bool => cases hL
    case text => cases hL
    case pos => cases hL
    case tok => cases hL
    case inp => cases hL
    all_goals
      dsimp only [SRound, LT.sf, LT.k, LT.Inv, LT.tid] at *
      go_wp2_with fail
      go_loopw [5] (fun i wr => ∃ j : Nat, i = .int .i64 (j : Int) /\ R j wr) (fun i _ => n - (intOf i).toNat)
      case atStart => exact ⟨0, rfl, HR0.out⟩
      case round =>
        obtain ⟨j, rfl, hrel⟩ := hrel
        obtain ⟨hj, hgo, hend⟩ := HR.out _ _ hrel
        clear hrel
        by_cases hlj : j < n
        · obtain ⟨d, d', bb, off, bb', off', r, rfl, rfl, hi, hi', hcs, hcall, htrue, hfalse⟩ := hgo.out hlj
          repeat (rcases (hi : ∃ _, _) with ⟨_, hi⟩)
          repeat (rcases (hi' : ∃ _, _) with ⟨_, hi'⟩)
          subst hi
          subst hi'
          simp only [Dv.val, Dv.cells, Dv.cellsL, List.cons_append, List.nil_append, List.append_nil, CellsO, Nat.zero_add, Nat.add_zero, Nat.mul_one, Nat.reduceAdd, and_true] at hcs hcall
          have HCS := hiq hcs
          clear hgo hend hcs
          go_wp2_with fail
          obtain ⟨X, Wf, hX, hS1, hS2⟩ := family (fun V => Below wr.heap.size wr V) wr (Below.refl _ _)
          have HS2 := hiq hS2
          have q := fun x => HCS.out _ (hS1 x)
          clear hS1 hS2 HCS
          have hd0 : Below wr.heap.size wr wr.drew := (Below.refl _ _).drew
          refine wp_region_tree (Wf := Wf) 9 (.read 0 (.read 1 (.read 2 (.read 3 (.read 4 (.read 5 (.read 6 (.read 7 (.act 8 .fin))))))))) (by kernel_rfl) (by kernel_rfl) (fun _ _ d _ _ h => by cases d <;> exact h) (HS2.out _ hd0) ?_
          refine wpTree_read _ rfl (fun K hK => ?_); unfold rOp; go_simp; (refine hK _ ?_; clear hK K)
          refine wpTree_read _ rfl (fun K hK => ?_); unfold rOp; go_simp; (refine hK _ ?_; clear hK K)
          refine wpTree_read _ rfl (fun K hK => ?_); unfold rOp; go_simp; (refine hK _ ?_; clear hK K)
          refine wpTree_read _ rfl (fun K hK => ?_); unfold rOp; go_simp; (refine hK _ ?_; clear hK K)
          refine wpTree_read _ rfl (fun K hK => ?_); unfold rOp; go_simp; (refine hK _ ?_; clear hK K)
          refine wpTree_read _ rfl (fun K hK => ?_); unfold rOp; go_simp; (refine hK _ ?_; clear hK K)
          refine wpTree_read _ rfl (fun K hK => ?_); unfold rOp; go_simp; (refine hK _ ?_; clear hK K)
          refine wpTree_read _ rfl (fun K hK => ?_); unfold rOp; go_simp; (refine hK _ ?_; clear hK K)
          clear q
          refine wpTree_act _ rfl ?_
          go_wp2_with fail
          refine (hcall.out _ hd0).mono ?_
          rintro e V ⟨rfl, hb⟩
          have HBV := hiq (hd0.trans (hb.mono hd0.size))
          clear hb hcall
          go_wp2_with fail
          refine ⟨HS2.out _ HBV.out, ?_⟩
          refine wpTree_fin ?_
          cases r
          · have HP := hiq (hfalse.out rfl _ HBV.out)
            clear htrue hfalse
            go_wp2
            exact HP.out
          · have HP := hiq (htrue.out rfl _ HBV.out)
            clear htrue hfalse
            go_wp2
            go_roundw
            case rel => exact ⟨j + 1, by go_num, HP.out⟩
            case measure => simp [intOf]; omega
        · obtain rfl : j = n := by omega
          have FL := hiq (hend.out rfl)
          clear hgo hend
          go_wp2
          exact FL.out
  · have HN := hiq (hne hn)
    clear hne hit hty hty' h h'
    generalize SmeP (lstX l) (lstX m) w = P at *
    cases T
    case' grp => go_enter Tryz.func90, Tryz.ntmps90
    case' pat => go_enter Tryz.func91, Tryz.ntmps91
    case' sec => go_enter Tryz.func92, Tryz.ntmps92
    case' rul => go_enter Tryz.func89, Tryz.ntmps89
    case' wit => go_enter Tryz.func87, Tryz.ntmps87
    case' nod => go_enter Tryz.func238, Tryz.ntmps238
    case' exp => go_enter Tryz.func258, Tryz.ntmps258
    case' toks => go_enter Tryz.func142, Tryz.ntmps142
    case op => cases hL
    case dec => cases hL
    case rew => cases hL
    case cst => cases hL
    case sty => cases hL
    case edi => cases hL
    case int => cases hL
    case bool => cases hL
    case text => cases hL
    case pos => cases hL
    case tok => cases hL
    case inp => cases hL
    all_goals
      go_wp2
      exact HN.out
end Go.Proofs.YtlbcmeebcfalpaaGreatDoor
namespace Go.Proofs.YtlbcmeebcfalpaaGreatDoor
open Go.RowKit

theorem sb_any (T : LT) (hL : T.isSB = true) {S S' : Nat -> Prop} {a a' : Option Addr} {n c n' c' : Nat} {l m : List Dv} {w : World} (h : Items S w T.k T.s a n c l) (h' : Items S' w T.k T.s a' n' c' m) (hty : ∀ x ∈ l, Has T.ty x) (hty' : ∀ x ∈ m, Has T.ty x)
    (hit : ∀ d ∈ l, ∀ d' ∈ m, ∀ W, Below w.heap.size w W -> EqR .neq T.tid d.val d'.val (!sameV d.toV d'.toV)) :
    Calls Tryz.prog T.slf #[.slice a n c, .slice a' n' c'] w (SmeP (lstX l) (lstX m) w) := by
  have hne : n ≠ n' -> SmeP (lstX l) (lstX m) w (.returned (.bool false)) w := fun hn => ⟨by rw [lstX_ne (fun e => hn (by rw [h.1, h'.1]; simpa using congrArg List.length e))], Below.refl _ _⟩
  have hnb : n <= 140737488355328 := by
    have h1 := h.2.2.1
    have h2 : 1 <= T.s := by cases T <;> decide
    have h3 : n * 1 <= n * T.s := Nat.mul_le_mul_left _ h2
    omega
  by_cases hn : n = n'
  · subst hn
    obtain ⟨R, hR0, hR⟩ := sl_abs T (fun W d d' r => EqR .neq T.tid d.val d'.val (!r)) h h' hty hty' hit
    have HR0 := hiq hR0
    have HR := hiq hR
    clear h h' hty hty' hit hR0 hR hne
    generalize SmeP (lstX l) (lstX m) w = P at *
    cases T
    case' op => go_enter Tryz.func143, Tryz.ntmps143
    case' dec => go_enter Tryz.func145, Tryz.ntmps145
    case' rew => go_enter Tryz.func88, Tryz.ntmps88
    case' int => go_enter Tryz.func240, Tryz.ntmps240
    case' bool => go_enter Tryz.func144, Tryz.ntmps144
    case' text => go_enter Tryz.func141, Tryz.ntmps141
    case' tok => go_enter Tryz.func217, Tryz.ntmps217
    case grp => cases hL
    case pat => cases hL
    case sec => cases hL
    case rul => cases hL
    case wit => cases hL
    case nod => cases hL
    case exp => cases hL
    case cst => cases hL
    case sty => cases hL
    case edi => cases hL
    case pos => cases hL
    case inp => cases hL
    case toks => cases hL
    all_goals
      dsimp only [SRound, LT.sf, LT.k, LT.Inv, LT.tid] at *
      go_wp2_with fail
      go_loopw [5] (fun i wr => ∃ j : Nat, i = .int .i64 (j : Int) /\ R j wr) (fun i _ => n - (intOf i).toNat)
      case atStart => exact ⟨0, rfl, HR0.out⟩
      case round =>
        obtain ⟨j, rfl, hrel⟩ := hrel
        obtain ⟨hj, hgo, hend⟩ := HR.out _ _ hrel
        clear hrel
        by_cases hlj : j < n
        · obtain ⟨d, d', bb, off, bb', off', r, rfl, rfl, hi, hi', hcs, hcall, htrue, hfalse⟩ := hgo.out hlj
          repeat (rcases (hi : ∃ _, _) with ⟨_, hi⟩)
          repeat (rcases (hi' : ∃ _, _) with ⟨_, hi'⟩)
          subst hi
          subst hi'
          simp only [Dv.val, Dv.cells, Dv.cellsL, List.cons_append, List.nil_append, List.append_nil, CellsO, Nat.zero_add, Nat.add_zero, Nat.mul_one, Nat.reduceAdd, and_true] at hcs hcall
          have HCS := hiq hcs
          clear hgo hend hcs
          go_wp2_with fail
          obtain ⟨X, Wf, hX, hS1, hS2⟩ := family (fun V => Below wr.heap.size wr V) wr (Below.refl _ _)
          have HS2 := hiq hS2
          have q := fun x => HCS.out _ (hS1 x)
          clear hS1 hS2 HCS
          have hd0 : Below wr.heap.size wr wr.drew := (Below.refl _ _).drew
          refine wp_region_tree (Wf := Wf) 8 (.read 0 (.read 1 (.read 2 (.read 3 (.read 4 (.read 5 (.read 6 (.read 7 .fin)))))))) (by kernel_rfl) (by kernel_rfl) (fun _ _ d _ _ h => by cases d <;> exact h) (HS2.out _ hd0) ?_
          refine wpTree_read _ rfl (fun K hK => ?_); unfold rOp; go_simp; (refine hK _ ?_; clear hK K)
          refine wpTree_read _ rfl (fun K hK => ?_); unfold rOp; go_simp; (refine hK _ ?_; clear hK K)
          refine wpTree_read _ rfl (fun K hK => ?_); unfold rOp; go_simp; (refine hK _ ?_; clear hK K)
          refine wpTree_read _ rfl (fun K hK => ?_); unfold rOp; go_simp; (refine hK _ ?_; clear hK K)
          refine wpTree_read _ rfl (fun K hK => ?_); unfold rOp; go_simp; (refine hK _ ?_; clear hK K)
          refine wpTree_read _ rfl (fun K hK => ?_); unfold rOp; go_simp; (refine hK _ ?_; clear hK K)
          refine wpTree_read _ rfl (fun K hK => ?_); unfold rOp; go_simp; (refine hK _ ?_; clear hK K)
          refine wpTree_read _ rfl (fun K hK => ?_); unfold rOp; go_simp; (refine hK _ ?_; clear hK K)
          clear q
          refine wpTree_fin ?_
          refine wpList_bin (hcall.out _ hd0) _ _ _ rfl (by simp [Region.wanted]) rfl rfl ?_
          have HBV := hiq hd0
          cases r
          · have HP := hiq (hfalse.out rfl _ HBV.out)
            clear htrue hfalse
            go_wp2
            exact HP.out
          · have HP := hiq (htrue.out rfl _ HBV.out)
            clear htrue hfalse
            go_wp2
            go_roundw
            case rel => exact ⟨j + 1, by go_num, HP.out⟩
            case measure => simp [intOf]; omega
        · obtain rfl : j = n := by omega
          have FL := hiq (hend.out rfl)
          clear hgo hend
          go_wp2
          exact FL.out
  · have HN := hiq (hne hn)
    clear hne hit hty hty' h h'
    generalize SmeP (lstX l) (lstX m) w = P at *
    cases T
    case' op => go_enter Tryz.func143, Tryz.ntmps143
    case' dec => go_enter Tryz.func145, Tryz.ntmps145
    case' rew => go_enter Tryz.func88, Tryz.ntmps88
    case' int => go_enter Tryz.func240, Tryz.ntmps240
    case' bool => go_enter Tryz.func144, Tryz.ntmps144
    case' text => go_enter Tryz.func141, Tryz.ntmps141
    case' tok => go_enter Tryz.func217, Tryz.ntmps217
    case grp => cases hL
    case pat => cases hL
    case sec => cases hL
    case rul => cases hL
    case wit => cases hL
    case nod => cases hL
    case exp => cases hL
    case cst => cases hL
    case sty => cases hL
    case edi => cases hL
    case pos => cases hL
    case inp => cases hL
    case toks => cases hL
    all_goals
      go_wp2
      exact HN.out
end Go.Proofs.YtlbcmeebcfalpaaGreatDoor
namespace Go.Proofs.YtlbcmeebcfalpaaGreatDoor
open Go.RowKit

def SFact (w : World) : FK -> Dv -> Dv -> Bool -> Prop
  | .one U, d, d', r => match U.isQ with
    | true => EqR .eql U.tid d.val d'.val r
    | false => ∀ V, Below w.heap.size w V -> Calls Tryz.prog U.sf #[d.val, d'.val] V (fun e V' => e = .returned (.bool r) /\ Below V.heap.size V V')
  | .many U, d, d', r => ∀ V, Below w.heap.size w V -> Calls Tryz.prog U.slf #[d.val, d'.val] V (fun e V' => e = .returned (.bool r) /\ Below V.heap.size V V')
/-- What is known of each pair of fields; Z: what the result is good for. -/
def AllS (w : World) (Z : Bool -> Prop) : Bool -> List FK -> List Dv -> List Dv -> Prop
  | g, [], [], [] => Z g
  | g, k :: ks, d :: l, d' :: l' => ∃ r, Hid (SFact w k d d' r) /\ AllS w Z (g && r) ks l l'
  | _, _, _, _ => False
/-- Two structs in boxes of their own. -/
structure KeepB (w : World) (t : TypeId) (A A' : Array Value) (V : World) : Prop where
  below : Below w.heap.size w V
  fst : V.heap[w.heap.size]? = some (.cells A t (0, 0))
  snd : V.heap[w.heap.size + 1]? = some (.cells A' t (0, 0))
theorem keepB_new (w : World) (t : TypeId) (A A' : Array Value) : KeepB w t A A' ((w.alloc (.cells A t)).alloc (.cells A' t)) :=
  ⟨((Below.refl _ _).alloc (Nat.le_refl _) _).alloc (by simp) _, alloc_heap_some (World.alloc_heap_new w (.cells A t)), by
    have := World.alloc_heap_new (w.alloc (.cells A t)) (.cells A' t)
    simpa using this⟩
theorem KeepB.next {w V V' : World} {t : TypeId} {A A' : Array Value} (h : KeepB w t A A' V) (hb : Below V.heap.size V V') : KeepB w t A A' V' :=
  ⟨h.below.trans (hb.mono h.below.size), (hb.block _ (Array.getElem?_eq_some_iff.1 h.fst).1).trans h.fst, (hb.block _ (Array.getElem?_eq_some_iff.1 h.snd).1).trans h.snd⟩
theorem KeepB.cells {w V : World} {t : TypeId} {cs cs' : List Value} (h : KeepB w t cs.toArray cs'.toArray V) : CellsAt V w.heap.size 0 cs /\ CellsAt V (w.heap.size + 1) 0 cs' := ⟨cellsAt h.fst, cellsAt h.snd⟩
section
variable {ops : Array Oper} {L : List Oper} {act : Act} {Q : Exit -> Act -> World -> Prop}
end
/-- Behind a comparison that fails nothing of a chain of 'and' is looked at. -/
def skipB (N z : Nat) (ops : Array Oper) : List Nat -> List Oper -> Bool
  | F, [] => F.contains z
  | F, o :: L => match o.dst with
    | none => false
    | some d => decide (d < N) && (match o.guard with
      | some (j, true) => (match (ops[j]?).bind (·.dst) with | some s => F.contains s | none => false) && !F.contains d && skipB N z ops F L
      | some (_, false) => false
      | none => match o.op with
        | .move (.tmp t) => F.contains t && skipB N z ops (d :: F) L
        | .assign (.tmp t) => F.contains t && skipB N z ops (d :: F) L
        | .pick (.tmp t) _ (.const (.bool false)) => F.contains t && skipB N z ops (d :: F) L
        | _ => false)
theorem put_false {a : Act} {d N : Nat} {F : List Nat} (hd : d < N) (hN : a.tmps.size = N) (hF : ∀ t ∈ F, a.tmps[t]? = some (.bool false)) : ∀ t ∈ d :: F, (a.put (some d) (.bool false)).tmps[t]? = some (.bool false) := by
  intro t ht
  show (a.tmps.setIfInBounds d (.bool false))[t]? = _
  by_cases e : t = d
  · subst e; rw [Array.getElem?_setIfInBounds_self_of_lt (by omega)]
  · rw [Array.getElem?_setIfInBounds_ne (fun h => e h.symm)]
    rcases List.mem_cons.1 ht with h | h
    · exact absurd h e
    · exact hF t h
theorem eval_false {a : Act} {t : Nat} (h : a.tmps[t]? = some (.bool false)) : a.eval (.tmp t) = .bool false := by
  show a.tmps.getD t undef = _
  simp [h]
theorem wpList_skip {ops : Array Oper} {Q : Exit -> Act -> World -> Prop} {W : World} {N z : Nat} : ∀ (L : List Oper) (F : List Nat) (act : Act), skipB N z ops F L = true -> act.tmps.size = N -> (∀ t ∈ F, act.tmps[t]? = some (.bool false)) ->
    (∀ a : Act, a.tmps[z]? = some (.bool false) -> a.defers = act.defers -> Q .normal a W) -> wpList Tryz.prog ops Q L act W
  | [], F, act, hB, hN, hF, hk => by
    refine wpList_nil (hk act (hF z ?_) rfl)
    simpa [skipB] using hB
  | o :: L, F, act, hB, hN, hF, hk => by
    unfold skipB at hB
    split at hB
    · cases hB
    · rename_i d hd
      rw [Bool.and_eq_true] at hB
      obtain ⟨hdN, hB⟩ := hB
      have hdN := of_decide_eq_true hdN
      have hsz : ∀ v, (act.put (some d) v).tmps.size = N := fun v => by show (act.tmps.setIfInBounds d v).size = N; simp [hN]
      split at hB
      · rename_i j hg
        rw [Bool.and_eq_true, Bool.and_eq_true] at hB
        obtain ⟨⟨h1, h2⟩, h3⟩ := hB
        refine wpList_step fun K hK => ?_
        have hw : Region.wanted o (yielded ops act.tmps) = false := by
          unfold Region.wanted yielded
          rw [hg]
          split at h1
          · rename_i s hs
            have := hF s (by simpa using h1)
            simp [hs, this]
          · cases h1
        rw [hw, hd]
        refine hK _ _ (wpList_skip L F _ h3 (hsz _) (fun t ht => ?_) hk)
        show (act.tmps.setIfInBounds d undef)[t]? = _
        rw [Array.getElem?_setIfInBounds_ne (fun h => by subst h; simp [ht] at h2)]
        exact hF t ht
      · cases hB
      · rename_i hg
        split at hB
        · rename_i t ho
          rw [Bool.and_eq_true] at hB
          have ht := hF t (by simpa using hB.1)
          refine wpList_plain hg fun K hK => ?_
          unfold Oper.wp execOp
          simp only [ho, eval_false ht, Sem.run_bind, Sem.run_pure, Result.andThen_ok]
          rw [Oper.upon_value, hd]
          exact hK _ _ (wpList_skip L _ _ hB.2 (hsz _) (put_false hdN hN hF) hk)
        · rename_i t ho
          rw [Bool.and_eq_true] at hB
          have ht := hF t (by simpa using hB.1)
          refine wpList_plain hg fun K hK => ?_
          unfold Oper.wp execOp
          simp only [ho, eval_false ht, Sem.run_bind, Sem.run_pure, Result.andThen_ok]
          rw [Oper.upon_value, hd]
          exact hK _ _ (wpList_skip L _ _ hB.2 (hsz _) (put_false hdN hN hF) hk)
        · rename_i t x ho
          rw [Bool.and_eq_true] at hB
          have ht := hF t (by simpa using hB.1)
          refine wpList_plain hg fun K hK => ?_
          unfold Oper.wp execOp
          simp only [ho, eval_false ht, Sem.run_bind, Sem.run_pure, Result.andThen_ok, asBool]
          rw [Oper.upon_value, hd]
          exact hK _ _ (wpList_skip L _ _ hB.2 (hsz _) (put_false hdN hN hF) hk)
        · cases hB
/-- A region walked in pieces of so many operations. -/
def wpCut (ops : Array Oper) (Q : Exit -> Act -> World -> Prop) : List Nat -> List Oper -> Act -> World -> Prop
  | [], L, a, w => wpList Tryz.prog ops Q L a w
  | n :: ns, L, a, w => wpList Tryz.prog ops (Exit.then (fun a w => wpCut ops Q ns (L.drop n) a w) Q) (L.take n) a w
theorem wpList_app {ops : Array Oper} {Q : Exit -> Act -> World -> Prop} {K : Act -> World -> Prop} {m : List Oper} (hK : ∀ a w, K a w -> wpList Tryz.prog ops Q m a w) : ∀ (l : List Oper) (a : Act) (w : World), wpList Tryz.prog ops (Exit.then K Q) l a w -> wpList Tryz.prog ops Q (l ++ m) a w
  | [], a, w, h => hK a w h
  | o :: l, a, w, h => by
    rw [List.cons_append]
    unfold wpList at h ⊢
    split
    · rename_i hw
      rw [if_pos hw] at h
      rcases h with h | h
      · have h' : o.wp Tryz.prog a w (wpList Tryz.prog ops (Exit.then K Q) l) Q := h
        exact .inl (Oper.wp_mono (fun a w h => wpList_app hK l a w h) h')
      · exact .inr h
    · rename_i hw
      rw [if_neg hw] at h
      exact wpList_app hK l _ _ h
theorem wpCut_list {ops : Array Oper} {Q : Exit -> Act -> World -> Prop} : ∀ (ns : List Nat) (L : List Oper) (a : Act) (w : World), wpCut ops Q ns L a w -> wpList Tryz.prog ops Q L a w
  | [], L, a, w, h => h
  | n :: ns, L, a, w, h => by
    rw [<- List.take_append_drop n L]
    exact wpList_app (fun a w h => wpCut_list ns _ a w h) _ _ _ h
theorem wpList_part {ops : Array Oper} {Q : Exit -> Act -> World -> Prop} {K : Act -> World -> Prop} {m : List Oper} (hK : ∀ a w, wpList Tryz.prog ops Q m a w -> K a w) : ∀ (l : List Oper) (a : Act) (w : World), wpList Tryz.prog ops Q (l ++ m) a w -> wpList Tryz.prog ops (Exit.then K Q) l a w
  | [], a, w, h => hK a w h
  | o :: l, a, w, h => by
    rw [List.cons_append] at h
    unfold wpList at h ⊢
    split
    · rename_i hw
      rw [if_pos hw] at h
      rcases h with h | h
      · have h' : o.wp Tryz.prog a w (wpList Tryz.prog ops (Exit.then K Q) l) Q := Oper.wp_mono (fun a w h => wpList_part hK l a w h) h
        exact .inl h'
      · exact .inr h
    · rename_i hw
      rw [if_neg hw] at h
      exact wpList_part hK l _ _ h
theorem wpCut_back {ops : Array Oper} {Q : Exit -> Act -> World -> Prop} : ∀ (ns : List Nat) (L : List Oper) (a : Act) (w : World), wpList Tryz.prog ops Q L a w -> wpCut ops Q ns L a w
  | [], L, a, w, h => h
  | n :: ns, L, a, w, h => by
    rw [<- List.take_append_drop n L] at h
    exact wpList_part (fun a w h => wpCut_back ns _ a w h) _ _ _ h
theorem wpCut_skip {ops : Array Oper} {Q : Exit -> Act -> World -> Prop} {W : World} {ns : List Nat} {L : List Oper} {act : Act} (N z p : Nat) (hB : skipB N z ops [p] L = true) (hN : act.tmps.size = N) (hp : act.tmps[p]? = some (.bool false))
    (hk : ∀ a : Act, a.tmps[z]? = some (.bool false) -> a.defers = act.defers -> Q .normal a W) : wpCut ops Q ns L act W :=
  wpCut_back _ _ _ _ (wpList_skip L [p] act hB hN (fun t ht => by rw [List.mem_singleton] at ht; rw [ht]; exact hp) hk)
theorem wpCut_cons {ops : Array Oper} {Q : Exit -> Act -> World -> Prop} {n : Nat} {ns : List Nat} {L : List Oper} {a : Act} {w : World} (h : wpList Tryz.prog ops (Exit.then (fun a w => wpCut ops Q ns (L.drop n) a w) Q) (L.take n) a w) : wpCut ops Q (n :: ns) L a w := h
theorem wpCut_nil {ops : Array Oper} {Q : Exit -> Act -> World -> Prop} {L : List Oper} {a : Act} {w : World} (h : wpList Tryz.prog ops Q L a w) : wpCut ops Q [] L a w := h
theorem wp_region_cut {id : Nat} {l : List Oper} {Q : Exit -> Act -> World -> Prop} {a : Act} {w : World} (ns : List Nat) (h : wpCut l.toArray Q ns l a w) : (Code.region id l.toArray false).wp Tryz.prog Q a w := wp_region_lit (wpCut_list ns l a w h)
theorem allS_of {w : World} {Z : Bool -> Prop} : ∀ (fk : List FK) (l l' : List Dv) (g : Bool), l.length = fk.length -> l'.length = fk.length -> (∀ (i : Nat) (k : FK) (d d' : Dv), fk[i]? = some k -> l[i]? = some d -> l'[i]? = some d' -> SFact w k d d' (sameV d.toV d'.toV)) -> Z (g && sameL (Dv.toVL l) (Dv.toVL l')) -> AllS w Z g fk l l'
  | [], [], [], g, _, _, _, h => by
    rw [Dv.toVL, sameL, Bool.and_true] at h; exact h
  | k :: ks, d :: l, d' :: l', g, h1, h2, hf, h => by
    refine ⟨sameV d.toV d'.toV, hf 0 k d d' rfl rfl rfl, allS_of ks l l' _ (by simpa using h1) (by simpa using h2) (fun i k e e' a b c => hf (i + 1) k e e' a b c) ?_⟩
    rw [Dv.toVL, Dv.toVL, sameL, <- Bool.and_assoc] at h; exact h
  | [], _ :: _, _, _, h, _, _, _ => by cases h
  | [], [], _ :: _, _, _, h, _, _ => by cases h
  | _ :: _, [], _, _, h, _, _, _ => by cases h
  | _ :: _, _ :: _, [], _, _, h, _, _ => by cases h
theorem eqr_int {a b : Int} {r : Bool} (W : World) (h : EqR .eql 3 (.int .i64 a) (.int .i64 b) r) : (a == b) = r := by
  have := h (.tmp 0) (.tmp 0) W
  simpa [go_sem] using this
theorem eqr_text {a b : ByteArray} {r : Bool} (W : World) (h : EqR .eql 9 (.string a) (.string b) r) : (a.toList == b.toList) = r := by
  have := h (.tmp 0) (.tmp 0) W
  simpa [go_sem, beq_toListBytes] using this
theorem eqr_cst {A B : Array Value} {r : Bool} (h : EqR .eql 30 (.agg A) (.agg B) r) : ∀ W, (binOp .eql 30 (.agg A) (.agg B)).run Tryz.prog W = .ok (.bool r) W := fun W => by
  have := h (.tmp 0) (.tmp 0) W
  simpa [go_sem] using this
end Go.Proofs.YtlbcmeebcfalpaaGreatDoor
