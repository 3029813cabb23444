/- Joined: CSame, ISa, ISlA, ISlB, IWp. -/
import Derived.Test.YtlbcmeebcfalpaaGreatDoorP02
import Derived.Test.YtlbcmeebcfalpaaGreatDoorP11
import Derived.Test.YtlbcmeebcfalpaaGreatDoorP08
set_option linter.unusedVariables false
set_option linter.unusedSimpArgs false
set_option maxRecDepth 100000
set_option maxHeartbeats 16000000
namespace Go.Proofs.YtlbcmeebcfalpaaGreatDoor
open Go.RowKit

mutual
/-- Whether two values are equal. -/
def sameV : V -> V -> Bool | .mk k n t l, .mk k' n' t' l' => decide (k = k') && (decide (n = n') && (decide (t = t') && sameL l l'))
def sameL : List V -> List V -> Bool | [], [] => true | u :: r, u' :: r' => sameV u u' && sameL r r' | [], _ :: _ => false | _ :: _, [] => false
end
theorem sameV_iff (a : V) : ∀ b, sameV a b = true ↔ a = b := by
  induction a using V.ind with
  | h a ih =>
    intro b
    obtain ⟨k, n, t, l⟩ := a
    obtain ⟨k', n', t', l'⟩ := b
    change ∀ u ∈ l, _ at ih
    have key : ∀ (l l' : List V), (∀ u ∈ l, ∀ b, sameV u b = true ↔ u = b) -> (sameL l l' = true ↔ l = l') := by
      intro l
      induction l with
      | nil => intro l' _; cases l' <;> simp [sameL]
      | cons u r ihr =>
        intro l' h
        cases l' with
        | nil => simp [sameL]
        | cons u' r' =>
          rw [sameL, Bool.and_eq_true, h u (by simp), ihr r' (fun y hy => h y (by simp [hy]))]
          simp
    rw [sameV]
    simp only [Bool.and_eq_true, decide_eq_true_eq, key l l' ih, V.mk.injEq]
theorem sameL_take {l m : List Vl} {j : Nat} {u v : Vl} (hu : l[j]? = some u) (hv : m[j]? = some v) : sameL ((l.map Vl.er).drop j) ((m.map Vl.er).drop j) = (sameV u.er v.er && sameL ((l.map Vl.er).drop (j + 1)) ((m.map Vl.er).drop (j + 1))) := by
  have key : ∀ {l : List Vl} {u : Vl}, l[j]? = some u -> (l.map Vl.er).drop j = u.er :: (l.map Vl.er).drop (j + 1) := fun {l u} hu => by
    obtain ⟨h1, e1⟩ := List.getElem?_eq_some_iff.1 hu
    have := List.drop_eq_getElem_cons (l := l.map Vl.er) (i := j) (by simpa using h1)
    rw [this]; simp [e1]
  rw [key hu, key hv, sameL]
theorem sameL_end {l m : List Vl} {j : Nat} (h1 : l.length <= j) (h2 : m.length <= j) : sameL ((l.map Vl.er).drop j) ((m.map Vl.er).drop j) = true := by
  rw [List.drop_of_length_le (by simpa using h1), List.drop_of_length_le (by simpa using h2)]; rfl
theorem sameL_len {l m : List V} (h : l.length ≠ m.length) : sameL l m = false := by
  cases hs : sameL l m with
  | false => rfl
  | true =>
    exfalso
    have key : ∀ (l m : List V), sameL l m = true -> l.length = m.length := by
      intro l
      induction l with
      | nil => intro m h; cases m with | nil => rfl | cons _ _ => simp [sameL] at h
      | cons u r ih => intro m h; cases m with | nil => simp [sameL] at h | cons u' r' => rw [sameL, Bool.and_eq_true] at h; simp [ih r' h.2]
    exact h (key l m hs)
theorem equalFunc_of (S S' : Nat -> Prop) (a b : Option Addr) (c d : Nat) (l m : List Vl) (w : World) (h : Vals S w a l.length c l) (h' : Vals S' w b m.length d m)
    (ih : ∀ u ∈ l, ∀ (v : Vl) (W : World), Rd S W u -> Rd S' W v -> Calls Tryz.prog 43 #[u.val, v.val] W fun e W' => e = .returned (.bool (sameV u.er v.er)) /\ Below W.heap.size W W') :
    Calls Tryz.prog 123 #[.slice a l.length c, .slice b m.length d, .func (.func 43) #[] #[]] w fun e w' => e = .returned (.bool (sameL (l.map Vl.er) (m.map Vl.er))) /\ Below w.heap.size w w' := by
  have IH := hiq ih
  clear ih
  have hL := h.2.2.1
  have hL' := h'.2.2.1
  by_cases hlen : l.length = m.length
  · have hd : ((l.length : Int) != m.length) = false := by simp [hlen]
    have HLEN := hiq hlen
    have hE0 : Hid (sameL (l.map Vl.er) (m.map Vl.er) = sameL ((l.map Vl.er).drop 0) ((m.map Vl.er).drop 0)) := rfl
    generalize hM : m.length = ML at *
    have HM := hiq hM
    generalize hN : l.length = NL at *
    have HN := hiq hN
    clear hM hN hlen
    generalize sameL (l.map Vl.er) (m.map Vl.er) = R at *
    go_enter Tryz.func123, Tryz.ntmps123
    go_wp2
    go_loopw [17] (fun i wr => ∃ (j : Nat), i = .int .i64 j /\ j <= NL /\ Hid (R = sameL ((l.map Vl.er).drop j) ((m.map Vl.er).drop j)) /\ Below w.heap.size w wr) (fun i _ => NL - (intOf i).toNat)
    case atStart => exact ⟨0, rfl, Nat.zero_le _, hE0.out, Below.refl _ _⟩
    case round =>
      obtain ⟨j, rfl, hj, hx, hb⟩ := hrel
      by_cases hlj : j < NL
      · obtain ⟨u, bb, off, hu, hmem, rfl, -, hbl, ⟨c1, c2, c3, c4⟩, hru⟩ := (h.below hb).get hlj
        obtain ⟨v, bb', off', hv, -, rfl, -, hbl', ⟨d1, d2, d3, d4⟩, hrv⟩ := (h'.below hb).get (j := j) (by have := HLEN.out; omega)
        have hlj' : j < ML := by have := HLEN.out; omega
        have hst := sameL_take hu hv
        rw [<- hx.out] at hst
        have hb1 : Below wr.heap.size wr (wr.alloc (.cells u.cells 24)) := (Below.refl _ _).alloc (Nat.le_refl _) _
        have hb2 : Below wr.heap.size wr ((wr.alloc (.cells u.cells 24)).alloc (.cells v.cells 24)) := hb1.alloc hb1.size _
        have F := IH.out u hmem v ((wr.alloc (.cells u.cells 24)).alloc (.cells v.cells 24)) (hru.below hb2) (hrv.below hb2)
        have e1 := clq hb1 d1
        have e2 := clq hb1 d2
        have e3 := clq hb1 d3
        have e4 := clq hb1 d4
        generalize hG : sameV u.er v.er = G at *
        clear hG
        have HST := hiq hst
        obtain ⟨uk, un, ut, ua, uc, ul⟩ := u
        obtain ⟨vk, vn, vt, va, vc, vl⟩ := v
        dsimp only [Vl.val, Vl.cells, Vl.kind, Vl.num, Vl.text, Vl.sl, Vl.addr, Vl.items, Vl.cap] at c1 c2 c3 c4 d1 d2 d3 d4 e1 e2 e3 e4 F hb2
        have HF := hiq F
        clear F hst hx hru hrv hu hv hmem hb1
        cases G with
        | true =>
          have HST2 : Hid (R = sameL ((l.map Vl.er).drop (j + 1)) ((m.map Vl.er).drop (j + 1))) := by show _ = _; rw [HST.out]; rfl
          clear HST
          go_wp2_with (go_at_call 43; refine HF.out.mono ?_; rintro e w' ⟨rfl, hb'⟩)
          go_roundw
          case rel => exact ⟨j + 1, by go_num, by omega, HST2.out, hb.trans ((hb2.trans (hb'.mono hb2.size)).mono hb.size)⟩
          case measure => simp [intOf]; omega
        | false =>
          have HST2 : Hid (R = false) := by show _ = _; rw [HST.out]; rfl
          clear HST
          go_wp2_with (go_at_call 43; refine HF.out.mono ?_; rintro e w' ⟨rfl, hb'⟩)
          go_ret
          exact ⟨by rw [HST2.out]; rfl, hb.trans ((hb2.trans (hb'.mono hb2.size)).mono hb.size)⟩
      · obtain rfl : j = NL := by omega
        have HST2 : Hid (R = true) := by show _ = _; rw [hx.out]; exact sameL_end (by rw [HN.out]; exact Nat.le_refl _) (by rw [HM.out, HLEN.out]; exact Nat.le_refl _)
        go_wp2
        go_ret
        exact ⟨by rw [HST2.out]; rfl, hb⟩
  · have hd : ((l.length : Int) != m.length) = true := by simp; omega
    have HX : Hid (sameL (l.map Vl.er) (m.map Vl.er) = false) := sameL_len (by simpa using hlen)
    go_enter Tryz.func123, Tryz.ntmps123
    go_wp2
    go_ret
    exact ⟨by rw [HX.out]; rfl, Below.refl _ _⟩
end Go.Proofs.YtlbcmeebcfalpaaGreatDoor

namespace Go.Proofs.YtlbcmeebcfalpaaGreatDoor
open Go.RowKit
theorem same_any (S S' : Nat -> Prop) (a : Vl) : ∀ (b : Vl) (w : World), Rd S w a -> Rd S' w b ->
    Calls Tryz.prog 43 #[a.val, b.val] w fun e w' => e = .returned (.bool (sameV a.er b.er)) /\ Below w.heap.size w w' := by
  induction a using Vl.ind with
  | h a ih =>
    intro b w ha hb
    obtain ⟨k, nn, t, a, c, l⟩ := a
    obtain ⟨k', nn', t', a', c', l'⟩ := b
    change ∀ u ∈ l, _ at ih
    have hb1 : Below w.heap.size w (w.alloc (.cells #[.int .i64 k, .int .i64 nn, .string t, .slice a l.length c] 24)) := (Below.refl _ _).alloc (Nat.le_refl _) _
    have hb2 : Below w.heap.size w ((w.alloc (.cells #[.int .i64 k, .int .i64 nn, .string t, .slice a l.length c] 24)).alloc (.cells #[.int .i64 k', .int .i64 nn', .string t', .slice a' l'.length c'] 24)) := hb1.alloc hb1.size _
    have F := equalFunc_of S S' a a' c c' l l' _ ((ha.below hb2).vals) ((hb.below hb2).vals) ih
    have hE : Hid (sameV (Vl.mk k nn t a c l).er (Vl.mk k' nn' t' a' c' l').er = (decide (k = k') && (decide (nn = nn') && (decide (t = t') && sameL (l.map Vl.er) (l'.map Vl.er))))) := by
      show _ = _; rw [Vl.er, Vl.er, sameV, Vl.erL_map, Vl.erL_map]
    change Calls _ _ #[.agg #[.int .i64 k, .int .i64 nn, .string t, .slice a l.length c], .agg #[.int .i64 k', .int .i64 nn', .string t', .slice a' l'.length c']] _ _
    generalize sameV (Vl.mk k nn t a c l).er (Vl.mk k' nn' t' a' c' l').er = R at *
    generalize sameL (l.map Vl.er) (l'.map Vl.er) = Q at *
    have HF := hiq F
    clear F ih ha hb hb1
    by_cases h1 : k = k'
    · subst h1
      have d1 : ((k : Int) == k) = true := by simp
      by_cases h2 : nn = nn'
      · subst h2
        have d2 : ((nn : Int) == nn) = true := by simp
        by_cases h3 : t = t'
        · subst h3
          have HX : Hid (R = Q) := by show _ = _; rw [hE.out]; simp
          clear hE
          go_enter Tryz.func43, Tryz.ntmps43
          go_wp2_with (go_at_call 123; refine HF.out.mono ?_; rintro e W2 ⟨rfl, hb3⟩)
          go_ret
          exact ⟨by rw [HX.out]; rfl, hb2.trans (hb3.mono hb2.size)⟩
        · have HX : Hid (R = false) := by show _ = _; rw [hE.out]; simp [h3]
          clear hE HF
          have d3 : (t.toList == t'.toList) = false := by
            rw [beq_eq_false_iff_ne, ByteArray.toList_eq, ByteArray.toList_eq]
            intro h; apply h3; cases t; cases t'; simp at h; rw [ByteArray.mk.injEq]; exact h
          go_enter Tryz.func43, Tryz.ntmps43
          go_wp2
          go_ret
          exact ⟨by rw [HX.out]; rfl, hb2⟩
      · have HX : Hid (R = false) := by show _ = _; rw [hE.out]; simp [h2]
        have d2 : ((nn : Int) == nn') = false := by simp [h2]
        clear hE HF
        go_enter Tryz.func43, Tryz.ntmps43
        go_wp2
        go_ret
        exact ⟨by rw [HX.out]; rfl, hb2⟩
    · have HX : Hid (R = false) := by show _ = _; rw [hE.out]; simp [h1]
      have d1 : ((k : Int) == k') = false := by simp [h1]
      clear hE HF
      go_enter Tryz.func43, Tryz.ntmps43
      go_wp2
      go_ret
      exact ⟨by rw [HX.out]; rfl, hb2⟩
end Go.Proofs.YtlbcmeebcfalpaaGreatDoor
namespace Go.Proofs.YtlbcmeebcfalpaaGreatDoor
open Go.RowKit

namespace LT
@[reducible] def sf : LT -> FuncId | grp => 193 | pat => 194 | sec => 195 | rul => 192 | wit => 191 | nod => 257 | exp => 239 | sty => 93 | edi => 36 | inp => 47 | toks => 217 | _ => 0
@[reducible] def slf : LT -> FuncId | op => 143 | dec => 145 | rew => 88 | grp => 90 | pat => 91 | sec => 92 | rul => 89 | wit => 87 | nod => 238 | exp => 258 | int => 240 | bool => 144 | text => 141 | tok => 217 | toks => 142 | _ => 0
@[reducible] def isQ : LT -> Bool | op => true | dec => true | rew => true | cst => true | int => true | bool => true | text => true | tok => true | _ => false
@[reducible] def isX : LT -> Bool | grp => true | pat => true | sec => true | rul => true | wit => true | nod => true | exp => true | sty => true | edi => true | inp => true | toks => true | _ => false
@[reducible] def isSA : LT -> Bool | grp => true | pat => true | sec => true | rul => true | wit => true | nod => true | exp => true | toks => true | _ => false
@[reducible] def isSB : LT -> Bool | op => true | dec => true | rew => true | int => true | bool => true | text => true | tok => true | _ => false
end LT
def SmeP (x y : V) (w : World) (e : Ending) (w' : World) : Prop := e = .returned (.bool (sameV x y)) /\ Below w.heap.size w w'
theorem sameV_true {a b : V} (h : a = b) : sameV a b = true := (sameV_iff a b).2 h
theorem sameV_false {a b : V} (h : a ≠ b) : sameV a b = false := by
  cases hh : sameV a b
  · rfl
  · exact absurd ((sameV_iff a b).1 hh) h
theorem toListB_iff (a b : ByteArray) : a.toList = b.toList ↔ a = b := by
  rw [ByteArray.toList_eq, ByteArray.toList_eq]
  obtain ⟨⟨x⟩⟩ := a
  obtain ⟨⟨y⟩⟩ := b
  simp
/-- What a comparison by the operator answers. -/
def EqR (op : BinOp) (t : TypeId) (a b : Value) (r : Bool) : Prop := ∀ (x y : Operand) (W : World), (do eqGuard op t x y a b; binOp op t a b).run Tryz.prog W = .ok (.bool r) W
section
variable {ops : Array Oper} {rest : List Oper} {o : Oper} {act : Act} {Q : Exit -> Act -> World -> Prop} {W : World}
/-- A comparison by the operator, under a guard that lets it through. -/
theorem wpList_bin {op : BinOp} {t : TypeId} {a b : Value} {r : Bool} (h : EqR op t a b r) (x y : Operand) (rt : TypeId) (ho : o.op = .binOp op t x y rt) (hg : Region.wanted o (yielded ops act.tmps) = true) (hx : act.eval x = a) (hy : act.eval y = b)
    (hk : wpList Tryz.prog ops Q rest (act.put o.dst (.bool r)) W) : wpList Tryz.prog ops Q (o :: rest) act W := by
  refine wpList_step fun K hK => ?_
  simp only [hg, if_true]
  have h' := h x y W
  simp only [Sem.run_bind] at h'
  unfold Oper.wp execOp
  simp only [ho, hx, hy, Sem.run_bind, h', Sem.run_pure, Result.andThen_ok]
  exact hK _ _ hk
end
theorem eqr_any (T : LT) (hQ : T.isQ = true) {d d' : Dv} (h : Has T.ty d) (h' : Has T.ty d') : EqR .neq T.tid d.val d'.val (!sameV d.toV d'.toV) /\ EqR .eql T.tid d.val d'.val (sameV d.toV d'.toV) := by
  have hi := T.inv h
  have hi' := T.inv h'
  clear h h'
  cases T
  all_goals first | (cases hQ; done) | skip
  all_goals
    dsimp only [LT.Inv] at hi hi'
    repeat (rcases (hi : ∃ _, _) with ⟨_, hi⟩)
    repeat (rcases (hi' : ∃ _, _) with ⟨_, hi'⟩)
    subst hi
    subst hi'
    refine ⟨fun x y W => ?_, fun x y W => ?_⟩
    all_goals (simp [go_sem, Dv.val, Dv.cells, Dv.cellsL, Dv.toV, Dv.toVL, sameV, sameL, toListB_iff, beq_toListBytes] <;> (repeat' split) <;> simp_all <;> (rename_i u v; by_cases e : u = v <;> simp [e, toListB_iff]))
/-- A round of a walk along two lists. -/
def SRound (T : LT) (C : World -> Dv -> Dv -> Bool -> Prop) (R : Nat -> World -> Prop) (P : Ending -> World -> Prop) (a a' : Option Addr) (n : Nat) (j : Nat) (wr : World) : Prop :=
  j <= n /\ Hid (j < n -> ∃ (d d' : Dv) (bb off bb' off' : Nat) (r : Bool), a = some ⟨bb, off, none⟩ /\ a' = some ⟨bb', off', none⟩ /\ T.Inv d /\ T.Inv d' /\ (∀ V, Below wr.heap.size wr V -> CellsO V bb (off + j * T.k) 0 d.cells /\ CellsO V bb' (off' + j * T.k) 0 d'.cells) /\ Hid (∀ V, Below wr.heap.size wr V -> C V d d' r) /\ Hid (r = true -> ∀ V, Below wr.heap.size wr V -> R (j + 1) V) /\ Hid (r = false -> ∀ V, Below wr.heap.size wr V -> P (.returned (.bool false)) V)) /\ Hid (j = n -> P (.returned (.bool true)) wr)
theorem map_cut {l m : List Dv} {j : Nat} {d d' : Dv} (h : (l.take j).map Dv.toV = (m.take j).map Dv.toV) (hd : l[j]? = some d) (hd' : m[j]? = some d') (e : d.toV = d'.toV) : (l.take (j + 1)).map Dv.toV = (m.take (j + 1)).map Dv.toV := by
  rw [List.take_add_one, List.take_add_one, hd, hd', List.map_append, List.map_append, h]
  simp [e]
abbrev lstX (l : List Dv) : V := .mk 3 0 ⟨#[]⟩ (l.map Dv.toV)
theorem lstX_ne {l m : List Dv} (h : l.map Dv.toV ≠ m.map Dv.toV) : sameV (lstX l) (lstX m) = false := sameV_false fun e => h (by injection e)
theorem sl_abs (T : LT) (C : World -> Dv -> Dv -> Bool -> Prop) {S S' : Nat -> Prop} {a a' : Option Addr} {n c c' : Nat} {l m : List Dv} {w : World} (h : Items S w T.k T.s a n c l) (h' : Items S' w T.k T.s a' n c' m) (hty : ∀ x ∈ l, Has T.ty x) (hty' : ∀ x ∈ m, Has T.ty x)
    (hit : ∀ d ∈ l, ∀ d' ∈ m, ∀ W, Below w.heap.size w W -> C W d d' (sameV d.toV d'.toV)) :
    ∃ R : Nat -> World -> Prop, R 0 w /\ ∀ j wr, R j wr -> SRound T C R (SmeP (lstX l) (lstX m) w) a a' n j wr := by
  refine ⟨fun j wr => j <= n /\ (l.take j).map Dv.toV = (m.take j).map Dv.toV /\ Below w.heap.size w wr, ⟨Nat.zero_le _, rfl, Below.refl _ _⟩, ?_⟩
  rintro j wr ⟨hj, he, hb⟩
  have hl : l.length = n := h.1.symm
  have hm : m.length = n := h'.1.symm
  refine ⟨hj, fun hlj => ?_, fun hjn => ⟨?_, hb⟩⟩
  · obtain ⟨d, bb, off, hd, hmem, ha, -, hat, hrd⟩ := (h.below hb).get hlj
    obtain ⟨d', bb', off', hd', hmem', ha', -, hat', hrd'⟩ := (h'.below hb).get hlj
    refine ⟨d, d', bb, off, bb', off', sameV d.toV d'.toV, ha, ha', T.inv (hty d hmem), T.inv (hty' d' hmem'), fun V hV => ⟨cellsO_gen (hat.keep (S := fun _ => True) trivial ⟨hV.size, fun b cs t fr _ hx => (hV.block _ (Array.getElem?_eq_some_iff.1 hx).1).trans hx⟩) d.cells 0 (fun j x hx => by rw [Nat.zero_add]; exact hx), cellsO_gen (hat'.keep (S := fun _ => True) trivial ⟨hV.size, fun b cs t fr _ hx => (hV.block _ (Array.getElem?_eq_some_iff.1 hx).1).trans hx⟩) d'.cells 0 (fun j x hx => by rw [Nat.zero_add]; exact hx)⟩,
      fun V hV => hit d hmem d' hmem' V (hb.trans (hV.mono hb.size)), fun hr V hV => ⟨by omega, map_cut he hd hd' ((sameV_iff _ _).1 hr), hb.trans (hV.mono hb.size)⟩, fun hr V hV => ⟨?_, hb.trans (hV.mono hb.size)⟩⟩
    rw [lstX_ne]
    intro e
    have e1 := congrArg (·[j]?) e
    simp only [List.getElem?_map, hd, hd', Option.map_some, Option.some.injEq] at e1
    rw [sameV_true e1] at hr
    cases hr
  · subst hjn
    rw [sameV_true]
    rw [List.take_of_length_le (by omega), List.take_of_length_le (by omega)] at he
    unfold lstX
    rw [he]
end Go.Proofs.YtlbcmeebcfalpaaGreatDoor
namespace Go.Proofs.YtlbcmeebcfalpaaGreatDoor
open Go.RowKit

theorem sa_any (T : LT) (hL : T.isSA = true) {S S' : Nat -> Prop} {a a' : Option Addr} {n c n' c' : Nat} {l m : List Dv} {w : World} (h : Items S w T.k T.s a n c l) (h' : Items S' w T.k T.s a' n' c' m) (hty : ∀ x ∈ l, Has T.ty x) (hty' : ∀ x ∈ m, Has T.ty x)
    (hit : ∀ d ∈ l, ∀ d' ∈ m, ∀ W, Below w.heap.size w W -> Calls Tryz.prog T.sf #[d.val, d'.val] W (fun e w' => e = .returned (.bool (sameV d.toV d'.toV)) /\ Below W.heap.size W w')) :
    Calls Tryz.prog T.slf #[.slice a n c, .slice a' n' c'] w (SmeP (lstX l) (lstX m) w) := by
  have hne : n ≠ n' -> SmeP (lstX l) (lstX m) w (.returned (.bool false)) w := fun hn => ⟨by rw [lstX_ne (fun e => hn (by rw [h.1, h'.1]; simpa using congrArg List.length e))], Below.refl _ _⟩
  have hnb : n <= 140737488355328 := by
    have h1 := h.2.2.1
    have h2 : 1 <= T.s := by cases T <;> decide
    have h3 : n * 1 <= n * T.s := Nat.mul_le_mul_left _ h2
    omega
  by_cases hn : n = n'
  · subst hn
    obtain ⟨R, hR0, hR⟩ := sl_abs T (fun W d d' r => Calls Tryz.prog T.sf #[d.val, d'.val] W (fun e w' => e = .returned (.bool r) /\ Below W.heap.size W w')) h h' hty hty' hit
    have HR0 := hiq hR0
    have HR := hiq hR
    clear h h' hty hty' hit hR0 hR hne
    generalize SmeP (lstX l) (lstX m) w = P at *
    cases T
    case' grp => go_enter Tryz.func90, Tryz.ntmps90
    case' pat => go_enter Tryz.func91, Tryz.ntmps91
    case' sec => go_enter Tryz.func92, Tryz.ntmps92
    case' rul => go_enter Tryz.func89, Tryz.ntmps89
    case' wit => go_enter Tryz.func87, Tryz.ntmps87
    case' nod => go_enter Tryz.func238, Tryz.ntmps238
    case' exp => go_enter Tryz.func258, Tryz.ntmps258
    case' toks => go_enter Tryz.func142, Tryz.ntmps142
    case op => cases hL
    case dec => cases hL
    case rew => cases hL
    case cst => cases hL
    case sty => cases hL
    case edi => cases hL
    case int => cases hL
    case bool => cases hL
    case text => cases hL
    case pos => cases hL
    case tok => cases hL
    case inp => cases hL
    all_goals
      dsimp only [SRound, LT.sf, LT.k, LT.Inv, LT.tid] at *
      go_wp2_with fail
      go_loopw [5] (fun i wr => ∃ j : Nat, i = .int .i64 (j : Int) /\ R j wr) (fun i _ => n - (intOf i).toNat)
      case atStart => exact ⟨0, rfl, HR0.out⟩
      case round =>
        obtain ⟨j, rfl, hrel⟩ := hrel
        obtain ⟨hj, hgo, hend⟩ := HR.out _ _ hrel
        clear hrel
        by_cases hlj : j < n
        · obtain ⟨d, d', bb, off, bb', off', r, rfl, rfl, hi, hi', hcs, hcall, htrue, hfalse⟩ := hgo.out hlj
          repeat (rcases (hi : ∃ _, _) with ⟨_, hi⟩)
          repeat (rcases (hi' : ∃ _, _) with ⟨_, hi'⟩)
          subst hi
          subst hi'
          simp only [Dv.val, Dv.cells, Dv.cellsL, List.cons_append, List.nil_append, List.append_nil, CellsO, Nat.zero_add, Nat.add_zero, Nat.mul_one, Nat.reduceAdd, and_true] at hcs hcall
          have HCS := hiq hcs
          clear hgo hend hcs
          go_wp2_with fail
          obtain ⟨X, Wf, hX, hS1, hS2⟩ := family (fun V => Below wr.heap.size wr V) wr (Below.refl _ _)
          have HS2 := hiq hS2
          have q := fun x => HCS.out _ (hS1 x)
          clear hS1 hS2 HCS
          have hd0 : Below wr.heap.size wr wr.drew := (Below.refl _ _).drew
          refine wp_region_tree (Wf := Wf) 9 (.read 0 (.read 1 (.read 2 (.read 3 (.read 4 (.read 5 (.read 6 (.read 7 (.act 8 .fin))))))))) (by kernel_rfl) (by kernel_rfl) (fun _ _ d _ _ h => by cases d <;> exact h) (HS2.out _ hd0) ?_
          refine wpTree_read _ rfl (fun K hK => ?_); unfold rOp; go_simp; (refine hK _ ?_; clear hK K)
          refine wpTree_read _ rfl (fun K hK => ?_); unfold rOp; go_simp; (refine hK _ ?_; clear hK K)
          refine wpTree_read _ rfl (fun K hK => ?_); unfold rOp; go_simp; (refine hK _ ?_; clear hK K)
          refine wpTree_read _ rfl (fun K hK => ?_); unfold rOp; go_simp; (refine hK _ ?_; clear hK K)
          refine wpTree_read _ rfl (fun K hK => ?_); unfold rOp; go_simp; (refine hK _ ?_; clear hK K)
          refine wpTree_read _ rfl (fun K hK => ?_); unfold rOp; go_simp; (refine hK _ ?_; clear hK K)
          refine wpTree_read _ rfl (fun K hK => ?_); unfold rOp; go_simp; (refine hK _ ?_; clear hK K)
          refine wpTree_read _ rfl (fun K hK => ?_); unfold rOp; go_simp; (refine hK _ ?_; clear hK K)
          clear q
          refine wpTree_act _ rfl ?_
          go_wp2_with fail
          refine (hcall.out _ hd0).mono ?_
          rintro e V ⟨rfl, hb⟩
          have HBV := hiq (hd0.trans (hb.mono hd0.size))
          clear hb hcall
          go_wp2_with fail
          refine ⟨HS2.out _ HBV.out, ?_⟩
          refine wpTree_fin ?_
          cases r
          · have HP := hiq (hfalse.out rfl _ HBV.out)
            clear htrue hfalse
            go_wp2
            exact HP.out
          · have HP := hiq (htrue.out rfl _ HBV.out)
            clear htrue hfalse
            go_wp2
            go_roundw
            case rel => exact ⟨j + 1, by go_num, HP.out⟩
            case measure => simp [intOf]; omega
        · obtain rfl : j = n := by omega
          have FL := hiq (hend.out rfl)
          clear hgo hend
          go_wp2
          exact FL.out
  · have HN := hiq (hne hn)
    clear hne hit hty hty' h h'
    generalize SmeP (lstX l) (lstX m) w = P at *
    cases T
    case' grp => go_enter Tryz.func90, Tryz.ntmps90
    case' pat => go_enter Tryz.func91, Tryz.ntmps91
    case' sec => go_enter Tryz.func92, Tryz.ntmps92
    case' rul => go_enter Tryz.func89, Tryz.ntmps89
    case' wit => go_enter Tryz.func87, Tryz.ntmps87
    case' nod => go_enter Tryz.func238, Tryz.ntmps238
    case' exp => go_enter Tryz.func258, Tryz.ntmps258
    case' toks => go_enter Tryz.func142, Tryz.ntmps142
    case op => cases hL
    case dec => cases hL
    case rew => cases hL
    case cst => cases hL
    case sty => cases hL
    case edi => cases hL
    case int => cases hL
    case bool => cases hL
    case text => cases hL
    case pos => cases hL
    case tok => cases hL
    case inp => cases hL
    all_goals
      go_wp2
      exact HN.out
end Go.Proofs.YtlbcmeebcfalpaaGreatDoor
namespace Go.Proofs.YtlbcmeebcfalpaaGreatDoor
open Go.RowKit

theorem sb_any (T : LT) (hL : T.isSB = true) {S S' : Nat -> Prop} {a a' : Option Addr} {n c n' c' : Nat} {l m : List Dv} {w : World} (h : Items S w T.k T.s a n c l) (h' : Items S' w T.k T.s a' n' c' m) (hty : ∀ x ∈ l, Has T.ty x) (hty' : ∀ x ∈ m, Has T.ty x)
    (hit : ∀ d ∈ l, ∀ d' ∈ m, ∀ W, Below w.heap.size w W -> EqR .neq T.tid d.val d'.val (!sameV d.toV d'.toV)) :
    Calls Tryz.prog T.slf #[.slice a n c, .slice a' n' c'] w (SmeP (lstX l) (lstX m) w) := by
  have hne : n ≠ n' -> SmeP (lstX l) (lstX m) w (.returned (.bool false)) w := fun hn => ⟨by rw [lstX_ne (fun e => hn (by rw [h.1, h'.1]; simpa using congrArg List.length e))], Below.refl _ _⟩
  have hnb : n <= 140737488355328 := by
    have h1 := h.2.2.1
    have h2 : 1 <= T.s := by cases T <;> decide
    have h3 : n * 1 <= n * T.s := Nat.mul_le_mul_left _ h2
    omega
  by_cases hn : n = n'
  · subst hn
    obtain ⟨R, hR0, hR⟩ := sl_abs T (fun W d d' r => EqR .neq T.tid d.val d'.val (!r)) h h' hty hty' hit
    have HR0 := hiq hR0
    have HR := hiq hR
    clear h h' hty hty' hit hR0 hR hne
    generalize SmeP (lstX l) (lstX m) w = P at *
    cases T
    case' op => go_enter Tryz.func143, Tryz.ntmps143
    case' dec => go_enter Tryz.func145, Tryz.ntmps145
    case' rew => go_enter Tryz.func88, Tryz.ntmps88
    case' int => go_enter Tryz.func240, Tryz.ntmps240
    case' bool => go_enter Tryz.func144, Tryz.ntmps144
    case' text => go_enter Tryz.func141, Tryz.ntmps141
    case' tok => go_enter Tryz.func217, Tryz.ntmps217
    case grp => cases hL
    case pat => cases hL
    case sec => cases hL
    case rul => cases hL
    case wit => cases hL
    case nod => cases hL
    case exp => cases hL
    case cst => cases hL
    case sty => cases hL
    case edi => cases hL
    case pos => cases hL
    case inp => cases hL
    case toks => cases hL
    all_goals
      dsimp only [SRound, LT.sf, LT.k, LT.Inv, LT.tid] at *
      go_wp2_with fail
      go_loopw [5] (fun i wr => ∃ j : Nat, i = .int .i64 (j : Int) /\ R j wr) (fun i _ => n - (intOf i).toNat)
      case atStart => exact ⟨0, rfl, HR0.out⟩
      case round =>
        obtain ⟨j, rfl, hrel⟩ := hrel
        obtain ⟨hj, hgo, hend⟩ := HR.out _ _ hrel
        clear hrel
        by_cases hlj : j < n
        · obtain ⟨d, d', bb, off, bb', off', r, rfl, rfl, hi, hi', hcs, hcall, htrue, hfalse⟩ := hgo.out hlj
          repeat (rcases (hi : ∃ _, _) with ⟨_, hi⟩)
          repeat (rcases (hi' : ∃ _, _) with ⟨_, hi'⟩)
          subst hi
          subst hi'
          simp only [Dv.val, Dv.cells, Dv.cellsL, List.cons_append, List.nil_append, List.append_nil, CellsO, Nat.zero_add, Nat.add_zero, Nat.mul_one, Nat.reduceAdd, and_true] at hcs hcall
          have HCS := hiq hcs
          clear hgo hend hcs
          go_wp2_with fail
          obtain ⟨X, Wf, hX, hS1, hS2⟩ := family (fun V => Below wr.heap.size wr V) wr (Below.refl _ _)
          have HS2 := hiq hS2
          have q := fun x => HCS.out _ (hS1 x)
          clear hS1 hS2 HCS
          have hd0 : Below wr.heap.size wr wr.drew := (Below.refl _ _).drew
          refine wp_region_tree (Wf := Wf) 8 (.read 0 (.read 1 (.read 2 (.read 3 (.read 4 (.read 5 (.read 6 (.read 7 .fin)))))))) (by kernel_rfl) (by kernel_rfl) (fun _ _ d _ _ h => by cases d <;> exact h) (HS2.out _ hd0) ?_
          refine wpTree_read _ rfl (fun K hK => ?_); unfold rOp; go_simp; (refine hK _ ?_; clear hK K)
          refine wpTree_read _ rfl (fun K hK => ?_); unfold rOp; go_simp; (refine hK _ ?_; clear hK K)
          refine wpTree_read _ rfl (fun K hK => ?_); unfold rOp; go_simp; (refine hK _ ?_; clear hK K)
          refine wpTree_read _ rfl (fun K hK => ?_); unfold rOp; go_simp; (refine hK _ ?_; clear hK K)
          refine wpTree_read _ rfl (fun K hK => ?_); unfold rOp; go_simp; (refine hK _ ?_; clear hK K)
          refine wpTree_read _ rfl (fun K hK => ?_); unfold rOp; go_simp; (refine hK _ ?_; clear hK K)
          refine wpTree_read _ rfl (fun K hK => ?_); unfold rOp; go_simp; (refine hK _ ?_; clear hK K)
          refine wpTree_read _ rfl (fun K hK => ?_); unfold rOp; go_simp; (refine hK _ ?_; clear hK K)
          clear q
          refine wpTree_fin ?_
          refine wpList_bin (hcall.out _ hd0) _ _ _ rfl (by simp [Region.wanted]) rfl rfl ?_
          have HBV := hiq hd0
          cases r
          · have HP := hiq (hfalse.out rfl _ HBV.out)
            clear htrue hfalse
            go_wp2
            exact HP.out
          · have HP := hiq (htrue.out rfl _ HBV.out)
            clear htrue hfalse
            go_wp2
            go_roundw
            case rel => exact ⟨j + 1, by go_num, HP.out⟩
            case measure => simp [intOf]; omega
        · obtain rfl : j = n := by omega
          have FL := hiq (hend.out rfl)
          clear hgo hend
          go_wp2
          exact FL.out
  · have HN := hiq (hne hn)
    clear hne hit hty hty' h h'
    generalize SmeP (lstX l) (lstX m) w = P at *
    cases T
    case' op => go_enter Tryz.func143, Tryz.ntmps143
    case' dec => go_enter Tryz.func145, Tryz.ntmps145
    case' rew => go_enter Tryz.func88, Tryz.ntmps88
    case' int => go_enter Tryz.func240, Tryz.ntmps240
    case' bool => go_enter Tryz.func144, Tryz.ntmps144
    case' text => go_enter Tryz.func141, Tryz.ntmps141
    case' tok => go_enter Tryz.func217, Tryz.ntmps217
    case grp => cases hL
    case pat => cases hL
    case sec => cases hL
    case rul => cases hL
    case wit => cases hL
    case nod => cases hL
    case exp => cases hL
    case cst => cases hL
    case sty => cases hL
    case edi => cases hL
    case pos => cases hL
    case inp => cases hL
    case toks => cases hL
    all_goals
      go_wp2
      exact HN.out
end Go.Proofs.YtlbcmeebcfalpaaGreatDoor
namespace Go.Proofs.YtlbcmeebcfalpaaGreatDoor
open Go.RowKit

theorem lp_any (T : LT) (hL : T.isE = true) {S : Nat -> Prop} {a : Option Addr} {n c : Nat} {l : List Dv} {w : World} (h : Items S w T.k T.s a n c l) (hn : n <= 70000) (hty : ∀ x ∈ l, Has T.ty x) (hit : ∀ d ∈ l, ∀ W, Below w.heap.size w W -> Calls Tryz.prog (T.wf true) #[d.val] W (NewV d.toV W)) :
    Calls Tryz.prog T.lp #[.slice a n c, .func (.func (T.wf true)) #[] #[]] w (NewV (.mk 3 0 ⟨#[]⟩ (l.map Dv.toV)) w) := by
  have hb1 : Below w.heap.size w (w.alloc (.cells #[.int .i64 0, .int .i64 0, .string ⟨#[]⟩, .slice none 0 0] 24)) := (Below.refl _ _).alloc (Nat.le_refl _) _
  obtain ⟨R, hR0, -, hR⟩ := wl_abs T true h hn hb1 (by simp) (World.alloc_heap_new w (.cells #[.int .i64 0, .int .i64 0, .string ⟨#[]⟩, .slice none 0 0] 24)) hty hit
  have HR0 := hiq hR0
  have HR := hiq hR
  have hE : ∀ (wr : World) (cs : Array Value) (t : TypeId), Below wr.heap.size wr (wr.alloc (.cells cs t)) := fun wr cs t => (Below.refl _ _).alloc (Nat.le_refl _) _
  have HE := hiq hE
  clear h hty hit hb1 hR0 hR hE
  cases T
  case' op => go_enter Tryz.func135, Tryz.ntmps135
  case' dec => go_enter Tryz.func139, Tryz.ntmps139
  case' rew => go_enter Tryz.func99, Tryz.ntmps99
  case' grp => go_enter Tryz.func104, Tryz.ntmps104
  case' pat => go_enter Tryz.func106, Tryz.ntmps106
  case' sec => go_enter Tryz.func109, Tryz.ntmps109
  case' rul => go_enter Tryz.func102, Tryz.ntmps102
  case' wit => go_enter Tryz.func97, Tryz.ntmps97
  case' nod => go_enter Tryz.func202, Tryz.ntmps202
  case' exp => go_enter Tryz.func243, Tryz.ntmps243
  case' int => go_enter Tryz.func205, Tryz.ntmps205
  case' bool => go_enter Tryz.func137, Tryz.ntmps137
  case' text => go_enter Tryz.func133, Tryz.ntmps133
  case' tok => go_enter Tryz.func131, Tryz.ntmps131
  case' toks => go_enter Tryz.func134, Tryz.ntmps134
  case cst => cases hL
  case sty => cases hL
  case edi => cases hL
  case pos => cases hL
  case inp => cases hL
  all_goals
    dsimp only [LRound, LT.wf, LT.k, LT.Inv, lisF] at *
    go_wp2_with fail
    generalize w.alloc (.cells _ _) = W1 at *
    go_loopw [5, 10] (fun o i wr => ∃ j : Nat, i = .int .i64 (j : Int) /\ R o j wr) (fun _ i _ => n - (intOf i).toNat)
    case atStart => exact ⟨0, rfl, HR0.out⟩
    case round =>
      obtain ⟨j, rfl, hrel⟩ := hrel
      obtain ⟨a', c', rfl, hj, hgo, hend⟩ := HR.out _ _ _ hrel
      clear hrel
      by_cases hlj : j < n
      · obtain ⟨d, bb, off, rfl, hi, hcs, hcall⟩ := hgo.out hlj
        repeat (rcases (hi : ∃ _, _) with ⟨_, hi⟩)
        subst hi
        simp only [Dv.val, Dv.cells, Dv.cellsL, List.cons_append, List.nil_append, List.append_nil, CellsO, Nat.zero_add, Nat.add_zero, Nat.mul_one, Nat.reduceAdd, and_true] at hcs hcall
        have HM := hcall
        clear hgo hend hcall
        go_wp2_with fail
        first
          | refine (HM.out _ (HE.out _ _ _)).mono ?_
          | refine (HM.out _ (Below.refl _ _)).mono ?_
        rintro e w2 ⟨k, nn, t, aa, la, ca, vs, v, rfl, hp, hnext⟩
        go_wp2_with (at_builtin; refine wpList_appV hp rfl (.tmp 14) (.tmp 18) rfl rfl rfl ?_; intro a5 c5 w5 o5 b5)
        go_roundw
        case rel => exact ⟨j + 1, by go_num, hnext.out _ _ _ o5 b5⟩
        case measure => simp [intOf]; omega
      · obtain rfl : j = n := by omega
        have FL := hiq (hend.out rfl)
        clear hgo hend
        go_wp2_with fail
        refine FL.out.mono ?_
        rintro e w2 ⟨al, m, cl, WF, rfl, z0, z1, z2, z3, zf, hWF, hzz, hP⟩
        have HWF := hiq hWF
        have HZZ := hiq hzz
        have HP := hiq hP
        clear hWF hzz hP FL
        go_wp2
        have hww : WF = put4 w2 w.heap.size (.int .i64 3) (.int .i64 0) (.string ⟨#[]⟩) (.slice al m cl) := HWF.out
        change bodyPost _ _ _ _ _ (put4 w2 w.heap.size (.int .i64 3) (.int .i64 0) (.string ⟨#[]⟩) (.slice al m cl))
        rw [<- hww]
        have hzz := HZZ.out
        simp only [CellsAt, Nat.zero_add, Nat.reduceAdd, and_true] at hzz
        refine bodyPost_ret ?_ rfl HP.out
        simp [results, Tryz.results135, Tryz.results139, Tryz.results99, Tryz.results104, Tryz.results106, Tryz.results109, Tryz.results102, Tryz.results97, Tryz.results202, Tryz.results243, Tryz.results205, Tryz.results137, Tryz.results133, Tryz.results131, Tryz.results134, go_sem, hzz]
end Go.Proofs.YtlbcmeebcfalpaaGreatDoor
