/- Joined: ITs, IRdL, IRfA, IRfB. -/
import Derived.Test.YtlbcmeebcfalpaaGreatDoorR13
import Derived.Test.YtlbcmeebcfalpaaGreatDoorR14
import Derived.Test.YtlbcmeebcfalpaaGreatDoorR09
import Derived.Deep.WholeRow
set_option linter.unusedVariables false
set_option linter.unusedSimpArgs false
set_option maxRecDepth 100000
set_option maxHeartbeats 16000000
namespace Go.Proofs.YtlbcmeebcfalpaaGreatDoor
open Go.RowKit

/-- A store of a value at an offset of a block. -/
def StO (b o : Nat) (t : TypeId) (v : Value) (W WF : World) : Prop := (storeVar t ⟨b, o, none⟩ v).run Tryz.prog W = .ok () WF
theorem run_putO {b o : Nat} {t : TypeId} : ∀ (vs : List Value) (i : Nat) (cur : Array Value) (W : World), W.heap[b]? = some (.cells cur t (0, 0)) -> o + i + vs.length <= cur.size -> (∀ v ∈ vs, v.oneCell' = true) -> (storeCells ⟨b, o, none⟩ vs i).run Tryz.prog W = .ok () (putL W b (o + i) vs)
  | [], _, _, _, _, _, _ => rfl
  | v :: rest, i, cur, W, hg, hl, h1 => by
    have hi : o + i < cur.size := by simp at hl; omega
    have hadd : (⟨b, o, none⟩ : Addr).add i = ⟨b, o + i, none⟩ := Addr.add_lit _ _ _
    have hcell : W.cell? ⟨b, o + i, none⟩ = some cur[o + i] := by simp [World.cell?, hg, hi]
    have hfro : W.frozen? ⟨b, o + i, none⟩ = false := by simp [World.frozen?, hg]
    have hst : (store ((⟨b, o, none⟩ : Addr).add i) v).run Tryz.prog W = .ok () (W.setCell ⟨b, o + i, none⟩ v) := by
      rw [hadd, run_store Tryz.prog W _ v _ (h1 v (by simp)), hcell]
      simp [hfro]
    have ih := run_putO (b := b) (o := o) rest (i + 1) (cur.setIfInBounds (o + i) v) (W.setCell ⟨b, o + i, none⟩ v) (heap_setCell_at hg v) (by simp at hl ⊢; omega) (fun x hx => h1 x (by simp [hx]))
    simp only [storeCells, Sem.run_bind, hst, Result.andThen_ok]
    rw [ih]
    rfl
theorem stO_of {b o : Nat} {t tt : TypeId} {v : Value} {cur : Array Value} {W : World} (hi : (Tryz.prog.info? t).map (·.size) = some v.cells.size) (hg : W.heap[b]? = some (.cells cur tt (0, 0))) (hl : o + v.cells.size <= cur.size) (h1 : ∀ x ∈ v.cells.toList, x.oneCell' = true) : StO b o t v W (putL W b o v.cells.toList) := by
  have h := run_putO v.cells.toList 0 cur W hg (by simpa using hl) h1
  unfold StO
  cases hq : Tryz.prog.info? t with
  | none => simp [hq] at hi
  | some i =>
    have hs : v.cells.size = i.size := by simp [hq] at hi; omega
    simpa [storeVar, sizeOf, typeInfo, hq, hs] using h
section
variable {ops : Array Oper} {rest : List Oper} {o : Oper} {act : Act} {Q : Exit -> Act -> World -> Prop} {W WF : World} {b f : Nat} {t : TypeId} {v : Value}
theorem wpList_stO (h : StO b f t v W WF) (hgd : o.guard = none) (x y : Operand) (ho : o.op = .store t x y) (hx : act.eval x = .pointer (some ⟨b, f, none⟩)) (hy : act.eval y = v)
    (hk : wpList Tryz.prog ops Q rest (act.put o.dst undef) WF) : wpList Tryz.prog ops Q (o :: rest) act W := by
  refine wpList_plain hgd fun K hK => ?_
  have h' : (storeVar t ⟨b, f, none⟩ v).run Tryz.prog W = .ok () WF := h
  unfold Oper.wp execOp
  simp only [ho, hx, hy, Instr.storeAt, Instr.sureAddr, Sem.run_bind, Sem.run_pure, Result.andThen_ok, h']
  exact hK _ _ hk
end
theorem putL_mid {b : Nat} {t : TypeId} {fr : Nat × Nat} : ∀ (ds ps rs qs : List Value) (W : World), ds.length = rs.length -> W.heap[b]? = some (.cells (ps ++ rs ++ qs).toArray t fr) -> (putL W b ps.length ds).heap[b]? = some (.cells (ps ++ ds ++ qs).toArray t fr)
  | [], ps, rs, qs, W, hl, h => by
    obtain rfl : rs = [] := List.eq_nil_of_length_eq_zero hl.symm
    exact h
  | d :: ds, ps, [], qs, W, hl, h => by simp at hl
  | d :: ds, ps, r :: rs, qs, W, hl, h => by
    have h2 := heap_setCell_at (j := ps.length) h d
    have e : ((ps ++ r :: rs ++ qs).toArray.setIfInBounds ps.length d) = ((ps ++ [d]) ++ rs ++ qs).toArray := by
      rw [List.setIfInBounds_toArray, List.append_assoc, List.set_append_right _ _ (Nat.le_refl _), Nat.sub_self]
      simp
    rw [e] at h2
    have := putL_mid ds (ps ++ [d]) rs qs _ (by simpa using hl) h2
    rw [List.length_append, List.length_singleton] at this
    rw [show ps ++ d :: ds ++ qs = ps ++ [d] ++ ds ++ qs by simp]
    exact this
theorem Dv.val_cells (d : Dv) : d.val.cells.toList = d.cells := by cases d <;> rfl
theorem cellsL_snoc : ∀ (ds : List Dv) (d : Dv), Dv.cellsL (ds ++ [d]) = Dv.cellsL ds ++ d.cells
  | [], d => by simp [Dv.cellsL]
  | x :: ds, d => by rw [List.cons_append, Dv.cellsL, Dv.cellsL, cellsL_snoc ds d, List.append_assoc]
theorem toVL_snocc (ds : List Dv) (d : Dv) : Dv.toVL (ds ++ [d]) = Dv.toVL ds ++ [d.toV] := by rw [Dv.toVL_map, Dv.toVL_map, List.map_append]; rfl
@[reducible] def FK.ftid : FK -> TypeId | .one U => U.tid | .many U => U.sl
@[reducible] def FK.sz : FK -> Nat | .one U => U.k | .many _ => 1
@[reducible] def FK.tfn : FK -> FuncId | .one U => U.tf | .many U => U.tlf
theorem LT.info_sl (T : LT) (h : T.isE = true) : (Tryz.prog.info? T.sl).map (·.size) = some 1 := by
  cases T <;> first | (cases h; done) | kernel_rfl
theorem LT.info_sz (T : LT) : (Tryz.prog.info? T.tid).map (·.size) = some T.k := by
  obtain ⟨i0, ei, ez0, ez1, ez2⟩ := info_parts T.info
  rw [ei]; simp [ez1]
theorem FK.fit {k : FK} (hk : k.ok = true) {d : Dv} (h : Has k.ty d) : d.cells.length = k.sz /\ (∀ v ∈ d.cells, v.oneCell' = true) /\ (Tryz.prog.info? k.ftid).map (·.size) = some d.val.cells.size := by
  have e : d.val.cells.size = d.cells.length := by rw [<- Dv.val_cells]; simp
  cases k with
  | one U =>
    obtain ⟨h1, -, h3, -⟩ := U.len h
    exact ⟨h1, h3, by rw [U.info_sz, e, h1]⟩
  | many U =>
    obtain ⟨a, c, l, rfl, -⟩ := Has.list_inv h
    exact ⟨rfl, by simp [Dv.cells, Value.oneCell'], by rw [U.info_sl hk]; rfl⟩
/-- What the reading of a struct has come to. -/
structure TS (w : World) (T : LT) (C : Array Value) (ds : List Dv) (W : World) : Prop where
  below : Below w.heap.size w W
  le : w.heap.size + 3 <= W.heap.size
  val : W.heap[w.heap.size]? = some (.cells C 24 (0, 0))
  res : W.heap[w.heap.size + 1]? = some (.cells T.zero.toArray T.tid (0, 0))
  x : ∃ rest, W.heap[w.heap.size + 2]? = some (.cells (Dv.cellsL ds ++ rest).toArray T.tid (0, 0)) /\ (Dv.cellsL ds ++ rest).length = T.k
  rd : ∀ d ∈ ds, RdD (fun b => w.heap.size + 3 <= b /\ b < W.heap.size) W d
theorem TS.later {w : World} {T : LT} {C : Array Value} {ds : List Dv} {W V : World} (h : TS w T C ds W) (hb : Below W.heap.size W V) : TS w T C ds V := by
  have hl := h.le
  have hz := hb.size
  obtain ⟨rest, h1, h2⟩ := h.x
  exact ⟨h.below.trans (hb.mono h.below.size), by omega, (hb.block _ (by omega)).trans h.val, (hb.block _ (by omega)).trans h.res, ⟨rest, (hb.block _ (by omega)).trans h1, h2⟩, fun d hd => ((h.rd d hd).below hb).mono fun b hb => ⟨hb.1, by omega⟩⟩
theorem TS.put {w : World} {T : LT} {C : Array Value} {ds : List Dv} {W V : World} {d : Dv} (h : TS w T C ds W) (hb : Below W.heap.size W V) (hrd : RdD (NewB W V) V d) (hl : (Dv.cellsL ds).length + d.cells.length <= T.k) : TS w T C (ds ++ [d]) (putL V (w.heap.size + 2) (Dv.cellsL ds).length d.cells) := by
  have hV := h.later hb
  have hle := h.le
  have hx := putL_exc (w.heap.size + 2) d.cells (Dv.cellsL ds).length V
  have hxs := hx.size
  have hbs := hb.size
  obtain ⟨rest, h1, h2⟩ := hV.x
  have hlr : d.cells.length <= rest.length := by rw [List.length_append] at h2; omega
  have hsplit : Dv.cellsL ds ++ rest = Dv.cellsL ds ++ rest.take d.cells.length ++ rest.drop d.cells.length := by rw [List.append_assoc, List.take_append_drop]
  have hm := putL_mid d.cells (Dv.cellsL ds) (rest.take d.cells.length) (rest.drop d.cells.length) V (by rw [List.length_take]; omega) (by rw [<- hsplit]; exact h1)
  refine ⟨((Exc.below (N := fun b => b = w.heap.size + 2) hV.below).step hx fun b _ h => h).to_below (Nat.le_refl _) fun b hb => by omega, by have := hV.le; omega, hx.heap (by omega) hV.val, hx.heap (by omega) hV.res, ⟨rest.drop d.cells.length, by rw [cellsL_snoc]; exact hm, ?_⟩, fun y hy => ?_⟩
  · rw [cellsL_snoc, List.length_append, List.length_append, List.length_drop]
    rw [List.length_append] at h2
    omega
  · have hks : KeepS (fun b => w.heap.size + 3 <= b /\ b < V.heap.size) V (putL V (w.heap.size + 2) (Dv.cellsL ds).length d.cells) := hx.keepS fun b hb hn => by have := hb.1; omega
    rcases List.mem_append.1 hy with hy | hy
    · exact ((hV.rd y hy).keep hks).mono fun b hb => ⟨hb.1, by omega⟩
    · rw [List.mem_singleton] at hy; subst hy
      exact ((hrd.mono (S' := fun b => w.heap.size + 3 <= b /\ b < V.heap.size) fun b hb => ⟨by have := hb.1; omega, hb.2⟩).keep hks).mono fun b hb => ⟨hb.1, by omega⟩
theorem TS.stO {w : World} {T : LT} {C : Array Value} {ds : List Dv} {V : World} {d : Dv} {k : FK} (h : TS w T C ds V) (hk : k.ok = true) (hd : Has k.ty d) (hl : (Dv.cellsL ds).length + d.cells.length <= T.k) : StO (w.heap.size + 2) (Dv.cellsL ds).length k.ftid d.val V (putL V (w.heap.size + 2) (Dv.cellsL ds).length d.cells) := by
  obtain ⟨h1, h2, h3⟩ := FK.fit hk hd
  obtain ⟨rest, hx, hr⟩ := h.x
  have e : d.val.cells.size = d.cells.length := by rw [<- Dv.val_cells]; simp
  have := stO_of (o := (Dv.cellsL ds).length) h3 hx (by rw [e]; simp; rw [List.length_append] at hr; omega) (by rw [Dv.val_cells]; exact h2)
  rw [Dv.val_cells] at this
  exact this
/-- What is to come, field by field. -/
def ToC (w : World) (T : LT) (P : Ending -> World -> Prop) (a : Value) (bb off : Nat) : List FK -> Nat -> Nat -> Bool -> World -> Prop
  | [], _, _, g, W => ∃ (A : Array Value) (WF : World), Hid (LdV (w.heap.size + 2) T.tid (.agg A) W) /\ Hid (StO (w.heap.size + 1) 0 T.tid (.agg A) W WF) /\ Hid (LdV (w.heap.size + 1) T.tid (.agg A) WF) /\ Hid (P (.returned (.tuple #[.agg A, .bool g])) WF)
  | k :: ks, i, o, g, W => W.cell? ⟨w.heap.size, 3, none⟩ = some a /\ ∃ (k1 n1 : Int) (t1 : ByteArray) (a1 : Option Addr) (m1 c1 : Nat), W.cell? ⟨bb, off + i * 4, none⟩ = some (.int .i64 k1) /\ W.cell? ⟨bb, off + i * 4 + 1, none⟩ = some (.int .i64 n1) /\ W.cell? ⟨bb, off + i * 4 + 2, none⟩ = some (.string t1) /\ W.cell? ⟨bb, off + i * 4 + 3, none⟩ = some (.slice a1 m1 c1) /\
    Hid (Calls Tryz.prog k.tfn #[.agg #[.int .i64 k1, .int .i64 n1, .string t1, .slice a1 m1 c1]] W fun e V => ∃ (v : Value) (ok : Bool) (V' : World), e = .returned (.tuple #[v, .bool ok]) /\ Hid (StO (w.heap.size + 2) o k.ftid v V V') /\ ToC w T P a bb off ks (i + 1) (o + k.sz) (g && ok) V')
theorem fitL_snoc : ∀ {ts : List Ty} {us : List V} {t : Ty} {u : V}, us.length = ts.length -> (FitL (ts ++ [t]) (us ++ [u]) ↔ FitL ts us /\ Fit t u)
  | [], [], t, u, _ => by rw [List.nil_append, List.nil_append, fitL_cons]; simp [FitL.nil]
  | s :: ts, x :: us, t, u, h => by
    rw [List.cons_append, List.cons_append, fitL_cons, fitL_cons, fitL_snoc (by simpa using h)]
    exact ⟨fun h => ⟨⟨h.1, h.2.1⟩, h.2.2⟩, fun h => ⟨h.1.1, h.1.2, h.2⟩⟩
  | [], _ :: _, _, _, h => by cases h
  | _ :: _, [], _, _, h => by cases h
theorem hasL_snoc : ∀ {ts : List Ty} {ds : List Dv} {t : Ty} {d : Dv}, HasL ts ds -> Has t d -> HasL (ts ++ [t]) (ds ++ [d])
  | [], ds, t, d, h, hd => by rw [h.nil_inv]; exact .cons hd .nil
  | s :: ts, ds, t, d, h, hd => by
    obtain ⟨x, r, rfl, h1, h2⟩ := h.cons_inv
    exact .cons h1 (hasL_snoc h2 hd)
theorem LT.has_up (T : LT) (h : T.isW = true) {d : Dv} (hd : Has (.struc T.ts) d) : Has T.ty d := by
  cases T
  case nod => exact .node hd
  case exp => exact .expr hd
  all_goals first | exact hd | cases h
theorem LT.fit_up (T : LT) (h : T.isW = true) {v : V} : Fit T.ty v ↔ Fit (.struc T.ts) v := by
  cases T
  case nod => exact fit_node
  case exp => exact fit_expr
  all_goals first | exact Iff.rfl | cases h
theorem LT.ksum (T : LT) (h : T.isW = true) : T.k = (T.fk.map FK.sz).sum := by
  cases T <;> first | rfl | cases h
theorem cellsL_len : ∀ {fk : List FK} {ds : List Dv}, (∀ k ∈ fk, k.ok = true) -> HasL (fk.map FK.ty) ds -> (Dv.cellsL ds).length = (fk.map FK.sz).sum
  | [], ds, _, h => by rw [h.nil_inv]; rfl
  | k :: fk, ds, hk, h => by
    obtain ⟨d, r, rfl, h1, h2⟩ := h.cons_inv
    rw [Dv.cellsL, List.length_append, cellsL_len (fun x hx => hk x (List.mem_cons_of_mem _ hx)) h2, (FK.fit (hk k (List.mem_cons_self ..)) h1).1]
    simp
theorem toC_of (T : LT) (hW : T.isW = true) {S : Nat -> Prop} {w : World} {k nn : Int} {t : ByteArray} {bb off c : Nat} {l : List Vl} (hr : Rd S w (.mk k nn t (some ⟨bb, off, none⟩) c l)) (hS : ∀ b, S b -> b < w.heap.size) (hk3 : k = 3) (hl : l.length = T.fk.length)
    (hit : ∀ x ∈ T.fk, ∀ u ∈ l, ∀ W, Below w.heap.size w W -> Calls Tryz.prog x.tfn #[u.val] W (ToQ x.ty u.er W)) :
    ∀ (ks done : List FK) (ds : List Dv) (g : Bool) (V : World), T.fk = done ++ ks -> HasL (done.map FK.ty) ds -> TS w T #[.int .i64 k, .int .i64 nn, .string t, .slice (some ⟨bb, off, none⟩) l.length c] ds V -> (g = true ↔ FitL (done.map FK.ty) ((l.take done.length).map Vl.er)) -> (g = true -> Dv.toVL ds = ((l.take done.length).map Vl.er).map nrm) ->
      ToC w T (ToQ T.ty (Vl.mk k nn t (some ⟨bb, off, none⟩) c l).er w) (.slice (some ⟨bb, off, none⟩) l.length c) bb off ks done.length (Dv.cellsL ds).length g V
  | [], done, ds, g, V, hfk, hds, hts, hg, hv => by
    rw [List.append_nil] at hfk
    subst hfk
    obtain ⟨f1, -, f3⟩ := T.fk_ok hW
    have hlen : (Dv.cellsL ds).length = T.k := by rw [cellsL_len f3 hds, T.ksum hW]
    obtain ⟨rest, hx, hrl⟩ := hts.x
    obtain rfl : rest = [] := List.eq_nil_of_length_eq_zero (by rw [List.length_append] at hrl; omega)
    rw [List.append_nil] at hx
    have hT : Has T.ty (.struc ds) := T.has_up hW (.struc (by rw [f1]; exact hds))
    obtain ⟨q1, q2, q3, q4⟩ := T.len hT
    have hle := hts.le
    have hex := putL_exc (w.heap.size + 1) (Dv.cellsL ds) 0 V
    have hxs := hex.size
    have hone : ∀ v ∈ Dv.cellsL ds, v.oneCell' = true := q3
    have hst := stO_of (b := w.heap.size + 1) (o := 0) (t := T.tid) (v := .agg (Dv.cellsL ds).toArray) (W := V) (by rw [T.info_sz]; simp [Value.cells, hlen]) hts.res (by simp [Value.cells, hlen, q2]) (by simpa [Value.cells] using hone)
    have e1 : (Value.agg (Dv.cellsL ds).toArray).cells.toList = Dv.cellsL ds := by simp [Value.cells]
    rw [e1] at hst
    refine ⟨(Dv.cellsL ds).toArray, _, T.ld hW hlen hx, hst, T.ld hW hlen (putL_at _ (by simp [hlen, q2]) hts.res), .struc ds, g, rfl, hT, rdD_struc.2 fun d hd => ?_, ((Exc.below (N := fun b => b = w.heap.size + 1) hts.below).step hex fun b _ h => h).to_below (Nat.le_refl _) fun b hb => by omega, ?_, fun h => ?_⟩
    · exact ((hts.rd d hd).keep (hex.keepS fun b hb hn => by have := hb.1; omega)).mono fun b hb => ⟨by have := hb.1; omega, by have := hb.2; omega⟩
    · rw [T.fit_up hW, fit_struc, hg, f1, List.take_of_length_le (by omega), Vl.er_kind, Vl.er_items]
      exact ⟨fun h => ⟨hk3, h⟩, fun h => h.2⟩
    · rw [nrm_list (by rw [Vl.er_kind]; exact hk3), Dv.toV, hv h, List.take_of_length_le (by omega), Vl.er_items]
      rfl
  | k1 :: ks, done, ds, g, V, hfk, hds, hts, hg, hv => by
    obtain ⟨f1, -, f3⟩ := T.fk_ok hW
    have hkm : k1 ∈ T.fk := by rw [hfk]; simp
    have hil : done.length < l.length := by rw [hl, hfk, List.length_append, List.length_cons]; omega
    have hvl := ((rd_iff.1 hr).2.2.2).keep (.below hts.below)
    obtain ⟨u, b2, o2, hu, hmem, ha, -, -, ⟨z0, z1, z2, z3⟩, hru⟩ := hvl.get hil
    obtain ⟨rfl, rfl⟩ : b2 = bb /\ o2 = off := by
      have ha' : (some ⟨bb, off, none⟩ : Option Addr) = some ⟨b2, o2, none⟩ := ha
      injection ha' with ha'
      injection ha' with h1 h2
      exact ⟨h1.symm, h2.symm⟩
    obtain ⟨-, -, -, y3, -⟩ := box_cells hts.val
    obtain ⟨ku, nu, tu, au, cu, lu⟩ := u
    refine ⟨y3, ku, nu, tu, au, lu.length, cu, z0, z1, z2, z3, (hit k1 hkm _ hmem V hts.below).mono ?_⟩
    rintro e V2 ⟨d, ok, he, hTd, hrd, hb, hiff, htv⟩
    have hcl := cellsL_len (fun x hx => f3 x (by rw [hfk]; simp [hx])) hds
    have hsum := T.ksum hW
    rw [hfk, List.map_append, List.sum_append, List.map_cons, List.sum_cons] at hsum
    have hdl := (FK.fit (f3 k1 hkm) hTd).1
    have hroom : (Dv.cellsL ds).length + d.cells.length <= T.k := by rw [hcl, hdl, hsum]; omega
    refine ⟨d.val, ok, _, he, (hts.later hb).stO (f3 k1 hkm) hTd hroom, ?_⟩
    have hnext := toC_of T hW hr hS hk3 hl hit ks (done ++ [k1]) (ds ++ [d]) (g && ok) _ (by rw [hfk]; simp) (by rw [List.map_append]; exact hasL_snoc hds hTd) (hts.put hb hrd hroom) ?_ ?_
    · rw [List.length_append, List.length_singleton, cellsL_snoc, List.length_append, hdl] at hnext
      exact hnext
    · have hu' : l[done.length]? = some (.mk ku nu tu au cu lu) := hu
      rw [Bool.and_eq_true, hg, hiff, List.length_append, List.length_singleton, List.take_add_one, hu', List.map_append, List.map_append]
      rw [show List.map FK.ty [k1] = [k1.ty] from rfl, show List.map Vl.er (some (Vl.mk ku nu tu au cu lu)).toList = [(Vl.mk ku nu tu au cu lu).er] from rfl]
      rw [fitL_snoc (by simp; omega)]
    · intro h
      rw [Bool.and_eq_true] at h
      have hu' : l[done.length]? = some (.mk ku nu tu au cu lu) := hu
      rw [toVL_snocc, hv h.1, htv h.2, List.length_append, List.length_singleton, List.take_add_one, hu', List.map_append, List.map_append]
      rfl
end Go.Proofs.YtlbcmeebcfalpaaGreatDoor
namespace Go.Proofs.YtlbcmeebcfalpaaGreatDoor
open Go.RowKit

theorem st_any (T : LT) (hL : T.isS = true) (f : Nat) (h : Reads T.ty f T.fi (fun p => #[p, .func (.func T.rd) #[] #[]])) (S : Nat -> Prop) (rb wb : Nat) (a : Option Addr) (n c : Nat) (l : List Vl) (g : Bool) (w : World) (hr : Rdr w rb wb a n c g) (hv : Vals S w a n c l) (hS : ∀ b, S b -> b ≠ rb /\ b ≠ wb) (hG : ∀ u ∈ l, GoodD f u.er) (qb : Nat) (hq : w.heap[qb]? = some (.cells #[.func (.func T.rd) #[] #[]] T.ft (0, 0))) :
    Calls Tryz.prog T.st1 #[.pointer (some ⟨rb, 0, none⟩), .pointer (some ⟨qb, 0, none⟩)] w (RdOne S T.ty rb wb l g w) := by
  have hb1 : Below w.heap.size w (w.alloc (.cells T.zero.toArray T.tid)) := (Below.refl _ _).alloc (Nat.le_refl _) _
  have hlt := hr.lt
  have x0 := cell_box ((hb1.block _ (Array.getElem?_eq_some_iff.1 hq).1).trans hq) 0 rfl
  have HM : Hid (Calls Tryz.prog T.fi #[.pointer (some ⟨rb, 0, none⟩), .func (.func T.rd) #[] #[]] (w.alloc (.cells T.zero.toArray T.tid)) (T.Put S rb wb l g w)) := (h (InS S w) rb wb a n c l g _ (hr.below hb1) ((hv.mono fun b h1 h2 => ⟨h1, h2⟩).below hb1) (fun b hb => hS b hb.1) hG).mono fun e W h => T.put_of (LT.isS_F hL) h hlt hb1 (World.alloc_heap_new w _)
  clear h hr hv hS hG hb1 hq
  cases T
  case' op => go_enter Tryz.func227, Tryz.ntmps227
  case' dec => go_enter Tryz.func230, Tryz.ntmps230
  case' rew => go_enter Tryz.func158, Tryz.ntmps158
  case' grp => go_enter Tryz.func166, Tryz.ntmps166
  case' pat => go_enter Tryz.func170, Tryz.ntmps170
  case' sec => go_enter Tryz.func173, Tryz.ntmps173
  case' rul => go_enter Tryz.func161, Tryz.ntmps161
  case' wit => go_enter Tryz.func153, Tryz.ntmps153
  case' nod => go_enter Tryz.func223, Tryz.ntmps223
  case' exp => go_enter Tryz.func252, Tryz.ntmps252
  case cst => cases hL
  case sty => cases hL
  case edi => cases hL
  case int => cases hL
  case bool => cases hL
  case text => cases hL
  case pos => cases hL
  case tok => cases hL
  case inp => cases hL
  case toks => cases hL
  all_goals
    dsimp only [LT.ty, LT.fi, LT.rd, LT.tid, LT.ft, LT.zero, LT.k] at *
    go_wp2_with fail
    refine HM.out.mono ?_
    generalize w.alloc (.cells _ _) = W1 at *
    intro e W h1
    dsimp only [LT.Put, LT.k, LT.ty] at h1
    clear HM hL
    obtain ⟨d, WF, he, hi, hst, hgt, HF⟩ := h1
    dsimp only [LT.Inv] at hi
    repeat (rcases (hi : ∃ _, _) with ⟨_, hi⟩)
    subst hi
    simp only [StL, LdV, Dv.cells, Dv.cellsL, List.cons_append, List.nil_append, List.append_nil] at he hst hgt
    subst he
    have HF := hiq HF
    have HST := hiq hst
    have HGT := hiq hgt
    clear hst hgt
    go_wp2_with ((with_reducible refine wpList_stL HST.out rfl _ _ _ rfl ?_ ?_ ?_ ?_); rfl; rfl; kernel_rfl)
    exact ret_ldL HGT.out rfl rfl rfl HF.out
/-- What stands behind the reading of a struct's fields: the flag, the stores, the two ends. -/
def LT.Fld (T : LT) (S : Nat -> Prop) (rb wb : Nat) (l : List Vl) (g : Bool) (w W3 : World) (e : Ending) (W5 : World) : Prop :=
  ∃ (d : Dv) (a5 : Option Addr) (n5 c5 : Nat) (g5 : Bool) (WF WG : World), e = .returned (.agg d.cells.toArray) /\ T.Inv d /\ w.heap.size < W5.heap.size /\ wb ≠ w.heap.size /\ rb < W5.heap.size /\ wb < W5.heap.size /\ W3.heap.size < W5.heap.size /\ W5.cell? ⟨W3.heap.size, 0, none⟩ = some (.slice a5 n5 c5) /\ W5.cell? ⟨rb, 1, none⟩ = some (.pointer (some ⟨wb, 0, none⟩)) /\ W5.cell? ⟨wb, 0, none⟩ = some (.bool g5) /\ W5.frozen? ⟨wb, 0, none⟩ = false /\
    StL W5.heap.size d.cells (W5.alloc (.cells T.zero.toArray T.tid)) (W5.alloc (.cells d.cells.toArray T.tid)) /\ LdV W5.heap.size T.tid (.agg d.cells.toArray) (W5.alloc (.cells d.cells.toArray T.tid)) /\ StL w.heap.size d.cells (W5.alloc (.cells d.cells.toArray T.tid)) WF /\ LdV w.heap.size T.tid (.agg d.cells.toArray) WF /\ (n5 = 0 -> RdOne S T.ty rb wb l g w e WF) /\ LdV W5.heap.size T.tid (.agg d.cells.toArray) ((W5.setCell ⟨wb, 0, none⟩ (.bool true)).alloc (.cells d.cells.toArray T.tid)) /\ StL w.heap.size d.cells ((W5.setCell ⟨wb, 0, none⟩ (.bool true)).alloc (.cells d.cells.toArray T.tid)) WG /\ LdV w.heap.size T.tid (.agg d.cells.toArray) WG /\ (0 < n5 -> RdOne S T.ty rb wb l g w e WG)
theorem LT.fld_of (T : LT) (hF : T.isF = true) {S : Nat -> Prop} {f rb wb : Nat} {w W2 W3 W4 W5 : World} {kk nn : Int} {t : ByteArray} {aa : Option Addr} {cc : Nat} {ll l l' : List Vl} {a' : Option Addr} {n' c' : Nat} {g g1 : Bool} {e : Ending} (hx : Nx 3 l g (.mk kk nn t aa cc ll) l' g1) (hI : Inn S f rb wb W3 W4 aa cc ll a' n' c' l' g1) (hG : ∀ u ∈ l, GoodD f u.er)
    (hb2 : Below w.heap.size w W2) (hz2 : W2.heap[w.heap.size]? = some (.cells T.zero.toArray T.tid (0, 0))) (hSw : ∀ b, S b -> b < w.heap.size) (hS : ∀ b, S b -> b ≠ rb /\ b ≠ wb) (hlt : rb < w.heap.size /\ wb < w.heap.size) (hE3 : Exc (Two rb wb) W2 W3) (hb4 : Below W3.heap.size W3 W4) (hm : RdMany (InS S W3) T.ts W3.heap.size wb ll g1 W4 e W5) : T.Fld S rb wb l g w W3 e W5 := by
  obtain ⟨ds, a5, n5, c5, l5, g5, he, hT, hrd, hgot, hr5, hv5, hE5⟩ := hm
  have hz2' := (Array.getElem?_eq_some_iff.1 hz2).1
  have hTy : Has T.ty (.struc ds) := by
    cases T
    case nod => exact .node (.struc hT)
    case exp => exact .expr (.struc hT)
    all_goals first | exact .struc hT | cases hF
  obtain ⟨hl, hl2, h1, hval⟩ := T.len hTy
  have ho5 := (hI.after hE5 hr5).1
  have z3 := hE3.heap (fun hn => by rcases hn with e | e <;> omega) hz2
  have z4 := Exc.heap (N := fun _ => False) (.below hb4) id z3
  have s3 := (Array.getElem?_eq_some_iff.1 z3).1
  have z5 := hE5.heap (fun hn => by rcases hn with e | e <;> omega) z4
  have hne : wb ≠ w.heap.size := by omega
  have fe := fields_end hx hI hG hb2 hz2' hSw hS hlt hE3 hb4 hT hrd hgot hr5 hv5.1 hE5 (.cells (Dv.struc ds).cells.toArray T.tid) (cs := (Dv.struc ds).cells) (by rw [Dv.cells])
  obtain ⟨o0, -, o2, -, -⟩ := hr5.cells
  obtain ⟨-, u1, -, -, u4⟩ := ho5.cells
  have p0 := alloc_heap_some (o := .cells (Dv.struc ds).cells.toArray T.tid) z5
  have p1 := alloc_heap_some (o := .cells (Dv.struc ds).cells.toArray T.tid) ((Below.heap_setCell W5 ⟨wb, 0, none⟩ (.bool true) _ (Ne.symm hne)).trans z5)
  have q0 := World.alloc_heap_new W5 (.cells (Dv.struc ds).cells.toArray T.tid)
  have q1 := World.alloc_heap_new (W5.setCell ⟨wb, 0, none⟩ (.bool true)) (.cells (Dv.struc ds).cells.toArray T.tid)
  rw [show (W5.setCell ⟨wb, 0, none⟩ (.bool true)).heap.size = W5.heap.size by simp [World.setCell]] at q1
  rw [hval (LT.isF_W hF)] at he
  rw [he]
  obtain ⟨i0, ei, ez0, ez1, ez2⟩ := info_parts T.info
  have sn : StL W5.heap.size (Dv.struc ds).cells (W5.alloc (.cells T.zero.toArray T.tid)) (W5.alloc (.cells (Dv.struc ds).cells.toArray T.tid)) := by
    have := run_storeCells_new (P := Tryz.prog) W5 T.tid T.zero.toArray (Dv.struc ds).cells.toArray (by rw [ei]; simp [ez1, hl]) (by simp; omega) (by simpa using h1)
    simpa using this
  exact ⟨.struc ds, a5, n5, c5, g5, _, _, rfl, T.inv hTy, (Array.getElem?_eq_some_iff.1 z5).1, hne, ho5.lt.1, ho5.lt.2, hr5.lt.1, o0, u1, o2, u4, sn, T.ld (LT.isF_W hF) hl q0, run_putL _ 0 _ _ p0 (by simp; omega) h1, T.ld (LT.isF_W hF) hl (putL_at _ (by simp; omega) p0), fun h => T.up hF (fe.2 h), T.ld (LT.isF_W hF) hl q1, run_putL _ 0 _ _ p1 (by simp; omega) h1, T.ld (LT.isF_W hF) hl (putL_at _ (by simp; omega) p1), fun h => T.up hF (fe.1 h)⟩
end Go.Proofs.YtlbcmeebcfalpaaGreatDoor
namespace Go.Proofs.YtlbcmeebcfalpaaGreatDoor
open Go.RowKit

theorem LT.isA_F {T : LT} (h : T.isA = true) : T.isF = true := by cases T <;> first | rfl | cases h
theorem rfA_any (T : LT) (hL : T.isA = true) (f : Nat) (h : ReadsL T.ts (f - 1) T.rd) : Reads T.ty f T.fi (fun p => #[p, .func (.func T.rd) #[] #[]]) := by
  refine .of fun S rb wb a n c l g w hr hv hS hSw hG => ?_
  have hb1 : Below w.heap.size w (w.alloc (.cells T.zero.toArray T.tid)) := (Below.refl _ _).alloc (Nat.le_refl _) _
  have hz := World.alloc_heap_new w (.cells T.zero.toArray T.tid)
  have hr1 := hr.below hb1
  have hv1 := hv.below hb1
  have hlt := hr.lt
  have HS := hiq hS
  have HG := hiq hG
  have HF : Hid (∀ (W2 W3 W4 : World) (kk nn : Int) (t : ByteArray) (aa : Option Addr) (cc : Nat) (ll l' : List Vl) (a' : Option Addr) (n' c' : Nat) (g1 : Bool), Nx 3 l g (.mk kk nn t aa cc ll) l' g1 -> Inn S f rb wb W3 W4 aa cc ll a' n' c' l' g1 -> Below w.heap.size w W2 -> W2.heap[w.heap.size]? = some (.cells T.zero.toArray T.tid (0, 0)) -> Exc (Two rb wb) W2 W3 -> Below W3.heap.size W3 W4 -> Calls Tryz.prog T.rd #[.pointer (some ⟨W3.heap.size, 0, none⟩)] W4 (T.Fld S rb wb l g w W3)) := fun W2 W3 W4 kk nn t aa cc ll l' a' n' c' g1 hx hI hb2 hz2 hE3 hb4 =>
    (h (InS S W3) W3.heap.size wb aa ll.length cc ll g1 W4 hI.own hI.items hI.off hI.good).mono fun e W5 hm => T.fld_of (LT.isA_F hL) hx hI hG hb2 hz2 hSw hS hlt hE3 hb4 hm
  have hz1 : w.heap.size < (w.alloc (.cells T.zero.toArray T.tid)).heap.size := by simp
  clear h hr hv hS hG hSw
  cases T
  case' op => go_enter Tryz.func228, Tryz.ntmps228
  case' dec => go_enter Tryz.func231, Tryz.ntmps231
  case' rew => go_enter Tryz.func159, Tryz.ntmps159
  case' grp => go_enter Tryz.func167, Tryz.ntmps167
  case pat => cases hL
  case sec => cases hL
  case rul => cases hL
  case wit => cases hL
  case nod => cases hL
  case exp => cases hL
  case cst => cases hL
  case sty => cases hL
  case edi => cases hL
  case int => cases hL
  case bool => cases hL
  case text => cases hL
  case pos => cases hL
  case tok => cases hL
  case inp => cases hL
  case toks => cases hL
  all_goals
    dsimp only [LT.ty, LT.fi, LT.rd, LT.tid, LT.zero] at *
    go_wp2_with fail
    generalize w.alloc (.cells _ _) = W1 at *
    obtain ⟨-, x1, -, -, -⟩ := hr1.cells
    obtain ⟨X, Wf, hX, q1, hS2⟩ := family (fun V => V.cell? ⟨rb, 1, none⟩ = some (.pointer (some ⟨wb, 0, none⟩))) W1 x1
    have HS2 := hiq hS2
    have hd : Below W1.heap.size W1 W1.drew := (Below.refl _ _).drew
    have hd0 : W1.drew.cell? ⟨rb, 1, none⟩ = some (.pointer (some ⟨wb, 0, none⟩)) := x1
    have HN := hiq (next_any S rb wb 3 a n c l g W1.drew (hr1.below hd) (hv1.below hd) HS.out)
    have HB1 := hiq (hb1.trans (hd.mono hb1.size))
    have HZ := hiq ((hd.block w.heap.size hz1).trans hz)
    clear hS2 x1 hb1 hz hr1 hv1 hz1 hL
    refine wp_region_tree (Wf := Wf) 9 (.read 0 (.read 3 (.read 4 (.read 5 (.read 6 (.act 1 (.read 2 (.read 7 (.act 8 .fin))))))))) (by kernel_rfl) (by kernel_rfl) (fun _ _ d _ _ h => by cases d <;> exact h) (HS2.out _ hd0) ?_
    clear hd hd0
    generalize _root_.Go.World.drew _ = W2 at *
    refine wpTree_read _ rfl (fun K hK => ?_); unfold rOp; go_simp; (refine hK _ ?_; clear hK K)
    refine wpTree_read _ rfl (fun K hK => ?_); unfold rOp; go_simp; (refine hK _ ?_; clear hK K)
    refine wpTree_read _ rfl (fun K hK => ?_); unfold rOp; go_simp; (refine hK _ ?_; clear hK K)
    refine wpTree_read _ rfl (fun K hK => ?_); unfold rOp; go_simp; (refine hK _ ?_; clear hK K)
    refine wpTree_read _ rfl (fun K hK => ?_); unfold rOp; go_simp; (refine hK _ ?_; clear hK K)
    refine wpTree_act _ rfl ?_
    go_wp2_with fail
    refine HN.out.mono ?_
    rintro e W3 ⟨⟨kk, nn, t, aa, cc, ll⟩, a', n', c', l', g1, he, hx, hr3, hv3, hrd, hE⟩
    change e = .returned (.agg #[.int .i64 kk, .int .i64 nn, .string t, .slice aa ll.length cc]) at he
    subst he
    have hfd := valItems kk nn t aa ll.length cc
    go_wp2_with fail
    refine ⟨HS2.out _ hr3.cells.2.1, ?_⟩
    refine wpTree_read _ rfl (fun K hK => ?_); unfold rOp; go_simp; (refine hK _ ?_; clear hK K)
    refine wpTree_read _ rfl (fun K hK => ?_); unfold rOp; go_simp; (refine hK _ ?_; clear hK K)
    refine wpTree_act _ rfl ?_
    go_wp2_with fail
    have hI := Inn.mk' hx hr3 hv3 hrd HS.out HG.out
    have hb4 : Below W3.heap.size W3 (W3.alloc (.cells #[.slice aa ll.length cc, .pointer (some ⟨wb, 0, none⟩)] 74)) := (Below.refl _ _).alloc (Nat.le_refl _) _
    have hz4 : (W3.alloc (.cells #[.slice aa ll.length cc, .pointer (some ⟨wb, 0, none⟩)] 74)).heap.size = W3.heap.size + 1 := by simp
    generalize W3.alloc (.cells #[.slice aa ll.length cc, .pointer (some ⟨wb, 0, none⟩)] 74) = W4 at *
    refine ⟨HS2.out _ hI.outer.cells.2.1, ?_⟩
    refine wpTree_fin ?_
    have HM := hiq (HF.out _ _ _ _ _ _ _ _ _ _ _ _ _ _ hx hI HB1.out HZ.out hE hb4)
    clear hI hr3 hv3 hrd hE hb4 hz4 q1 HS2 hX hfd hx HF HN HB1 HZ
    go_wp2_with fail
    refine HM.out.mono ?_
    rintro e W5 ⟨d, a5, n5, c5, g5, WF, WG, he, hi, k1, k2, k3, k4, k5, o0, u1, u2, u3, sn, gt0, st0, hgt, HF, gt1, st1, hgt1, HG2⟩
    dsimp only [LT.Inv] at hi
    repeat (rcases (hi : ∃ _, _) with ⟨_, hi⟩)
    subst hi
    simp only [StL, LdV, Dv.cells, Dv.cellsL, List.cons_append, List.nil_append, List.append_nil, LT.k, LT.tid, LT.zero] at he sn gt0 st0 hgt gt1 st1 hgt1
    subst he
    have HF := hiq HF
    have HG2 := hiq HG2
    have HSN := hiq sn
    clear HM sn
    by_cases h0 : n5 = 0
    · subst h0
      clear gt1 st1 hgt1 HG2
      have HST := hiq st0
      have HGT := hiq hgt
      have HLD := hiq gt0
      clear st0 gt0 hgt
      go_wp2_with (first | ((with_reducible refine wpList_stL HSN.out rfl _ _ _ rfl ?_ ?_ ?_ ?_); rfl; rfl; kernel_rfl) | ((with_reducible refine wpList_ldL HLD.out rfl _ rfl ?_ ?_); rfl) | ((with_reducible refine wpList_stL HST.out rfl _ _ _ rfl ?_ ?_ ?_ ?_); rfl; rfl; kernel_rfl))
      exact ret_ldL HGT.out rfl rfl rfl (HF.out (by trivial))
    · have h1 : 0 < n5 := by omega
      clear gt0 st0 hgt HF
      have HST := hiq st1
      have HGT := hiq hgt1
      have HLD := hiq gt1
      clear st1 gt1 hgt1
      go_wp2_with (first | ((with_reducible refine wpList_stL HSN.out rfl _ _ _ rfl ?_ ?_ ?_ ?_); rfl; rfl; kernel_rfl) | ((with_reducible refine wpList_ldL HLD.out rfl _ rfl ?_ ?_); rfl) | ((with_reducible refine wpList_stL HST.out rfl _ _ _ rfl ?_ ?_ ?_ ?_); rfl; rfl; kernel_rfl))
      exact ret_ldL HGT.out rfl rfl rfl (HG2.out h1)
end Go.Proofs.YtlbcmeebcfalpaaGreatDoor
namespace Go.Proofs.YtlbcmeebcfalpaaGreatDoor
open Go.RowKit

theorem LT.isB_F {T : LT} (h : T.isB = true) : T.isF = true := by cases T <;> first | rfl | cases h
theorem rfB_any (T : LT) (hL : T.isB = true) (f : Nat) (h : ReadsL T.ts (f - 1) T.rd) : Reads T.ty f T.fi (fun p => #[p, .func (.func T.rd) #[] #[]]) := by
  refine .of fun S rb wb a n c l g w hr hv hS hSw hG => ?_
  have hb1 : Below w.heap.size w (w.alloc (.cells T.zero.toArray T.tid)) := (Below.refl _ _).alloc (Nat.le_refl _) _
  have hz := World.alloc_heap_new w (.cells T.zero.toArray T.tid)
  have hr1 := hr.below hb1
  have hv1 := hv.below hb1
  have hlt := hr.lt
  have HS := hiq hS
  have HG := hiq hG
  have HF : Hid (∀ (W2 W3 W4 : World) (kk nn : Int) (t : ByteArray) (aa : Option Addr) (cc : Nat) (ll l' : List Vl) (a' : Option Addr) (n' c' : Nat) (g1 : Bool), Nx 3 l g (.mk kk nn t aa cc ll) l' g1 -> Inn S f rb wb W3 W4 aa cc ll a' n' c' l' g1 -> Below w.heap.size w W2 -> W2.heap[w.heap.size]? = some (.cells T.zero.toArray T.tid (0, 0)) -> Exc (Two rb wb) W2 W3 -> Below W3.heap.size W3 W4 -> Calls Tryz.prog T.rd #[.pointer (some ⟨W3.heap.size, 0, none⟩)] W4 (T.Fld S rb wb l g w W3)) := fun W2 W3 W4 kk nn t aa cc ll l' a' n' c' g1 hx hI hb2 hz2 hE3 hb4 =>
    (h (InS S W3) W3.heap.size wb aa ll.length cc ll g1 W4 hI.own hI.items hI.off hI.good).mono fun e W5 hm => T.fld_of (LT.isB_F hL) hx hI hG hb2 hz2 hSw hS hlt hE3 hb4 hm
  have hz1 : w.heap.size < (w.alloc (.cells T.zero.toArray T.tid)).heap.size := by simp
  clear h hr hv hS hG hSw
  cases T
  case' pat => go_enter Tryz.func171, Tryz.ntmps171
  case' sec => go_enter Tryz.func174, Tryz.ntmps174
  case' rul => go_enter Tryz.func162, Tryz.ntmps162
  case op => cases hL
  case dec => cases hL
  case rew => cases hL
  case grp => cases hL
  case wit => cases hL
  case nod => cases hL
  case exp => cases hL
  case cst => cases hL
  case sty => cases hL
  case edi => cases hL
  case int => cases hL
  case bool => cases hL
  case text => cases hL
  case pos => cases hL
  case tok => cases hL
  case inp => cases hL
  case toks => cases hL
  all_goals
    dsimp only [LT.ty, LT.fi, LT.rd, LT.tid, LT.zero] at *
    go_wp2_with fail
    generalize w.alloc (.cells _ _) = W1 at *
    obtain ⟨-, x1, -, -, -⟩ := hr1.cells
    obtain ⟨X, Wf, hX, q1, hS2⟩ := family (fun V => V.cell? ⟨rb, 1, none⟩ = some (.pointer (some ⟨wb, 0, none⟩))) W1 x1
    have HS2 := hiq hS2
    have hd : Below W1.heap.size W1 W1.drew := (Below.refl _ _).drew
    have hd0 : W1.drew.cell? ⟨rb, 1, none⟩ = some (.pointer (some ⟨wb, 0, none⟩)) := x1
    have HN := hiq (next_any S rb wb 3 a n c l g W1.drew (hr1.below hd) (hv1.below hd) HS.out)
    have HB1 := hiq (hb1.trans (hd.mono hb1.size))
    have HZ := hiq ((hd.block w.heap.size hz1).trans hz)
    clear hS2 x1 hb1 hz hr1 hv1 hz1 hL
    refine wp_region_tree (Wf := Wf) 9 (.read 0 (.read 3 (.read 4 (.read 5 (.read 6 (.act 1 (.read 2 (.read 7 (.act 8 .fin))))))))) (by kernel_rfl) (by kernel_rfl) (fun _ _ d _ _ h => by cases d <;> exact h) (HS2.out _ hd0) ?_
    clear hd hd0
    generalize _root_.Go.World.drew _ = W2 at *
    refine wpTree_read _ rfl (fun K hK => ?_); unfold rOp; go_simp; (refine hK _ ?_; clear hK K)
    refine wpTree_read _ rfl (fun K hK => ?_); unfold rOp; go_simp; (refine hK _ ?_; clear hK K)
    refine wpTree_read _ rfl (fun K hK => ?_); unfold rOp; go_simp; (refine hK _ ?_; clear hK K)
    refine wpTree_read _ rfl (fun K hK => ?_); unfold rOp; go_simp; (refine hK _ ?_; clear hK K)
    refine wpTree_read _ rfl (fun K hK => ?_); unfold rOp; go_simp; (refine hK _ ?_; clear hK K)
    refine wpTree_act _ rfl ?_
    go_wp2_with fail
    refine HN.out.mono ?_
    rintro e W3 ⟨⟨kk, nn, t, aa, cc, ll⟩, a', n', c', l', g1, he, hx, hr3, hv3, hrd, hE⟩
    change e = .returned (.agg #[.int .i64 kk, .int .i64 nn, .string t, .slice aa ll.length cc]) at he
    subst he
    have hfd := valItems kk nn t aa ll.length cc
    go_wp2_with fail
    refine ⟨HS2.out _ hr3.cells.2.1, ?_⟩
    refine wpTree_read _ rfl (fun K hK => ?_); unfold rOp; go_simp; (refine hK _ ?_; clear hK K)
    refine wpTree_read _ rfl (fun K hK => ?_); unfold rOp; go_simp; (refine hK _ ?_; clear hK K)
    refine wpTree_act _ rfl ?_
    go_wp2_with fail
    have hI := Inn.mk' hx hr3 hv3 hrd HS.out HG.out
    have hb4 : Below W3.heap.size W3 (W3.alloc (.cells #[.slice aa ll.length cc, .pointer (some ⟨wb, 0, none⟩)] 74)) := (Below.refl _ _).alloc (Nat.le_refl _) _
    have hz4 : (W3.alloc (.cells #[.slice aa ll.length cc, .pointer (some ⟨wb, 0, none⟩)] 74)).heap.size = W3.heap.size + 1 := by simp
    generalize W3.alloc (.cells #[.slice aa ll.length cc, .pointer (some ⟨wb, 0, none⟩)] 74) = W4 at *
    refine ⟨HS2.out _ hI.outer.cells.2.1, ?_⟩
    refine wpTree_fin ?_
    have HM := hiq (HF.out _ _ _ _ _ _ _ _ _ _ _ _ _ _ hx hI HB1.out HZ.out hE hb4)
    clear hI hr3 hv3 hrd hE hb4 hz4 q1 HS2 hX hfd hx HF HN HB1 HZ
    go_wp2_with fail
    refine HM.out.mono ?_
    rintro e W5 ⟨d, a5, n5, c5, g5, WF, WG, he, hi, k1, k2, k3, k4, k5, o0, u1, u2, u3, sn, gt0, st0, hgt, HF, gt1, st1, hgt1, HG2⟩
    dsimp only [LT.Inv] at hi
    repeat (rcases (hi : ∃ _, _) with ⟨_, hi⟩)
    subst hi
    simp only [StL, LdV, Dv.cells, Dv.cellsL, List.cons_append, List.nil_append, List.append_nil, LT.k, LT.tid, LT.zero] at he sn gt0 st0 hgt gt1 st1 hgt1
    subst he
    have HF := hiq HF
    have HG2 := hiq HG2
    have HSN := hiq sn
    clear HM sn
    by_cases h0 : n5 = 0
    · subst h0
      clear gt1 st1 hgt1 HG2
      have HST := hiq st0
      have HGT := hiq hgt
      have HLD := hiq gt0
      clear st0 gt0 hgt
      go_wp2_with (first | ((with_reducible refine wpList_stL HSN.out rfl _ _ _ rfl ?_ ?_ ?_ ?_); rfl; rfl; kernel_rfl) | ((with_reducible refine wpList_ldL HLD.out rfl _ rfl ?_ ?_); rfl) | ((with_reducible refine wpList_stL HST.out rfl _ _ _ rfl ?_ ?_ ?_ ?_); rfl; rfl; kernel_rfl))
      exact ret_ldL HGT.out rfl rfl rfl (HF.out (by trivial))
    · have h1 : 0 < n5 := by omega
      clear gt0 st0 hgt HF
      have HST := hiq st1
      have HGT := hiq hgt1
      have HLD := hiq gt1
      clear st1 gt1 hgt1
      go_wp2_with (first | ((with_reducible refine wpList_stL HSN.out rfl _ _ _ rfl ?_ ?_ ?_ ?_); rfl; rfl; kernel_rfl) | ((with_reducible refine wpList_ldL HLD.out rfl _ rfl ?_ ?_); rfl) | ((with_reducible refine wpList_stL HST.out rfl _ _ _ rfl ?_ ?_ ?_ ?_); rfl; rfl; kernel_rfl))
      exact ret_ldL HGT.out rfl rfl rfl (HG2.out h1)
end Go.Proofs.YtlbcmeebcfalpaaGreatDoor
