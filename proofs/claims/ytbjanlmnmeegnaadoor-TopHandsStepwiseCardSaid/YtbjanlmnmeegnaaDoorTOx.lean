/- An own slice of nodes, with where their parts lie; what functions over nodes answer. -/
import Derived.Test.YtbjanlmnmeegnaaDoorTKp
import Derived.Test.YtbjanlmnmeegnaaDoorTCor
import Derived.Test.YtbjanlmnmeegnaaDoorTOwp
set_option linter.unusedVariables false
set_option linter.unusedSimpArgs false
namespace Go.Proofs.YtbjanlmnmeegnaaDoor
open Go.RowKit

/-- 'append(x, nil...)': nothing changes. -/
theorem run_append_own_nil {P : Program} {w : World} (base : Nat) (t ty e : TypeId) (i : TypeInfo) (size c : Nat) (ht : P.underlying t = some (.slice e)) (hi : P.info? e = some i)
    (v : Value) (n : Nat) (xs : List Value) (hown : w.ownsRow base e size v n xs) : (Builtin.append_ #[t, t] ty #[v, .slice none 0 c]).run P w = .ok v w := by
  rcases hown.2 with ⟨rfl, rfl⟩ | ⟨g, cap, cur, rfl, _, _, hnc, _⟩
  · simp [Builtin.append_, run_underlying ht, sizeOf, typeInfo, hi, Builtin.lenOf, Builtin.firstCells]
  · simp [Builtin.append_, run_underlying ht, sizeOf, typeInfo, hi, Builtin.lenOf, Builtin.firstCells, hnc, storeCells]
theorem wpList_app_nil {P : Program} {w : World} {ops : Array Oper} {rest : List Oper} {o : Oper} {a : Act} {Q : Exit → Act → World → Prop} (hgd : o.guard = none) (s x : Operand) (t : TypeId)
    (ho : o.op = .call { callee := .builtin .append, args := #[s, x], argTypes := #[t, t] })
    (base : Nat) (e : TypeId) (i : TypeInfo) (size c : Nat) (ht : P.underlying t = some (.slice e)) (hi : P.info? e = some i)
    (v : Value) (n : Nat) (xs : List Value) (hs : a.eval s = v) (hown : w.ownsRow base e size v n xs) (hx : a.eval x = .slice none 0 c)
    (h : wpList P ops Q rest (a.put o.dst v) w) : wpList P ops Q (o :: rest) a w := by
  refine wpList_plain hgd fun K hK => ?_
  have hrun := run_append_own_nil (P := P) (w := w) base t o.type e i size c ht hi v n xs hown
  unfold Oper.wp
  simp [execOp, ho, resolve, invoke, builtin, hs, hx, hrun, Result.andThen]
  exact hK _ _ h
theorem len_cnt : ∀ l : List Nd, l.length ≤ cntL l
  | [] => Nat.le_refl _
  | .mk k t n ps :: r => by have := len_cnt r; rw [cntL, cntN, List.length_cons]; omega
/-- An own slice of nodes; their parts lie in S, or in blocks from B on, and not in the slice's own block. -/
def OwnX (S : Nat → Prop) (w : World) (B : Nat) (a : Option Addr) (n cap : Nat) (l : List Vl) : Prop :=
  ∃ T : Nat → Prop, (∀ b, T b → b < w.heap.size ∧ (S b ∨ B ≤ b)) ∧ (∀ x, a = some x → ¬ T x.block) ∧ OwnN T w B a n cap l
namespace OwnX
variable {S Sy : Nat → Prop} {w w' V V2 : World} {B : Nat} {a a' : Option Addr} {n m cap c' : Nat} {l ys : List Vl}
theorem nil (S : Nat → Prop) (w : World) (B : Nat) : OwnX S w B none 0 0 [] := ⟨fun _ => False, fun _ h => h.elim, (fun x h => by cases h), OwnN.nil _ _ _⟩
theorem len (h : OwnX S w B a n cap l) : n = l.length := by obtain ⟨T, _, _, h⟩ := h; exact h.len
theorem own (h : OwnX S w B a n cap l) : OwnQ 37 4 encN w B a n cap l := by obtain ⟨T, _, _, h⟩ := h; exact h.1
theorem below (h : OwnX S w B a n cap l) (hb : Below w.heap.size w w') : OwnX S w' B a n cap l := by
  obtain ⟨T, h1, h2, h3⟩ := h
  exact ⟨T, fun b hT => ⟨Nat.lt_of_lt_of_le (h1 b hT).1 hb.size, (h1 b hT).2⟩, h2, h3.below hb⟩
theorem app (h : OwnX S V B a n cap l) (hq : OwnQ 37 4 encN V2 B a' (n + m) c' (l ++ ys)) (hg : V.grownBy V2 (Value.slice a n cap).ownBlock)
    (hz : (Value.slice a' (n + m) c').ownBlock = (Value.slice a n cap).ownBlock ∨ (Value.slice a' (n + m) c').ownBlock = some V.heap.size) (hy : ∀ y ∈ ys, Rd Sy V y) (hy1 : ∀ b, Sy b → S b ∨ B ≤ b) (hy2 : ∀ x, a = some x → ¬ Sy x.block) : OwnX S V2 B a' (n + m) c' (l ++ ys) := by
  obtain ⟨T, h1, h2, h3⟩ := h
  have hsz := hg.size
  have hno : ∀ b, (T b ∨ Sy b) → some b ≠ (Value.slice a n cap).ownBlock := fun b hb e => by
    cases a with
    | none => cases e
    | some x =>
      cases e
      rcases hb with hb | hb
      · exact h2 x rfl hb
      · exact hy2 x rfl hb
  have hk : KeepS (fun b => b < V.heap.size ∧ (T b ∨ Sy b)) V V2 := ⟨hsz, fun b cs t fr hb hc => by rw [hg.block b hb.1 (hno b hb.2)]; exact hc⟩
  refine ⟨fun b => b < V.heap.size ∧ (T b ∨ Sy b), fun b hb => ⟨by omega, ?_⟩, fun x hx hb => ?_, hq, fun u hu => ?_⟩
  · rcases hb.2 with h | h
    · exact (h1 b h).2
    · exact hy1 b h
  · subst hx
    rcases hz with e | e
    · exact hno _ hb.2 e
    · have := Option.some.inj e; have := hb.1; omega
  · rcases List.mem_append.1 hu with h | h
    · exact ((h3.2 u h).mono (fun b hT _ => ⟨(h1 b hT).1, .inl hT⟩)).keep hk
    · exact ((hy u h).mono (fun b hT hb => ⟨hb, .inr hT⟩)).keep hk
theorem vals (h : OwnX S w B a n cap l) (hn : n * 56 ≤ 140737488355328) : Vals (fun b => S b ∨ B ≤ b) w a n cap l := by
  obtain ⟨T, h1, h2, h3⟩ := h
  exact h3.vals hn (fun b hb => (h1 b hb).2) (fun x hx => .inr (h3.1.lt x hx).1)
/-- The text of an element is stored anew. -/
theorem putText {g j : Nat} {y x : Vl} {v : ByteArray} (h : OwnX S w B (some ⟨g, 0, none⟩) n cap l) (hj : l[j]? = some y) (hx : x = .mk y.kind y.num v y.addr y.cap y.items) (hv : v.size ≤ 140737488355328) : OwnX S (w.setCell ⟨g, j * 4 + 1, none⟩ (.string v)) B (some ⟨g, 0, none⟩) n cap (l.set j x) := by
  obtain ⟨T, h1, h2, h3⟩ := h
  have hk : KeepS T w (w.setCell ⟨g, j * 4 + 1, none⟩ (.string v)) := ⟨by simp [World.setCell], fun b cs t fr hb hc => by
    rw [heap_setCell_other (fun e => h2 _ rfl (by rw [← e]; exact hb))]; exact hc⟩
  refine ⟨T, fun b hb => ⟨by have := (h1 b hb).1; simpa [World.setCell] using this, (h1 b hb).2⟩, h2, h3.1.putText encN_len j y x hj (d0 := .int .i64 y.kind) (d1 := .string y.text) (d2 := .int .i64 y.num) (d3 := y.sl) rfl (by subst hx; rfl), fun u hu => ?_⟩
  rcases List.mem_or_eq_of_mem_set hu with hu | rfl
  · exact (h3.2 u hu).keep hk
  · subst hx
    have := (h3.2 y (List.mem_of_getElem? hj)).keep hk
    rw [rd_iff] at this ⊢
    exact ⟨this.1, this.2.1, hv, this.2.2.2⟩
end OwnX
/-- What a function over nodes answers. -/
def LstP (S : Nat → Prop) (r : List Nd) (w : World) (e : Ending) (w' : World) : Prop :=
  ∃ a n c us, e = .returned (.slice a n c) ∧ Vals (fun b => S b ∨ w.heap.size ≤ b) w' a n c us ∧ us.map Vl.er = r ∧ Below w.heap.size w w'
theorem LstP.up {S : Nat → Prop} {r : List Nd} {w W w' : World} {e : Ending} (hb : Below w.heap.size w W) (h : LstP S r W e w') : LstP S r w e w' := by
  obtain ⟨a, n, c, us, h1, h2, h3, h4⟩ := h
  exact ⟨a, n, c, us, h1, h2.mono (fun b hs _ => hs.imp id (fun q => Nat.le_trans hb.size q)), h3, hb.trans (h4.mono hb.size)⟩
theorem Vals.setc {S : Nat → Prop} {w : World} {a : Option Addr} {n c : Nat} {l : List Vl} (h : Vals S w a n c l) {g j : Nat} (hg : ¬ S g) (v : Value) : Vals S (w.setCell ⟨g, j, none⟩ v) a n c l :=
  h.keep ⟨by simp [World.setCell], fun b cs t fr hb hc => by rw [heap_setCell_other (fun e => hg (by rw [← e]; exact hb))]; exact hc⟩
theorem Vals.none_nil {S : Nat → Prop} {w : World} {n c : Nat} {l : List Vl} (h : Vals S w none n c l) : n = 0 ∧ l = [] := by
  have : n = 0 := by
    apply Classical.byContradiction
    intro hn
    obtain ⟨v, b, off, _, _, e, _⟩ := h.get (j := 0) (by omega)
    cases e
  exact ⟨this, List.eq_nil_of_length_eq_zero (by rw [← h.1]; exact this)⟩
theorem Vals.addr_some {S : Nat → Prop} {w : World} {x : Addr} {n c : Nat} {l : List Vl} (h : Vals S w (some x) n c l) : ∀ j u, (l.flatMap encN)[j]? = some u → w.cell? (x.add j) = some u := by
  intro j u hj
  by_cases hl : n = 0
  · have : l = [] := List.eq_nil_of_length_eq_zero (by rw [← h.1]; exact hl)
    subst this; simp at hj
  · obtain ⟨v, b, off, _, _, e, _⟩ := h.get (j := 0) (by omega)
    cases e
    exact vals_newsN h j u hj
theorem Vals.rd {S : Nat → Prop} {w : World} {a : Option Addr} {n c : Nat} {l : List Vl} (h : Vals S w a n c l) : ∀ v ∈ l, Rd S w v := fun v hv => by
  obtain ⟨j, hj⟩ := List.mem_iff_getElem?.1 hv
  exact (h.2.2.2 j v hj).2
section
variable {ops : Array Oper} {rest : List Oper} {o : Oper} {act : Act} {Q : Exit → Act → World → Prop} {w w0 : World} {B : Nat} {a a2 : Option Addr} {n cap m c : Nat} {l ys : List Vl} {S Sy : Nat → Prop}
/-- 'append(out, ys...)' of nodes. -/
theorem wpList_appV (hgd : o.guard = none) (s x : Operand) (ho : o.op = .call { callee := .builtin .append, args := #[s, x], argTypes := #[22, 22] })
    (hs : act.eval s = .slice a n cap) (hx : act.eval x = .slice a2 m c) (hown : OwnX S w B a n cap l) (hy : Vals Sy w a2 m c ys) (hy1 : ∀ b, Sy b → S b ∨ B ≤ b) (hy2 : ∀ x, a = some x → ¬ Sy x.block)
    (hn : n + m ≤ 1000000) (hB : B ≤ w.heap.size) (hb : Below B w0 w)
    (h : ∀ a' c' w', OwnX S w' B a' (n + m) c' (l ++ ys) → Below B w0 w' → wpList Tryd.prog ops Q rest (act.put o.dst (.slice a' (n + m) c')) w') :
    wpList Tryd.prog ops Q (o :: rest) act w := by
  cases a2 with
  | some y =>
    refine wpList_appQ (w0 := w0) infoN Tryd.underlying22 rfl (by decide) encN_len encN_one hgd s x ho hs hx hown.own hy.1 hy.addr_some (by unfold maxLen; omega) (by omega) hB hb ?_
    intro a' c' w' h1 h2 h3 h4
    exact h a' c' w' (hown.app h1 h3 h4 hy.rd hy1 hy2) h2
  | none =>
    obtain ⟨rfl, rfl⟩ := hy.none_nil
    obtain ⟨i0, hi, hz0, hz1, hz2⟩ := info_parts infoN
    refine wpList_app_nil hgd s x _ ho B _ i0 4 c Tryd.underlying22 hi (.slice a n cap) n (l.flatMap encN) hs hown.own.2 hx ?_
    exact h a cap w (by simpa using hown) hb
end
mutual
theorem cnt_resN (h : Int) : ∀ x : Nd, okN x → cntL (resN h x) ≤ cntN x
  | .mk k t n ps, o => by
    have ih := cnt_resL h ps o.2.2
    have ib := cnt_brksL ps o.2.2
    unfold resN
    repeat' split
    all_goals simp only [cntL, cntN]
    all_goals omega
theorem cnt_resL (h : Int) : ∀ l : List Nd, okL l → cntL (resL h l) ≤ cntL l
  | [], _ => Nat.le_refl _
  | x :: r, o => by
    have h1 := cnt_resN h x o.1
    have h2 := cnt_resL h r o.2
    show cntL (resN h x ++ resL h r) ≤ cntN x + cntL r
    rw [cntL_append]; omega
end
theorem advL_append (h : Int) : ∀ a b : List Nd, advL h (a ++ b) = advL h a ++ advL h b
  | [], b => by simp [advL]
  | x :: a, b => by simp [advL, advL_append h a b]
theorem ok_mem : ∀ {l : List Nd} {x : Nd}, okL l → x ∈ l → okN x
  | [], _, _, hx => by cases hx
  | y :: r, x, h, hx => by
    rcases List.mem_cons.1 hx with rfl | hx
    · exact h.1
    · exact ok_mem h.2 hx
end Go.Proofs.YtbjanlmnmeegnaaDoor
