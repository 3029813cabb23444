/- What the library's variables hold; strconv.Itoa and Atoi in these words; bytes of the call's own. -/
import Derived.Test.YtancjkaoocgeeaaDoorCBld
import Derived.Lib.AtoiErrMem
import Derived.Lib.AtoiAllCases
import Derived.Lib.ItoaLen
import Derived.Lib.LaidTab
namespace Go.Proofs.YtancjkaoocgeeaaDoor
open Go.RowKit Go.Shelf Go.Sort

/-- The tables and the errors of the library are what they are. -/
structure Env (w : World) : Prop where
  tab : Lib.TabIs Tryd.prog w "internal/strconv.uint64pow10" .u64 Lib.pow10Tab
  syn : ∃ tp p, w.var? Tryd.prog "strconv.ErrSyntax" = some #[.iface tp p]
  rng : ∃ tp p, w.var? Tryd.prog "strconv.ErrRange" = some #[.iface tp p]
theorem var_below {P : Program} {w w' : World} (hb : Below w.heap.size w w') {name : String} {x : Array Value} (h : w.var? P name = some x) : w'.var? P name = some x := by
  unfold World.var? at h ⊢
  cases hg : P.globalNamed name with
  | none => rw [hg] at h; cases h
  | some g =>
    rw [hg] at h
    simp only [Option.bind_some] at h ⊢
    cases ho : w.heap[g]? with
    | none => rw [ho] at h; cases h
    | some o => rw [hb.block g (Array.getElem?_eq_some_iff.1 ho).1, ho]; rw [ho] at h; exact h
theorem Env.below {w w' : World} (h : Env w) (hb : Below w.heap.size w w') : Env w' := by
  obtain ⟨h1, ⟨t, p, h2⟩, ⟨t', p', h3⟩⟩ := h
  exact ⟨var_below hb h1, ⟨t, p, var_below hb h2⟩, ⟨t', p', var_below hb h3⟩⟩
theorem below_grow {n : Nat} {A : World} : ∀ (l : List Obj) (W : World), Below n A W → n ≤ W.heap.size → Below n A (grow W ⟨l⟩)
  | [], W, h, _ => by simpa using h
  | o :: l, W, h, hn => by
    have := below_grow l (W.alloc o) (h.alloc hn o) (by simp; omega)
    rw [alloc_eq_grow, grow_grow] at this
    simpa using this
theorem itoa_any (n : Int) (hn : I64 n) (w : World) (hE : Env w) : Calls Tryd.prog 35 #[.int .i64 n] w fun e w' => e = .returned (.string ⟨(Lib.itoa n).toArray⟩) ∧ Below w.heap.size w w' := by
  refine (Tryd.strconv_Itoa n hn.1 hn.2 w hE.tab).mono ?_
  rintro e w' ⟨rfl, k, os, rfl⟩
  exact ⟨rfl, below_grow os.toList _ (below_drewN (Below.refl _ _) k) (Nat.le_refl _)⟩
/-- What Atoi answers: the number, and whether there is an error. -/
def atoiN (l : List UInt8) : Int := match Lib.atoiAll l with | .ok v => v | .range => Lib.atoiSat l | _ => 0
def atoiOk (l : List UInt8) : Bool := match Lib.atoiAll l with | .ok _ => true | _ => false
theorem atoi_any (s : ByteArray) (hs : s.size ≤ 281474976710656) (w : World) (hE : Env w) : Calls Tryd.prog 62 #[.string s] w fun e w' => ∃ err : Value, e = .returned (.tuple #[.int .i64 (atoiN s.data.toList), err]) ∧
    ((atoiOk s.data.toList = true ∧ err = .nilIface) ∨ (atoiOk s.data.toList = false ∧ ∃ p, err = .iface 103 p)) ∧ Below w.heap.size w w' := by
  have hbw : ∀ w', (w' = w ∨ ∃ t, w' = Lib.bytesWorld w 5 t) → Below w.heap.size w w' := by
    rintro w' (rfl | ⟨t, rfl⟩)
    · exact Below.refl _ _
    · exact Lib.bytesWorld_below w _ t
  unfold atoiN atoiOk
  rcases h : Lib.atoiAll s.data.toList with v | _ | _
  · skip
    refine (Tryd.strconv_Atoi_ok s (by omega) v h w).mono ?_
    rintro e w' ⟨rfl, hw⟩
    exact ⟨_, rfl, .inl ⟨rfl, rfl⟩, hbw w' hw⟩
  · skip
    obtain ⟨tp, p, hv⟩ := hE.syn
    refine (Tryd.strconv_Atoi_syntax_var s hs h tp p w hv).mono ?_
    rintro e w' ⟨N, rfl, _, _, hb⟩
    exact ⟨_, rfl, .inr ⟨rfl, _, rfl⟩, hb⟩
  · skip
    obtain ⟨tp, p, hv⟩ := hE.rng
    refine (Tryd.strconv_Atoi_range_var s hs h tp p w hv).mono ?_
    rintro e w' ⟨N, rfl, _, _, hb⟩
    exact ⟨_, rfl, .inr ⟨rfl, _, rfl⟩, hb⟩

/-- A slice of bytes of the call's own. -/
def OwnY (w : World) (B : Nat) (a : Option Addr) (n cap : Nat) (l : List UInt8) : Prop := n = l.length ∧ w.ownsRow B 5 1 (.slice a n cap) n (Lib.byteCells l)
namespace OwnY
variable {w w' : World} {B : Nat} {a : Option Addr} {n cap : Nat} {l : List UInt8}
theorem nil (w : World) (B : Nat) : OwnY w B none 0 0 [] := ⟨rfl, World.ownsRow_nil _ _ _ _⟩
theorem len (h : OwnY w B a n cap l) : n = l.length := h.1
theorem below (h : OwnY w B a n cap l) (hb : Below w.heap.size w w') : OwnY w' B a n cap l := ⟨h.1, ownsRow_below h.2 hb⟩
theorem lt (h : OwnY w B a n cap l) : ∀ q, (Value.slice a n cap).ownBlock = some q → B ≤ q ∧ q < w.heap.size := h.2.lt
theorem mono {B' : Nat} (h : OwnY w B a n cap l) (hB : B' ≤ B) : OwnY w B' a n cap l := by
  refine ⟨h.1, h.2.1, ?_⟩
  rcases h.2.2 with h0 | ⟨g, cap', cur, hv, hb, hrest⟩
  · exact .inl h0
  · exact .inr ⟨g, cap', cur, hv, Nat.le_trans hB hb, hrest⟩
end OwnY
section
variable {ops : Array Oper} {rest : List Oper} {o : Oper} {act : Act} {Q : Exit → Act → World → Prop} {w w0 : World} {B : Nat} {a : Option Addr} {n cap b : Nat} {l : List UInt8} {y : UInt8} {s : ByteArray}
theorem wpList_appY (hgd : o.guard = none) (os ox : Operand) (ho : o.op = .call { callee := .builtin .append, args := #[os, ox], argTypes := #[48, 48] })
    (hs : act.eval os = .slice a n cap) (hx : act.eval ox = .slice (some ⟨b, 0, none⟩) 1 1) (hown : OwnY w B a n cap l) (hy : w.cell? ⟨b, 0, none⟩ = some (.int .u8 y.toNat)) (hn : n + 1 ≤ 140737488355328) (hB : B ≤ w.heap.size) (hb : Below B w0 w)
    (h : ∀ a' c' w', OwnY w' B a' (n + 1) c' (l ++ [y]) → Below B w0 w' → w.grownBy w' (Value.slice a n cap).ownBlock → ((Value.slice a' (n + 1) c').ownBlock = (Value.slice a n cap).ownBlock ∨ (Value.slice a' (n + 1) c').ownBlock = some w.heap.size) → wpList Tryd.prog ops Q rest (act.put o.dst (.slice a' (n + 1) c')) w') :
    wpList Tryd.prog ops Q (o :: rest) act w := by
  obtain ⟨i0, hi, hz0, hz1, hz2⟩ := info_parts Tryd.infoByte
  have hlt := hown.lt
  refine wpList_append_own_at _ hgd os ox 48 ho B 5 i0 (.int .u8 0) 1 1 Tryd.underlying48 hi hz0 hz1 hz2 rfl (by decide) _ _ _ hs hown.2 ⟨b, 0, none⟩ 1 1 [.int .u8 y.toNat] hx rfl
    (fun j u hj => by
      match j, hj with
      | 0, hj => simp at hj; subst hj; exact hy) (by simp [Value.oneCell']) (by unfold maxLen; omega) (by omega) hB ?_
  intro v' w' h1 h2 _ h4
  obtain ⟨a', c', rfl⟩ : ∃ a' c', v' = .slice a' (n + 1) c' := by
    rcases h1.2 with ⟨rfl, h0⟩ | ⟨g, cap', cur, rfl, _⟩
    · omega
    · exact ⟨_, _, rfl⟩
  exact h a' c' w' ⟨by rw [List.length_append, ← hown.1]; rfl, by rw [show Lib.byteCells (l ++ [y]) = Lib.byteCells l ++ [.int .u8 y.toNat] by simp [Lib.byteCells]]; exact h1⟩ (hb.grown h2 hB (fun j hj => (hlt j hj).1)) h2 h4
theorem wpList_appStr (hgd : o.guard = none) (os ox : Operand) (ho : o.op = .call { callee := .builtin .append, args := #[os, ox], argTypes := #[48, 9] })
    (hs : act.eval os = .slice a n cap) (hx : act.eval ox = .string s) (hown : OwnY w B a n cap l) (hn : n + s.size ≤ 140737488355328) (hB : B ≤ w.heap.size) (hb : Below B w0 w)
    (h : ∀ a' c' w', OwnY w' B a' (n + s.size) c' (l ++ s.data.toList) → Below B w0 w' → w.grownBy w' (Value.slice a n cap).ownBlock → wpList Tryd.prog ops Q rest (act.put o.dst (.slice a' (n + s.size) c')) w') :
    wpList Tryd.prog ops Q (o :: rest) act w := by
  obtain ⟨i0, hi, hz0, hz1, hz2⟩ := info_parts Tryd.infoByte
  have hlt := hown.lt
  refine Lib.wpList_append_own_string _ hgd os ox 48 9 ho B 5 i0 Tryd.underlying48 Tryd.underlying9 hi hz0 hz1 hz2 _ _ _ hs hown.2 s hx (by unfold maxLen; omega) (by omega) hB ?_
  intro v' w' h1 h2 _
  obtain ⟨a', c', rfl⟩ : ∃ a' c', v' = .slice a' (n + s.size) c' := by
    rcases h1.2 with ⟨rfl, h0⟩ | ⟨g, cap', cur, rfl, _⟩
    · exact ⟨none, 0, by rw [h0]⟩
    · exact ⟨_, _, rfl⟩
  have hc : Lib.byteCells (l ++ s.data.toList) = Lib.byteCells l ++ Lib.strCells s := by
    rw [Lib.byteCells, List.map_append]; rfl
  exact h a' c' w' ⟨by rw [List.length_append, ← hown.1]; simp, by rw [hc]; exact h1⟩ (hb.grown h2 hB (fun j hj => (hlt j hj).1)) h2
end
end Go.Proofs.YtancjkaoocgeeaaDoor
