/- Appending a string's bytes: where the row lies. -/
import Derived.Test.YtancjkaoocgeeaaDoorCEnv
namespace Go.Proofs.YtancjkaoocgeeaaDoor
open Go.RowKit Go.Shelf

theorem run_append_str_at {P : Program} (w : World) (base : Nat) (t u ty e : TypeId) (i : TypeInfo) (ht : P.underlying t = some (.slice e)) (hu : P.underlying u = some .string) (hi : P.info? e = some i) (hz : i.zero = some (.int .u8 0))
    (hsize : i.size = 1) (hby : i.bytes = 1) (v : Value) (n : Nat) (xs : List Value) (hown : w.ownsRow base e 1 v n xs) (s : ByteArray)
    (h63 : n + s.size ≤ maxLen) (hbytes : n + s.size ≤ 140737488355328) (hbase : base ≤ w.heap.size) :
    ∃ v' w', (Builtin.append_ #[t, u] ty #[v, .string s]).run P w = .ok v' w' ∧ w'.ownsRow base e 1 v' (n + s.size) (xs ++ Lib.strCells s) ∧ w.grownBy w' v.ownBlock ∧ (v'.ownBlock = v.ownBlock ∨ v'.ownBlock = some w.heap.size) := by
  obtain ⟨v', w', hr, h1, h2, h3⟩ := Lib.run_append_own_string (P := P) w base t u ty e i ht hu hi hz hsize hby v n xs hown s h63 hbytes hbase
  refine ⟨v', w', hr, h1, h2, ?_⟩
  have hxl : xs.length = n := by simpa using hown.1
  have hsmall : n + s.size ≤ 9223372036854775807 := by simp only [maxLen] at h63; omega
  rcases hown.2 with ⟨rfl, rfl⟩ | ⟨g, cap, cur, rfl, hbg, hg, hnc, hcm, hcs, htake⟩
  · by_cases hm : s.size = 0
    · left; rw [h3.2 ⟨rfl, hm⟩]
    · have hr2 := run_append_nil_string (P := P) w t u ty e i (.int .u8 0) ht hu hi hz s (by omega) (by omega) (by rw [hby]; omega)
      rw [hr] at hr2
      injection hr2 with e1 _
      right; rw [e1]; rfl
  · by_cases hroom : n + s.size ≤ cap
    · have hcs' : cur.size = cap := by simpa using hcs
      have hr2 := Lib.run_append_room_string (P := P) w t u ty e i ht hu hi hsize g n cap cur hg s hroom (by omega)
      rw [hr] at hr2
      injection hr2 with e1 _
      left; rw [e1]; rfl
    · have holds : ∀ j u, xs[j]? = some u → w.cell? ((⟨g, 0, none⟩ : Addr).add j) = some u := hown.cells (g := g) rfl
      have hr2 := Lib.run_append_grow_string (P := P) w t u ty e i (.int .u8 0) ht hu hi hz ⟨g, 0, none⟩ n cap xs (by rw [hsize]; simpa using hxl) holds s (by omega) (by omega) (by rw [hby]; exact growslice_fits (by omega) (by omega))
      rw [hr] at hr2
      injection hr2 with e1 _
      right; rw [e1]; rfl
section
variable {ops : Array Oper} {rest : List Oper} {o : Oper} {act : Act} {Q : Exit → Act → World → Prop} {w w0 : World} {B : Nat} {a : Option Addr} {n cap : Nat} {l : List UInt8} {s : ByteArray}
theorem wpList_appStrAt (hgd : o.guard = none) (os ox : Operand) (ho : o.op = .call { callee := .builtin .append, args := #[os, ox], argTypes := #[48, 9] })
    (hs : act.eval os = .slice a n cap) (hx : act.eval ox = .string s) (hown : OwnY w B a n cap l) (hn : n + s.size ≤ 140737488355328) (hB : B ≤ w.heap.size) (hb : Below B w0 w)
    (h : ∀ a' c' w', OwnY w' B a' (n + s.size) c' (l ++ s.data.toList) → Below B w0 w' → w.grownBy w' (Value.slice a n cap).ownBlock → ((Value.slice a' (n + s.size) c').ownBlock = (Value.slice a n cap).ownBlock ∨ (Value.slice a' (n + s.size) c').ownBlock = some w.heap.size) → wpList Tryd.prog ops Q rest (act.put o.dst (.slice a' (n + s.size) c')) w') :
    wpList Tryd.prog ops Q (o :: rest) act w := by
  obtain ⟨i0, hi, hz0, hz1, hz2⟩ := info_parts Tryd.infoByte
  have hlt := hown.lt
  refine wpList_plain hgd fun K hK => ?_
  obtain ⟨v', w', hr, h1, h2, h4⟩ := run_append_str_at (P := Tryd.prog) w B 48 9 o.type 5 i0 Tryd.underlying48 Tryd.underlying9 hi hz0 hz1 hz2 _ _ _ hown.2 s (by unfold maxLen; omega) hn hB
  obtain ⟨a', c', rfl⟩ : ∃ a' c', v' = .slice a' (n + s.size) c' := by
    rcases h1.2 with ⟨rfl, h0⟩ | ⟨g, cap', cur, rfl, _⟩
    · exact ⟨none, 0, by rw [h0]⟩
    · exact ⟨_, _, rfl⟩
  unfold Oper.wp execOp
  simp only [ho, resolve, invoke, builtin, Sem.run_bind, Sem.run_pure, Result.andThen_ok, List.map_toArray, List.map_cons, List.map_nil, hs, hx, hr]
  have hc : Lib.byteCells (l ++ s.data.toList) = Lib.byteCells l ++ Lib.strCells s := by
    rw [Lib.byteCells, List.map_append]; rfl
  exact hK _ _ (h a' c' w' ⟨by rw [List.length_append, ← hown.1]; simp, by rw [hc]; exact h1⟩ (hb.grown h2 hB (fun j hj => (hlt j hj).1)) h2 h4)
end
/-- Blocks that are not the slice's own. -/
abbrev Oth (a : Option Addr) (n cap : Nat) : Nat → Prop := fun b => (Value.slice a n cap).ownBlock ≠ some b
/-- From (a n cap, w) to (a' n' cap', w') only the slice's own row was turned. -/
structure Grew (B : Nat) (a : Option Addr) (n cap : Nat) (w : World) (a' : Option Addr) (n' cap' : Nat) (w' : World) : Prop where
  below : Below B w w'
  keep : KeepS (Oth a n cap) w w'
  own : ∀ q, (Value.slice a' n' cap').ownBlock = some q → (Value.slice a n cap).ownBlock = some q ∨ w.heap.size ≤ q
namespace Grew
variable {B : Nat} {a a' a'' : Option Addr} {n cap n' cap' n'' cap'' : Nat} {w w' w'' : World}
theorem refl (B : Nat) (a : Option Addr) (n cap : Nat) (w : World) : Grew B a n cap w a n cap w := ⟨Below.refl _ _, KeepS.refl _ _, fun _ h => .inl h⟩
theorem trans (h : Grew B a n cap w a' n' cap' w') (k : Grew B a' n' cap' w' a'' n'' cap'' w'') : Grew B a n cap w a'' n'' cap'' w'' := by
  refine ⟨h.below.trans k.below, ⟨Nat.le_trans h.keep.1 k.keep.1, fun b cs t fr hs hb => k.keep.2 b cs t fr (fun e => ?_) (h.keep.2 b cs t fr hs hb)⟩, fun q hq => ?_⟩
  · have hlt := (Array.getElem?_eq_some_iff.1 hb).1
    rcases h.own b e with h1 | h1
    · exact hs h1
    · omega
  · rcases k.own q hq with h1 | h1
    · exact h.own q h1
    · right; exact Nat.le_trans h.keep.1 h1
theorem of_below (hb : Below w.heap.size w w') (hB : B ≤ w.heap.size) : Grew B a n cap w a n cap w' := ⟨hb.mono hB, .below hb, fun _ h => .inl h⟩
theorem of_grown (hb : Below B w w') (hg : w.grownBy w' (Value.slice a n cap).ownBlock) (hat : (Value.slice a' n' cap').ownBlock = (Value.slice a n cap).ownBlock ∨ (Value.slice a' n' cap').ownBlock = some w.heap.size) : Grew B a n cap w a' n' cap' w' :=
  ⟨hb, .grown hg (fun r e hs => hs e), fun q hq => by
    rcases hat with e | e
    · left; rw [← e]; exact hq
    · right; rw [e] at hq; cases hq; exact Nat.le_refl _⟩
end Grew
end Go.Proofs.YtancjkaoocgeeaaDoor
