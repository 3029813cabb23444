/- From the reading of an argument to nodes; from the condition on the variables to TEnv. -/
import Derived.Test.YtbjanlmnmeegnaaDoorTLw
import Derived.Test.YtbjanlmnmeegnaaDoorTie
import Derived.ProofKit
import Derived.Deep.Slices
import Derived.Deep.Fields
import Derived.ChangeSame
import Derived.SizedLaws
import Derived.LaidMore
import Derived.Stop.Joined
import Derived.OpenShut
namespace Go.Proofs.YtbjanlmnmeegnaaDoor
open Go.RowKit Go.ChangeShapes Go.WideShapes Go.Deep

theorem list_of {α : Type} (d : α) (R : Nat → α → Prop) : ∀ n : Nat, (∀ i, i < n → ∃ x, R i x) → ∃ l : List α, l.length = n ∧ ∀ i, i < n → R i (l[i]?.getD d)
  | 0, _ => ⟨[], rfl, fun i hi => by omega⟩
  | n + 1, h => by
    obtain ⟨l, hl, hR⟩ := list_of d R n (fun i hi => h i (by omega))
    obtain ⟨x, hx⟩ := h n (by omega)
    refine ⟨l ++ [x], by simp [hl], fun i hi => ?_⟩
    by_cases e : i < n
    · rw [List.getElem?_append_left (by omega)]; exact hR i e
    · obtain rfl : i = l.length := by omega
      rw [List.getElem?_append_right (Nat.le_refl _)]; simpa [hl] using hx
theorem addr_plain {w : World} {x : Addr} {v : Value} (h : w.cell? (x.add 0) = some v) : ∃ b off, x = ⟨b, off, none⟩ := by
  obtain ⟨b, off, spot⟩ := x
  have hspot : spot = none := by simpa [Addr.add] using World.cell?_spot h
  exact ⟨b, off, by rw [hspot]⟩
theorem four {α : Type} {l : List α} (h : l.length = 4) : ∃ a b c d, l = [a, b, c, d] := by
  match l, h with
  | [a, b, c, d], _ => exact ⟨a, b, c, d, rfl⟩
section
variable {H : Type} {enc : TypeId × Value → H} {w : World} {base : Nat} {held : Bool} {spare : Nat → Bool}
theorem weightsAll_mem {P : Program} {e : TypeId} : ∀ {ds : List (DataW H)} {d : DataW H}, d ∈ ds → ∀ n ∈ d.weights P e, n ∈ DataW.weightsAll P e ds
  | d0 :: r, d, hd, n, hn => by
    rw [DataW.weightsAll, List.mem_append]
    rcases List.mem_cons.1 hd with rfl | hd
    · exact .inl hn
    · exact .inr (weightsAll_mem hd n hn)
theorem byt24 : Tryd.prog.bytesOf 37 = 56 := by kernel_rfl
theorem cel24 : Tryd.prog.cellsOf 37 = 4 := by kernel_rfl
theorem cel3 : Tryd.prog.cellsOf 3 = 1 := by kernel_rfl
theorem cel9 : Tryd.prog.cellsOf 9 = 1 := by kernel_rfl
theorem cel22 : Tryd.prog.cellsOf 22 = 1 := by kernel_rfl
/-- A slice of values, given its items' readings. -/
theorem open_vals_of {fuel : Nat} {c : Value} {x : DataW H × List MemPlace} (h : DataW.trod enc Tryd.prog w base spare held fuel 22 [c] = some x) (hw : ∀ k ∈ DataW.weights Tryd.prog 22 x.1, k ≤ reachBytes)
    (ih : ∀ n, n < fuel → ∀ (cs : List Value) (y : DataW H × List MemPlace), DataW.trod enc Tryd.prog w base spare held n 37 cs = some y → (∀ k ∈ DataW.weights Tryd.prog 37 y.1, k ≤ reachBytes) → ∃ v : Vl, cs = v.cells.toList ∧ Rd (fun b => b < w.heap.size) w v) :
    ∃ a n cap l, c = .slice a n cap ∧ Vals (fun b => b < w.heap.size) w a n cap l ∧ (a = none → n = 0 ∧ cap = 0) := by
  rcases DataW.trod_slice Tryd.underlying22 h with ⟨hcs, _⟩ | ⟨a, len, cap, elems, rest, n, rfl, hcs, rfl, hb, hl, hm, hel, hat, _, _⟩
  · obtain rfl : c = .slice none 0 0 := by simpa using hcs
    exact ⟨none, 0, 0, [], rfl, Vals.nil _ _, fun _ => ⟨rfl, rfl⟩⟩
  · obtain rfl : c = .slice (some a) len cap := by simpa using hcs
    rw [cel24] at hat
    have hsz : len * 56 ≤ 140737488355328 := by
      have := hw ((elems.length + rest.length) * 56) (by simp [DataW.weights, Tryd.underlying22, byt24])
      have h9 : reachBytes = 140737488351232 := rfl
      rw [hel] at this
      omega
    obtain ⟨l, hll, hR⟩ := list_of (vT ⟨#[]⟩) (fun i (v : Vl) => (w.cell? (a.add (i * 4)) = some (.int .i64 v.kind) ∧ w.cell? ((a.add (i * 4)).add 1) = some (.string v.text) ∧ w.cell? ((a.add (i * 4)).add 2) = some (.int .i64 v.num) ∧ w.cell? ((a.add (i * 4)).add 3) = some v.sl) ∧ Rd (fun b => b < w.heap.size) w v) len (fun i hi => by
      obtain ⟨y, hy⟩ : ∃ y, elems[i]? = some y := ⟨_, List.getElem?_eq_getElem (by omega)⟩
      have h1 := hat i hi
      rw [hy] at h1
      obtain ⟨cs', hc, ht⟩ := Option.bind_eq_some_iff.1 h1
      obtain ⟨v, rfl, hv⟩ := ih n (by omega) cs' y ht (fun k hk => hw k (by
        simp only [DataW.weights, Tryd.underlying22, List.mem_cons, List.mem_append]
        exact .inr (.inl (weightsAll_mem (List.mem_map.2 ⟨y, List.mem_of_getElem? hy, rfl⟩) k hk))))
      obtain ⟨_, _, hcl⟩ := World.cells?_some hc
      have a0 := hcl 0 (by omega)
      have a1 := hcl 1 (by omega)
      have a2 := hcl 2 (by omega)
      have a3 := hcl 3 (by omega)
      refine ⟨v, ⟨?_, a1, a2, a3⟩, hv⟩
      have : (a.add (i * 4)).add 0 = a.add (i * 4) := by rw [add_add, Nat.add_zero]
      rw [this] at a0; exact a0)
    refine ⟨some a, len, cap, l, rfl, ⟨hll.symm, hl, hsz, fun j v hj => ?_⟩, fun e => by cases e⟩
    have hjl : j < len := by rw [← hll]; exact (List.getElem?_eq_some_iff.1 hj).1
    have hRj := hR j hjl
    rw [hj] at hRj
    change (w.cell? _ = some (.int .i64 v.kind) ∧ w.cell? _ = some (.string v.text) ∧ w.cell? _ = some (.int .i64 v.num) ∧ w.cell? _ = some v.sl) ∧ _ at hRj
    obtain ⟨⟨c0, c1, c2, c3⟩, hr⟩ := hRj
    obtain ⟨b, off, rfl⟩ := addr_plain (w := w) (x := a) (v := .int .i64 (l[0]?.getD (vT ⟨#[]⟩)).kind) (by have := (hR 0 (by omega)).1.1; rwa [Nat.zero_mul] at this)
    rw [Addr.add_lit] at c0 c1 c2 c3
    rw [Addr.add_lit] at c1 c2 c3
    exact ⟨⟨b, off, rfl, World.block_lt_of_cell? _ _ c0, c0, c1, c2, c3⟩, hr⟩
set_option maxRecDepth 100000 in
theorem open_val : ∀ (fuel : Nat) (cs : List Value) (x : DataW H × List MemPlace), DataW.trod enc Tryd.prog w base spare held fuel 37 cs = some x → (∀ k ∈ DataW.weights Tryd.prog 37 x.1, k ≤ reachBytes) →
    ∃ v : Vl, cs = v.cells.toList ∧ Rd (fun b => b < w.heap.size) w v := by
  intro fuel
  induction fuel using Nat.strongRecOn with
  | _ fuel ih =>
    intro cs x h hw
    obtain ⟨xs, n, rfl, rfl, hl, hlen, hf⟩ := DataW.trod_struct Tryd.underlying37 h
    rw [cel24] at hl
    have hlen4 : xs.length = 4 := hlen
    obtain ⟨c0, c1, c2, c3, rfl⟩ := four hl
    obtain ⟨y0, y1, y2, y3, rfl⟩ := four hlen4
    clear hl hlen hlen4
    have g0 := hf 0 _ rfl
    have g1 := hf 1 _ rfl
    have g2 := hf 2 _ rfl
    have g3 := hf 3 _ rfl
    simp only [List.getElem?_cons_zero, List.getElem?_cons_succ] at g0 g1 g2 g3
    obtain ⟨n0, e0, _, w0⟩ := DataW.trod_int Tryd.underlying3 g0
    obtain ⟨t, e1, hy2, w2⟩ := DataW.trod_string Tryd.underlying9 g1
    obtain ⟨n1, e2, _, w1⟩ := DataW.trod_int Tryd.underlying3 g2
    have hwe : ∀ k, (k ∈ DataW.weights Tryd.prog 9 y1.1 ∨ k ∈ DataW.weights Tryd.prog 22 y3.1) → k ≤ reachBytes := fun k hk => hw k (by
      simp only [DataW.weights, Tryd.underlying37, List.map_cons, List.map_nil, DataW.weightsEach, List.mem_append]
      rcases hk with hk | hk
      · exact .inr (.inl hk)
      · exact .inr (.inr (.inr (.inl hk))))
    obtain ⟨a, m, cap, l, rfl, hv, -⟩ := open_vals_of g3 (fun k hk => hwe k (.inr hk)) (fun k hk => ih k (by omega))
    have ht : t.size ≤ 140737488355328 := by
      have := hwe t.data.toList.length (.inl (by rw [hy2]; simp [DataW.weights]))
      have h9 : reachBytes = 140737488351232 := rfl
      have h8 : t.data.toList.length = t.size := Array.length_toList
      omega
    change [c0] = [_] at e0
    change [c1] = [_] at e1
    change [c2] = [_] at e2
    cases e0
    cases e1
    cases e2
    have hm : m = l.length := hv.1
    subst hm
    exact ⟨.mk n0 n1 t a cap l, rfl, rd_iff.2 ⟨I64.of_wf w0, I64.of_wf w1, ht, hv⟩⟩
theorem open_vals {fuel : Nat} {c : Value} {x : DataW H × List MemPlace} (h : DataW.trod enc Tryd.prog w base spare held fuel 22 [c] = some x) (hw : ∀ k ∈ DataW.weights Tryd.prog 22 x.1, k ≤ reachBytes) :
    ∃ a n cap l, c = .slice a n cap ∧ Vals (fun b => b < w.heap.size) w a n cap l ∧ (a = none → n = 0 ∧ cap = 0) :=
  open_vals_of h hw (fun n _ cs y => open_val n cs y)
end
/-- The variables, as the row lists them. -/
def laid4 : List (String × DataW Unit) := [("math/bits.deBruijn32tab", Rows.laid_math_bits_deBruijn32tab), ("math/bits.deBruijn64tab", Rows.laid_math_bits_deBruijn64tab), ("internal/strconv.uint64pow10", Rows.laid_internal_strconv_uint64pow10), ("apograph/transcript.forms", Rows.laid_apograph_transcript_forms)]
theorem door_met (os : Os) (args : Array Value) : laidMetH Tryd.prog laid4 ((World.doorLaid Tryd.prog 65 os).forCall (fun _ _ => 0) ⟨#[], args, []⟩).memory :=
  laidMetH_of_parts3 (fuel := 8) (laidMet_of_run' 8 (by kernel_rfl) (by kernel_rfl)) (by kernel_rfl) (by kernel_rfl)
theorem pow10_data : (Rows.laid_internal_strconv_uint64pow10 : DataW Unit) = Lib.tabData .u64 Lib.pow10Tab := by rfl
def formD (x : ByteArray × Bool × Bool × Bool) : DataW Unit := .agg [.lit (.string x.1.data.toList), .lit (.bool x.2.1), .lit (.bool x.2.2.1), .lit (.bool x.2.2.2)]
def formC (x : ByteArray × Bool × Bool × Bool) : List Value := [.string x.1, .bool x.2.1, .bool x.2.2.1, .bool x.2.2.2]
theorem forms_data : (Rows.laid_apograph_transcript_forms : DataW Unit) = .agg (formsL.map formD) := by rfl
theorem cel46 : Tryd.prog.cellsOf 46 = 4 := by kernel_rfl
theorem cel47 : Tryd.prog.cellsOf 47 = 48 := by kernel_rfl
theorem cel4 : Tryd.prog.cellsOf 4 = 1 := by kernel_rfl
theorem str_of {s : ByteArray} {l : List UInt8} (h : s.data.toList = l) : s = ⟨l.toArray⟩ := by
  subst h
  obtain ⟨⟨l⟩⟩ := s
  rfl
theorem form_of {W : World} {enc : TypeId × Value → Unit} {base : Nat} {sp : Nat → Bool} {held : Bool} {fuel : Nat} {cs : List Value} {x : ByteArray × Bool × Bool × Bool} {p : List MemPlace} (h : DataW.trod enc Tryd.prog W base sp held fuel 46 cs = some (formD x, p)) : cs = formC x := by
  obtain ⟨xs, n, rfl, hx, hl, hlen, hf⟩ := DataW.trod_struct Tryd.underlying46 h
  rw [cel46] at hl
  have hlen4 : xs.length = 4 := hlen
  obtain ⟨c0, c1, c2, c3, rfl⟩ := four hl
  obtain ⟨y0, y1, y2, y3, rfl⟩ := four hlen4
  have g0 := hf 0 _ rfl
  have g1 := hf 1 _ rfl
  have g2 := hf 2 _ rfl
  have g3 := hf 3 _ rfl
  simp only [List.getElem?_cons_zero, List.getElem?_cons_succ] at g0 g1 g2 g3
  obtain ⟨s, e0, hy0, _⟩ := DataW.trod_string Tryd.underlying9 g0
  obtain ⟨b1, e1, hy1⟩ := DataW.trod_bool Tryd.underlying4 g1
  obtain ⟨b2, e2, hy2⟩ := DataW.trod_bool Tryd.underlying4 g2
  obtain ⟨b3, e3, hy3⟩ := DataW.trod_bool Tryd.underlying4 g3
  change [c0] = [_] at e0
  change [c1] = [_] at e1
  change [c2] = [_] at e2
  change [c3] = [_] at e3
  cases e0; cases e1; cases e2; cases e3
  subst hy0 hy1 hy2 hy3
  have hd := congrArg Prod.fst hx
  simp [formD] at hd
  obtain ⟨h0, h1, h2, h3⟩ := hd
  obtain ⟨xs, xb1, xb2, xb3⟩ := x
  simp only at h0 h1 h2 h3
  subst h1 h2 h3
  have : s = xs := by
    obtain ⟨d⟩ := s
    obtain ⟨d'⟩ := xs
    have : d = d' := by first | exact h0 | exact h0.symm
    rw [this]
  rw [this]; rfl
theorem chunks4 : ∀ (L : List (ByteArray × Bool × Bool × Bool)) (cs : List Value), cs.length = L.length * 4 → (∀ i x, L[i]? = some x → (cs.drop (i * 4)).take 4 = formC x) → cs = L.flatMap formC
  | [], cs, hl, _ => List.eq_nil_of_length_eq_zero (by simpa using hl)
  | x :: L, cs, hl, h => by
    have h0 := h 0 x rfl
    rw [Nat.zero_mul, List.drop_zero] at h0
    have ih := chunks4 L (cs.drop 4) (by rw [List.length_drop, hl, List.length_cons]; omega) (fun i y hy => by
      have := h (i + 1) y (by simpa using hy)
      rw [List.drop_drop, show 4 + i * 4 = (i + 1) * 4 by omega]; exact this)
    rw [List.flatMap_cons, ← ih, ← h0, List.take_append_drop]
theorem forms_of {W : World} {enc : TypeId × Value → Unit} {base : Nat} {sp : Nat → Bool} {held : Bool} {fuel : Nat} {cs : List Value} {p : List MemPlace} (h : DataW.trod enc Tryd.prog W base sp held fuel 47 cs = some (.agg (formsL.map formD), p)) : cs = formsL.flatMap formC := by
  obtain ⟨xs, m, rfl, hx, hl, hlen, hf⟩ := DataW.trod_array Tryd.underlying47 h
  rw [cel47] at hl
  have hd : formsL.map formD = xs.map (·.1) := by
    have := congrArg Prod.fst hx
    simpa using this
  refine chunks4 formsL cs (by rw [hl]; rfl) (fun i x hi => ?_)
  have hi12 : i < 12 := (List.getElem?_eq_some_iff.1 hi).1
  have hr := hf i hi12
  rw [cel46] at hr
  obtain ⟨y, hy⟩ : ∃ y, xs[i]? = some y := ⟨_, List.getElem?_eq_getElem (by omega)⟩
  have hyd : y.1 = formD x := by
    have := congrArg (·[i]?) hd
    simp only [List.getElem?_map, hi, hy, Option.map_some, Option.some.injEq] at this
    exact this.symm
  rw [hy] at hr
  obtain ⟨y1, y2⟩ := y
  cases hyd
  exact form_of hr
theorem env_of_laid {W : World} (h : laidMetH Tryd.prog laid4 W) : TEnv W := by
  rw [MakeChecks.laidMetH_plain _ _ _ (by kernel_rfl)] at h
  obtain ⟨ps, ⟨g0, t0, cs0, f0, p0, q0, -, -, -, -, ⟨g1, t1, cs1, f1, p1, q1, -, -, -, -, ⟨g2, t2, cs2, f2, p2, q2, hg2, ht2, hv2, hd2, ⟨g3, t3, cs3, f3, p3, q3, hg3, ht3, hv3, hd3, -, -⟩, -⟩, -⟩, -⟩, -⟩ := h
  obtain rfl := Option.some.inj ((show Tryd.prog.globalNamed "internal/strconv.uint64pow10" = some 2 by kernel_rfl).symm.trans hg2)
  obtain rfl := Option.some.inj ((show Tryd.prog.globalNamed "apograph/transcript.forms" = some 0 by kernel_rfl).symm.trans hg3)
  obtain rfl := Option.some.inj ((show (Tryd.prog.globals[2]?).map (·.type) = some 94 by kernel_rfl).symm.trans ht2)
  obtain rfl := Option.some.inj ((show (Tryd.prog.globals[0]?).map (·.type) = some 47 by kernel_rfl).symm.trans ht3)
  refine ⟨?_, ?_⟩
  · rw [pow10_data] at hd2
    unfold Lib.TabIs
    rw [hv2, ← Lib.cells_of_tab Tryd.underlying94 Tryd.underlying87 (by kernel_rfl) (by kernel_rfl) hd2]
  · rw [forms_data] at hd3
    rw [hv3]
    have := forms_of hd3
    show some cs3 = some (formsL.flatMap formC).toArray
    rw [← this]
end Go.Proofs.YtbjanlmnmeegnaaDoor
