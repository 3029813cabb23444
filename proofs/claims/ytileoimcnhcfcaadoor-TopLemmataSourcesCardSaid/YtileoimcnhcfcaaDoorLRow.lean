/- From the reading of an argument to a collation, an operation; from the condition on the library's variables to Env (printed by gen_erow.py). -/
import Derived.Test.YtileoimcnhcfcaaDoorLLaw
import Derived.Test.YtileoimcnhcfcaaDoorTie
import Derived.ProofKit
import Derived.Deep.Slices
import Derived.Deep.Fields
import Derived.ChangeSame
import Derived.SizedLaws
import Derived.LaidMore
import Derived.Stop.Joined
namespace Go.Proofs.YtileoimcnhcfcaaDoor
open Go.RowKit Go.ChangeShapes Go.WideShapes Go.Deep

theorem list_of {α : Type} (d : α) (R : Nat → α → Prop) : ∀ n : Nat, (∀ i, i < n → ∃ x, R i x) → ∃ l : List α, l.length = n ∧ ∀ i, i < n → R i (l[i]?.getD d)
  | 0, _ => ⟨[], rfl, fun i hi => by omega⟩
  | n + 1, h => by
    obtain ⟨l, hl, hR⟩ := list_of d R n (fun i hi => h i (by omega))
    obtain ⟨x, hx⟩ := h n (by omega)
    refine ⟨l ++ [x], by simp [hl], fun i hi => ?_⟩
    by_cases e : i < n
    · rw [List.getElem?_append_left (by omega)]; exact hR i e
    · obtain rfl : i = l.length := by omega
      rw [List.getElem?_append_right (Nat.le_refl _)]; simpa [hl] using hx
theorem addr_plain {w : World} {x : Addr} {v : Value} (h : w.cell? (x.add 0) = some v) : ∃ b off, x = ⟨b, off, none⟩ := by
  obtain ⟨b, off, spot⟩ := x
  have hspot : spot = none := by simpa [Addr.add] using World.cell?_spot h
  exact ⟨b, off, by rw [hspot]⟩
theorem len_2 {α : Type} {l : List α} (h : l.length = 2) : ∃ a b, l = [a, b] := by
  match l, h with
  | [a, b], _ => exact ⟨a, b, rfl⟩
theorem len_4 {α : Type} {l : List α} (h : l.length = 4) : ∃ a b c d, l = [a, b, c, d] := by
  match l, h with
  | [a, b, c, d], _ => exact ⟨a, b, c, d, rfl⟩
theorem len_5 {α : Type} {l : List α} (h : l.length = 5) : ∃ a b c d e, l = [a, b, c, d, e] := by
  match l, h with
  | [a, b, c, d, e], _ => exact ⟨a, b, c, d, e, rfl⟩
theorem len_6 {α : Type} {l : List α} (h : l.length = 6) : ∃ a b c d e f, l = [a, b, c, d, e, f] := by
  match l, h with
  | [a, b, c, d, e, f], _ => exact ⟨a, b, c, d, e, f, rfl⟩
section
variable {H : Type} {enc : TypeId × Value → H} {w : World} {base : Nat} {held : Bool} {spare : Nat → Bool}
theorem weightsAll_mem {P : Program} {e : TypeId} : ∀ {ds : List (DataW H)} {d : DataW H}, d ∈ ds → ∀ n ∈ d.weights P e, n ∈ DataW.weightsAll P e ds
  | d0 :: r, d, hd, n, hn => by
    rw [DataW.weightsAll, List.mem_append]
    rcases List.mem_cons.1 hd with rfl | hd
    · exact .inl hn
    · exact .inr (weightsAll_mem hd n hn)

/-- What is to be shown at a type. -/
def Opn {α : Type} (enc : TypeId × Value → H) (w : World) (base : Nat) (spare : Nat → Bool) (held : Bool) (t : TypeId) (R : Rel α) : Prop :=
  ∀ (fuel : Nat) (cs : List Value) (x : DataW H × List MemPlace), DataW.trod enc Tryd.prog w base spare held fuel t cs = some x → (∀ k ∈ DataW.weights Tryd.prog t x.1, k ≤ reachBytes) → ∃ y : α, R (fun b => b < w.heap.size) w cs y
theorem opn_int : Opn enc w base spare held 3 rInt := by
  intro fuel cs x h hw
  obtain ⟨n, rfl, _, hwf⟩ := DataW.trod_int Tryd.underlying3 h
  exact ⟨n, rfl, I64.of_wf hwf⟩
theorem opn_text {t : TypeId} (hu : Tryd.prog.underlying t = some .string) : Opn enc w base spare held t rStr := by
  intro fuel cs x h hw
  obtain ⟨s, rfl, hx, _⟩ := DataW.trod_string hu h
  refine ⟨s, rfl, ?_⟩
  have := hw s.data.toList.length (by rw [hx]; simp [DataW.weights])
  have h9 : reachBytes = 140737488351232 := rfl
  have h8 : s.data.toList.length = s.size := Array.length_toList
  omega
theorem opn_slice {α : Type} [Inhabited α] {R : Rel α} {t e : TypeId} {k s : Nat} (hu : Tryd.prog.underlying t = some (.slice e)) (hk : Tryd.prog.cellsOf e = k) (hs : Tryd.prog.bytesOf e = s) (hk0 : 0 < k) (hR : Opn enc w base spare held e R) :
    Opn enc w base spare held t (rSl R k s) := by
  intro fuel cs x h hw
  rcases DataW.trod_slice hu h with ⟨hcs, _⟩ | ⟨a, len, cap, elems, rest, n, rfl, hcs, rfl, hb, hl, hm, hel, hat, _, _⟩
  · exact ⟨[], none, 0, 0, hcs, Sq.nil _ _ _ _ _⟩
  · rw [hk] at hat
    have hsz : len * s ≤ 140737488355328 := by
      have := hw ((elems.length + rest.length) * s) (by simp [DataW.weights, hu, hs])
      have h9 : reachBytes = 140737488351232 := rfl
      rw [hel] at this
      have h8 : len * s ≤ (len + rest.length) * s := Nat.mul_le_mul_right _ (by omega)
      omega
    obtain ⟨l, hll, hRl⟩ := list_of (default : α) (fun i (d : α) => ∃ cs : List Value, cs.length = k ∧ (∀ j y, cs[j]? = some y → w.cell? ((a.add (i * k)).add j) = some y) ∧ R (fun b => b < w.heap.size) w cs d) len (fun i hi => by
      obtain ⟨y, hy⟩ : ∃ y, elems[i]? = some y := ⟨_, List.getElem?_eq_getElem (by omega)⟩
      have h1 := hat i hi
      rw [hy] at h1
      obtain ⟨cs', hc, ht⟩ := Option.bind_eq_some_iff.1 h1
      obtain ⟨d, hd⟩ := hR n cs' y ht (fun k hk => hw k (by
        simp only [DataW.weights, hu, List.mem_cons, List.mem_append]
        exact .inr (.inl (weightsAll_mem (List.mem_map.2 ⟨y, List.mem_of_getElem? hy, rfl⟩) k hk))))
      obtain ⟨_, hlen, hcl⟩ := World.cells?_some hc
      refine ⟨d, cs', hlen, fun j y hj => ?_, hd⟩
      have hjk : j < k := by rw [← hlen]; exact (List.getElem?_eq_some_iff.1 hj).1
      rw [hcl j hjk, hj])
    refine ⟨l, some a, len, cap, hcs, hll.symm, hl, hsz, fun j d hj => ?_⟩
    have hjl : j < len := by rw [← hll]; exact (List.getElem?_eq_some_iff.1 hj).1
    obtain ⟨cs1, g1, g2, g3⟩ := hRl j hjl
    rw [hj] at g3
    obtain ⟨b, off, sp⟩ := a
    obtain ⟨y, hy⟩ : ∃ y, cs1[0]? = some y := ⟨_, List.getElem?_eq_getElem (by omega)⟩
    obtain ⟨cs0, e1, e2, _⟩ := hRl 0 (by omega)
    have g0 := e2 0 _ (List.getElem?_eq_getElem (by omega))
    rw [Nat.zero_mul] at g0
    have hsp : sp = none := by simpa [Addr.add] using World.cell?_spot g0
    subst hsp
    have h0 := g2 0 y hy
    rw [Addr.add_lit, Addr.add_lit] at h0
    refine ⟨b, off, cs1, rfl, World.block_lt_of_cell? _ _ h0, World.block_lt_of_cell? _ _ h0, g1, fun i y hi => ?_, g3⟩
    have := g2 i y hi
    rw [Addr.add_lit, Addr.add_lit] at this
    exact this
set_option maxRecDepth 100000 in
theorem opn_tok : Opn enc w base spare held 58 rTok := by
  intro fuel cs x h hw
  obtain ⟨xs, n, rfl, rfl, hl, hlen, hf⟩ := DataW.trod_struct Tryd.underlying58 h
  rw [show Tryd.prog.cellsOf 58 = 6 by kernel_rfl] at hl
  have hlen' : xs.length = 5 := hlen
  obtain ⟨c0, c1, c2, c3, c4, c5, rfl⟩ := len_6 hl
  obtain ⟨y0, y1, y2, y3, y4, rfl⟩ := len_5 hlen'
  clear hl hlen hlen'
  have g0 := hf 0 _ rfl
  have g1 := hf 1 _ rfl
  have g2 := hf 2 _ rfl
  have g3 := hf 3 _ rfl
  have g4 := hf 4 _ rfl
  simp only [List.getElem?_cons_zero, List.getElem?_cons_succ] at g0 g1 g2 g3 g4
  have hwe : ∀ k, (k ∈ DataW.weights Tryd.prog 9 y0.1 ∨ k ∈ DataW.weights Tryd.prog 9 y1.1 ∨ k ∈ DataW.weights Tryd.prog 56 y2.1 ∨ k ∈ DataW.weights Tryd.prog 3 y3.1 ∨ k ∈ DataW.weights Tryd.prog 9 y4.1) → k ≤ reachBytes := fun k hk => hw k (by
    simp only [DataW.weights, Tryd.underlying58, List.map_cons, List.map_nil, DataW.weightsEach, List.mem_append]
    rcases hk with hk | hk | hk | hk | hk
    · exact .inl hk
    · exact .inr (.inl hk)
    · exact .inr (.inr (.inl hk))
    · exact .inr (.inr (.inr (.inl hk)))
    · exact .inr (.inr (.inr (.inr (.inl hk)))))
  obtain ⟨s0, e0, z0⟩ := opn_text Tryd.underlying9 _ _ _ g0 (fun k hk => hwe k (.inl hk))
  obtain ⟨s1, e1, z1⟩ := opn_text Tryd.underlying9 _ _ _ g1 (fun k hk => hwe k (.inr (.inl hk)))
  obtain ⟨s4, e4, z4⟩ := opn_text Tryd.underlying9 _ _ _ g4 (fun k hk => hwe k (.inr (.inr (.inr (.inr hk)))))
  obtain ⟨n3, e3, z3⟩ := opn_int _ _ _ g3 (fun k hk => hwe k (.inr (.inr (.inr (.inl hk)))))
  obtain ⟨xp, np, rfl, ex, hlp, hlenp, hfp⟩ := DataW.trod_struct Tryd.underlying56 g2
  have hlenp' : xp.length = 2 := hlenp
  obtain ⟨w0, w1, rfl⟩ := len_2 hlenp'
  have p0 := hfp 0 _ rfl
  have p1 := hfp 1 _ rfl
  simp only [List.getElem?_cons_zero, List.getElem?_cons_succ] at p0 p1
  have hwp : ∀ k, (k ∈ DataW.weights Tryd.prog 9 w0.1 ∨ k ∈ DataW.weights Tryd.prog 3 w1.1) → k ≤ reachBytes := fun k hk => hwe k (.inr (.inr (.inl (by
    rw [ex]
    simp only [DataW.weights, Tryd.underlying56, List.map_cons, List.map_nil, DataW.weightsEach, List.mem_append]
    rcases hk with hk | hk
    · exact .inl hk
    · exact .inr (.inl hk)))))
  obtain ⟨s2, e2, z2⟩ := opn_text Tryd.underlying9 _ _ _ p0 (fun k hk => hwp k (.inl hk))
  obtain ⟨n2, e5, z5⟩ := opn_int _ _ _ p1 (fun k hk => hwp k (.inr hk))
  change [c0] = [_] at e0
  change [c1] = [_] at e1
  change [c2] = [_] at e2
  change [c3] = [_] at e5
  change [c4] = [_] at e3
  change [c5] = [_] at e4
  cases e0; cases e1; cases e2; cases e3; cases e4; cases e5
  exact ⟨⟨s0, s1, s2, n2, n3, s4⟩, rfl, z0, z1, z2, z5, z3, z4⟩
set_option maxRecDepth 100000 in
/-- A collation. -/
theorem opn_col {fuel : Nat} {cs : List Value} {x : DataW H × List MemPlace} (h : DataW.trod enc Tryd.prog w base spare held fuel 26 cs = some x) (hw : ∀ k ∈ DataW.weights Tryd.prog 26 x.1, k ≤ reachBytes) :
    ∃ (v : CV) (y : Col), cs = v.arr.toList ∧ RdC (fun b => b < w.heap.size) w v y := by
  obtain ⟨xs, n, rfl, rfl, hl, hlen, hf⟩ := DataW.trod_struct Tryd.underlying26 h
  rw [show Tryd.prog.cellsOf 26 = 4 by kernel_rfl] at hl
  have hlen' : xs.length = 4 := hlen
  obtain ⟨c0, c1, c2, c3, rfl⟩ := len_4 hl
  obtain ⟨y0, y1, y2, y3, rfl⟩ := len_4 hlen'
  clear hl hlen hlen'
  have g0 := hf 0 _ rfl
  have g1 := hf 1 _ rfl
  have g2 := hf 2 _ rfl
  have g3 := hf 3 _ rfl
  simp only [List.getElem?_cons_zero, List.getElem?_cons_succ] at g0 g1 g2 g3
  have hwe : ∀ k, (k ∈ DataW.weights Tryd.prog 9 y0.1 ∨ k ∈ DataW.weights Tryd.prog 22 y1.1 ∨ k ∈ DataW.weights Tryd.prog 23 y2.1 ∨ k ∈ DataW.weights Tryd.prog 24 y3.1) → k ≤ reachBytes := fun k hk => hw k (by
    simp only [DataW.weights, Tryd.underlying26, List.map_cons, List.map_nil, DataW.weightsEach, List.mem_append]
    rcases hk with hk | hk | hk | hk
    · exact .inl hk
    · exact .inr (.inl hk)
    · exact .inr (.inr (.inl hk))
    · exact .inr (.inr (.inr (.inl hk))))
  obtain ⟨s0, e0, z0⟩ := opn_text Tryd.underlying9 _ _ _ g0 (fun k hk => hwe k (.inl hk))
  obtain ⟨l1, a1, m1, d1, e1, z1⟩ := opn_slice Tryd.underlying22 (k := 1) (s := 16) (by kernel_rfl) (by kernel_rfl) (by decide) (opn_text Tryd.underlying9) _ _ _ g1 (fun k hk => hwe k (.inr (.inl hk)))
  obtain ⟨l2, a2, m2, d2, e2, z2⟩ := opn_slice Tryd.underlying23 (k := 1) (s := 24) (by kernel_rfl) (by kernel_rfl) (by decide) (opn_slice Tryd.underlying49 (k := 6) (s := 80) (by kernel_rfl) (by kernel_rfl) (by decide) opn_tok) _ _ _ g2 (fun k hk => hwe k (.inr (.inr (.inl hk))))
  obtain ⟨l3, a3, m3, d3, e3, z3⟩ := opn_slice Tryd.underlying24 (k := 1) (s := 24) (by kernel_rfl) (by kernel_rfl) (by decide) (opn_slice Tryd.underlying41 (k := 1) (s := 8) (by kernel_rfl) (by kernel_rfl) (by decide) opn_int) _ _ _ g3 (fun k hk => hwe k (.inr (.inr (.inr hk))))
  change [c0] = [_] at e0
  change [c1] = [_] at e1
  change [c2] = [_] at e2
  change [c3] = [_] at e3
  cases e0; cases e1; cases e2; cases e3
  exact ⟨⟨s0, a1, m1, d1, a2, m2, d2, a3, m3, d3⟩, ⟨s0, l1, l2, l3⟩, rfl, rfl, z0, z1, z2, z3⟩
end
/-- The library's variables, as every row of the seat lists them. -/
def laid5 : List (String × DataW Unit) := [("math/bits.deBruijn32tab", Rows.laid_math_bits_deBruijn32tab), ("math/bits.deBruijn64tab", Rows.laid_math_bits_deBruijn64tab), ("internal/strconv.uint64pow10", Rows.laid_internal_strconv_uint64pow10), ("strconv.ErrRange", Rows.laid_strconv_ErrRange), ("strconv.ErrSyntax", Rows.laid_strconv_ErrSyntax)]
theorem door_met (os : Os) (args : Array Value) : laidMetH Tryd.prog laid5 ((World.doorLaid Tryd.prog 62 os).forCall (fun _ _ => 0) ⟨#[], args, []⟩).memory :=
  laidMetH_of_parts3 (fuel := 8) (laidMet_of_run' 8 (by kernel_rfl) (by kernel_rfl)) (by kernel_rfl) (by kernel_rfl)
theorem pow10_data : (Rows.laid_internal_strconv_uint64pow10 : DataW Unit) = Lib.tabData .u64 Lib.pow10Tab := by rfl
theorem iface_of {P : Program} {W : World} {held : Bool} {fuel : Nat} {t : TypeId} {ms : Array (String × TypeId)} {cs : List Value} {nm : String} {d : DataW Unit} {p : List MemPlace} {enc : TypeId × Value → Unit} (ht : P.underlying t = some (.interface ms))
    (h : DataW.trod enc P W 0 (fun _ => true) held fuel t cs = some (.iface nm d, p)) : ∃ u v, cs = [.iface u v] := by
  cases fuel with
  | zero => simp [DataW.trod] at h
  | succ fuel =>
    unfold DataW.trod at h
    rw [ht] at h
    split at h <;> simp_all
theorem env_of_laid {W : World} (h : laidMetH Tryd.prog laid5 W) : Env W := by
  rw [MakeChecks.laidMetH_plain _ _ _ (by kernel_rfl)] at h
  obtain ⟨ps, ⟨g0, t0, cs0, f0, p0, q0, -, -, -, -, ⟨g1, t1, cs1, f1, p1, q1, -, -, -, -, ⟨g2, t2, cs2, f2, p2, q2, hg2, ht2, hv2, hd2, ⟨g3, t3, cs3, f3, p3, q3, hg3, ht3, hv3, hd3, ⟨g4, t4, cs4, f4, p4, q4, hg4, ht4, hv4, hd4, -, -⟩, -⟩, -⟩, -⟩, -⟩, -⟩ := h
  obtain rfl := Option.some.inj ((show Tryd.prog.globalNamed "internal/strconv.uint64pow10" = some 0 by kernel_rfl).symm.trans hg2)
  obtain rfl := Option.some.inj ((show Tryd.prog.globalNamed "strconv.ErrRange" = some 2 by kernel_rfl).symm.trans hg3)
  obtain rfl := Option.some.inj ((show Tryd.prog.globalNamed "strconv.ErrSyntax" = some 1 by kernel_rfl).symm.trans hg4)
  obtain rfl := Option.some.inj ((show (Tryd.prog.globals[0]?).map (·.type) = some 113 by kernel_rfl).symm.trans ht2)
  obtain rfl := Option.some.inj ((show (Tryd.prog.globals[2]?).map (·.type) = some 85 by kernel_rfl).symm.trans ht3)
  obtain rfl := Option.some.inj ((show (Tryd.prog.globals[1]?).map (·.type) = some 85 by kernel_rfl).symm.trans ht4)
  obtain ⟨u3, v3, e3⟩ := iface_of Tryd.underlying85 hd3
  obtain ⟨u4, v4, e4⟩ := iface_of Tryd.underlying85 hd4
  refine ⟨?_, ⟨u4, v4, ?_⟩, ⟨u3, v3, ?_⟩⟩
  · rw [pow10_data] at hd2
    unfold Lib.TabIs
    rw [hv2, ← Lib.cells_of_tab Tryd.underlying113 Tryd.underlying98 (by kernel_rfl) (by kernel_rfl) hd2]
  · rw [hv4, Array.eq_one_of_toList e4]
  · rw [hv3, Array.eq_one_of_toList e3]
end Go.Proofs.YtileoimcnhcfcaaDoor
