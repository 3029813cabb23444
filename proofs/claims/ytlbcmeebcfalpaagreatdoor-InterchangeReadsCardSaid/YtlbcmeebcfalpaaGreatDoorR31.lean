/- Joined: IPrr, ILa, IRw. -/
import Derived.Test.YtlbcmeebcfalpaaGreatDoorR28
import Derived.Test.YtlbcmeebcfalpaaGreatDoorR30
import Derived.Test.YtlbcmeebcfalpaaGreatDoorR09
import Derived.Test.YtlbcmeebcfalpaaGreatDoorR04
import Derived.Test.YtlbcmeebcfalpaaGreatDoorR01
import Derived.Test.YtlbcmeebcfalpaaGreatDoorTie
import Derived.ProofKit
import Derived.Deep.Slices
import Derived.Deep.Fields
import Derived.ChangeSame
import Derived.SizedLaws
import Derived.LaidMore
import Derived.Stop.Joined
set_option linter.unusedVariables false
set_option linter.unusedSimpArgs false
set_option maxRecDepth 100000
set_option maxHeartbeats 16000000
namespace Go.Proofs.YtlbcmeebcfalpaaGreatDoor
open Go.RowKit

theorem parse_ref (s : ByteArray) (hs : s.size <= 140737488355328) (w : World) (hE : Env w) : Calls Tryz.prog 12 #[.string s] w (ParP s w) := by
  have hbA : Below w.heap.size w (w.alloc (.cells (LT.zero .edi).toArray 40)) := (Below.refl _ _).alloc (Nat.le_refl _) _
  have hz1 := World.alloc_heap_new w (.cells (LT.zero .edi).toArray 40)
  have hs1 : (w.alloc (.cells (LT.zero .edi).toArray 40)).heap.size = w.heap.size + 1 := by simp
  have HC := hiq (decode_ref s hs _ (hE.below hbA))
  have HB := hiq hbA
  have HZ := hiq hz1
  have HS1 := hiq hs1
  dsimp only [LT.zero] at HC HB HZ HS1
  obtain ⟨r, hr⟩ : ∃ r, r = decode s.data.toList := ⟨_, rfl⟩
  have HSM : Hid (r.2 = 0 -> SmV r.1) := fun h => smV_chk (encE_ok (decode_sound (s := s.data.toList) (v := r.1) (by rw [<- hr, <- h])).2).1
  unfold ParP
  rw [<- hr]
  unfold DecPost at HC
  rw [<- hr] at HC
  clear hbA hz1 hs1 hE hs hr
  obtain ⟨x, er⟩ := r
  dsimp only at HC ⊢
  go_enter Tryz.func12, Tryz.ntmps12
  go_wp2_with fail
  refine HC.out.mono ?_
  generalize World.alloc _ _ = W1 at *
  rintro e W2 ⟨S, ⟨k, nn, t, a, c, l⟩, he, hx, hrd, hS, hb2⟩
  change e = .returned (.tuple #[.agg #[.int .i64 k, .int .i64 nn, .string t, .slice a l.length c], .int .i64 er]) at he
  subst he
  have hb02 := HB.out.trans (hb2.mono HB.out.size)
  have hz2 := (hb2.block w.heap.size (by have := HS1.out; omega)).trans HZ.out
  have hs2 : w.heap.size + 1 <= W2.heap.size := by have := hb2.size; have := HS1.out; omega
  have hone : ∀ v ∈ LT.zero .edi, v.oneCell' = true := by simp [LT.zero, Value.oneCell']
  have hb3 : Below W2.heap.size W2 (W2.alloc (.cells #[.int .i64 k, .int .i64 nn, .string t, .slice a l.length c] 24)) := (Below.refl _ _).alloc (Nat.le_refl _) _
  have hs3 : (W2.alloc (.cells #[.int .i64 k, .int .i64 nn, .string t, .slice a l.length c] 24)).heap.size = W2.heap.size + 1 := by simp
  have hz3 := (hb3.block w.heap.size (by omega)).trans hz2
  have hb03 := hb02.trans (hb3.mono (by omega))
  by_cases h0 : er = 0
  · subst h0
    have hM := edition_ref S (.mk k nn t a c l) _ (hrd.below hb3) (fun b hb => by have := (hS b hb).2; omega) (by rw [hx]; exact HSM.out rfl)
    have HM : Hid (Calls Tryz.prog 14 #[.agg #[.int .i64 k, .int .i64 nn, .string t, .slice a l.length c]] (W2.alloc (.cells #[.int .i64 k, .int .i64 nn, .string t, .slice a l.length c] 24)) fun e W6 => ∃ (d : Dv) (err : Int) (WF : World), e = .returned (.tuple #[.agg d.cells.toArray, .int .i64 err]) /\ StL w.heap.size d.cells W6 WF /\ LdV w.heap.size 40 (.agg d.cells.toArray) WF /\ Hid ((Tryz.prog.info? 40).map (·.size) = some d.cells.length) /\ Hid (ParQ x 0 w (.returned (.tuple #[.agg d.cells.toArray, .int .i64 err])) WF)) := by
      refine hM.mono ?_
      rintro e W6 ⟨d, err, he, hT, hrd6, hb6, hor⟩
      rw [hx] at hor
      obtain ⟨hl, hl2, h1, hval⟩ := LT.len .edi hT
      have hl' : d.cells.length = 25 := hl
      have s6 := hb6.size
      have hz6 := (hb6.block w.heap.size (by omega)).trans hz3
      obtain ⟨i0, ei, ez0, ez1, ez2⟩ := info_parts (LT.info .edi)
      have hp := putL_exc w.heap.size d.cells 0 W6
      have hpz := hp.size
      refine ⟨d, err, _, he, run_putL d.cells 0 _ _ hz6 (by simp [LT.zero]; omega) h1, LT.ld .edi rfl hl (putL_at d.cells (by simp [LT.zero]; omega) hz6), by show _ = _; rw [show 40 = LT.tid .edi from rfl, ei]; simp [ez1, hl], d, err, rfl, hT, ?_, put_below (hb03.trans (hb6.mono (by omega))) (Nat.le_refl _) _, .inr ⟨rfl, hor⟩⟩
      exact (hrd6.keep (hp.keepS fun b hb hn => by have hn : b = w.heap.size := hn; have := hb.1; omega)).mono fun b hb => ⟨by have := hb.1; omega, by have := hb.2; omega⟩
    have hlt2 : w.heap.size < W2.heap.size := by omega
    clear hM hb02 hz2 hs2 hb3 hs3 hz3 hb03 hx hrd hS hb2 hone HC
    go_wp2_with fail
    refine HM.out.mono ?_
    rintro e W6 ⟨d, err, WF, rfl, hst, hld, HSZ, HQ⟩
    have HST := hiq hst
    have HLD := hiq hld
    clear hst hld HM
    go_wp2_with ((with_reducible refine wpList_stL HST.out rfl _ _ _ rfl ?_ ?_ ?_ ?_); rfl; rfl; exact HSZ.out)
    exact ret_ldL2 HLD.out rfl rfl rfl rfl HQ.out
  · have hne : (er != 0) = true := by simp [h0]
    have hE : ParQ x er w (.returned (.tuple #[.agg (LT.zero .edi).toArray, .int .i64 er])) (putL (W2.alloc (.cells #[.int .i64 k, .int .i64 nn, .string t, .slice a l.length c] 24)) w.heap.size 0 (LT.zero .edi)) :=
      ⟨zeroEd, er, by rw [zeroEd_cells], zeroEd_has, zeroEd_rd _ _, put_below hb03 (Nat.le_refl _) _, .inl ⟨h0, rfl, rfl⟩⟩
    have HST := hiq (run_putL (LT.zero .edi) 0 _ _ hz3 (by simp [LT.zero]) hone)
    have HLD := hiq (LT.ld .edi rfl rfl (putL_at (LT.zero .edi) rfl hz3))
    have HE := hiq hE
    have hlt2 : w.heap.size < W2.heap.size := by omega
    generalize putL (W2.alloc (.cells #[.int .i64 k, .int .i64 nn, .string t, .slice a l.length c] 24)) w.heap.size 0 (LT.zero .edi) = WF at *
    dsimp only [LT.zero] at HST HLD HE
    clear hb02 hz2 hs2 hb3 hs3 hz3 hb03 hx hrd hS hb2 hone HC hE h0
    go_wp2_with ((with_reducible refine wpList_stL HST.out rfl _ _ _ rfl ?_ ?_ ?_ ?_); rfl; rfl; kernel_rfl)
    exact ret_ldL2 HLD.out rfl rfl rfl rfl HE.out
end Go.Proofs.YtlbcmeebcfalpaaGreatDoor
namespace Go.Proofs.YtlbcmeebcfalpaaGreatDoor
open Go.RowKit

/-- A struct in a box of its own. -/
structure KeepO (w : World) (t : TypeId) (A : Array Value) (V : World) : Prop where
  below : Below w.heap.size w V
  fst : V.heap[w.heap.size]? = some (.cells A t (0, 0))
theorem keepO_new (w : World) (t : TypeId) (A : Array Value) : KeepO w t A (w.alloc (.cells A t)) := ⟨(Below.refl _ _).alloc (Nat.le_refl _) _, World.alloc_heap_new w (.cells A t)⟩
theorem KeepO.next {w V V' : World} {t : TypeId} {A : Array Value} (h : KeepO w t A V) (hb : Below V.heap.size V V') : KeepO w t A V' :=
  ⟨h.below.trans (hb.mono h.below.size), (hb.block _ (Array.getElem?_eq_some_iff.1 h.fst).1).trans h.fst⟩
end Go.Proofs.YtlbcmeebcfalpaaGreatDoor
namespace Go.Proofs.YtlbcmeebcfalpaaGreatDoor
open Go.RowKit Go.ChangeShapes Go.WideShapes Go.Deep

theorem addr_plain {w : World} {x : Addr} {v : Value} (h : w.cell? (x.add 0) = some v) : ∃ b off, x = ⟨b, off, none⟩ := by
  obtain ⟨b, off, spot⟩ := x
  have hspot : spot = none := by simpa [Addr.add] using World.cell?_spot h
  exact ⟨b, off, by rw [hspot]⟩
theorem four {α : Type} {l : List α} (h : l.length = 4) : ∃ a b c d, l = [a, b, c, d] := by
  match l, h with
  | [a, b, c, d], _ => exact ⟨a, b, c, d, rfl⟩
section
variable {H : Type} {enc : TypeId × Value -> H} {w : World} {base : Nat} {held : Bool} {spare : Nat -> Bool}
theorem byt24 : Tryz.prog.bytesOf 24 = 56 := by kernel_rfl
theorem cel24 : Tryz.prog.cellsOf 24 = 4 := by kernel_rfl
/-- A slice of values, given its items' readings. -/
theorem open_vals_of {fuel : Nat} {c : Value} {x : DataW H × List MemPlace} (h : DataW.trod enc Tryz.prog w base spare held fuel 22 [c] = some x) (hw : ∀ k ∈ DataW.weights Tryz.prog 22 x.1, k <= reachBytes)
    (ih : ∀ n, n < fuel -> ∀ (cs : List Value) (y : DataW H × List MemPlace), DataW.trod enc Tryz.prog w base spare held n 24 cs = some y -> (∀ k ∈ DataW.weights Tryz.prog 24 y.1, k <= reachBytes) -> ∃ v : Vl, cs = v.cells.toList /\ Rd (fun b => b < w.heap.size) w v) :
    ∃ a n cap l, c = .slice a n cap /\ Vals (fun b => b < w.heap.size) w a n cap l /\ (a = none -> n = 0 /\ cap = 0) := by
  rcases DataW.trod_slice Tryz.underlying22 h with ⟨hcs, _⟩ | ⟨a, len, cap, elems, rest, n, rfl, hcs, rfl, hb, hl, hm, hel, hat, _, _⟩
  · obtain rfl : c = .slice none 0 0 := by simpa using hcs
    exact ⟨none, 0, 0, [], rfl, Vals.nil _ _, fun _ => ⟨rfl, rfl⟩⟩
  · obtain rfl : c = .slice (some a) len cap := by simpa using hcs
    rw [cel24] at hat
    have hsz : len * 56 <= 140737488355328 := by
      have := hw ((elems.length + rest.length) * 56) (by simp [DataW.weights, Tryz.underlying22, byt24])
      have h9 : reachBytes = 140737488351232 := rfl
      rw [hel] at this
      omega
    obtain ⟨l, hll, hR⟩ := list_of (mkInt 0) (fun i (v : Vl) => (w.cell? (a.add (i * 4)) = some (.int .i64 v.kind) /\ w.cell? ((a.add (i * 4)).add 1) = some (.int .i64 v.num) /\ w.cell? ((a.add (i * 4)).add 2) = some (.string v.text) /\ w.cell? ((a.add (i * 4)).add 3) = some v.sl) /\ Rd (fun b => b < w.heap.size) w v) len (fun i hi => by
      obtain ⟨y, hy⟩ : ∃ y, elems[i]? = some y := ⟨_, List.getElem?_eq_getElem (by omega)⟩
      have h1 := hat i hi
      rw [hy] at h1
      obtain ⟨cs', hc, ht⟩ := Option.bind_eq_some_iff.1 h1
      obtain ⟨v, rfl, hv⟩ := ih n (by omega) cs' y ht (fun k hk => hw k (by
        simp only [DataW.weights, Tryz.underlying22, List.mem_cons, List.mem_append]
        exact .inr (.inl (weightsAll_mem (List.mem_map.2 ⟨y, List.mem_of_getElem? hy, rfl⟩) k hk))))
      obtain ⟨_, _, hcl⟩ := World.cells?_some hc
      have a0 := hcl 0 (by omega)
      have a1 := hcl 1 (by omega)
      have a2 := hcl 2 (by omega)
      have a3 := hcl 3 (by omega)
      refine ⟨v, ⟨?_, a1, a2, a3⟩, hv⟩
      have : (a.add (i * 4)).add 0 = a.add (i * 4) := by rw [add_add, Nat.add_zero]
      rw [this] at a0; exact a0)
    refine ⟨some a, len, cap, l, rfl, ⟨hll.symm, hl, hsz, fun j v hj => ?_⟩, fun e => by cases e⟩
    have hjl : j < len := by rw [<- hll]; exact (List.getElem?_eq_some_iff.1 hj).1
    have hRj := hR j hjl
    rw [hj] at hRj
    change (w.cell? _ = some (.int .i64 v.kind) /\ w.cell? _ = some (.int .i64 v.num) /\ w.cell? _ = some (.string v.text) /\ w.cell? _ = some v.sl) /\ _ at hRj
    obtain ⟨⟨c0, c1, c2, c3⟩, hr⟩ := hRj
    obtain ⟨b, off, rfl⟩ := addr_plain (w := w) (x := a) (v := .int .i64 (l[0]?.getD (mkInt 0)).kind) (by have := (hR 0 (by omega)).1.1; rwa [Nat.zero_mul] at this)
    rw [Addr.add_lit] at c0 c1 c2 c3
    rw [Addr.add_lit] at c1 c2 c3
    exact ⟨⟨b, off, rfl, World.block_lt_of_cell? _ _ c0, c0, c1, c2, c3⟩, hr⟩
theorem open_val : ∀ (fuel : Nat) (cs : List Value) (x : DataW H × List MemPlace), DataW.trod enc Tryz.prog w base spare held fuel 24 cs = some x -> (∀ k ∈ DataW.weights Tryz.prog 24 x.1, k <= reachBytes) ->
    ∃ v : Vl, cs = v.cells.toList /\ Rd (fun b => b < w.heap.size) w v := by
  intro fuel
  induction fuel using Nat.strongRecOn with
  | _ fuel ih =>
    intro cs x h hw
    obtain ⟨xs, n, rfl, rfl, hl, hlen, hf⟩ := DataW.trod_struct Tryz.underlying24 h
    rw [cel24] at hl
    have hlen4 : xs.length = 4 := hlen
    obtain ⟨c0, c1, c2, c3, rfl⟩ := four hl
    obtain ⟨y0, y1, y2, y3, rfl⟩ := four hlen4
    clear hl hlen hlen4
    have g0 := hf 0 _ rfl
    have g1 := hf 1 _ rfl
    have g2 := hf 2 _ rfl
    have g3 := hf 3 _ rfl
    simp only [List.getElem?_cons_zero, List.getElem?_cons_succ] at g0 g1 g2 g3
    obtain ⟨n0, e0, _, w0⟩ := DataW.trod_int Tryz.underlying3 g0
    obtain ⟨n1, e1, _, w1⟩ := DataW.trod_int Tryz.underlying3 g1
    obtain ⟨t, e2, hy2, w2⟩ := DataW.trod_string Tryz.underlying9 g2
    have hwe : ∀ k, (k ∈ DataW.weights Tryz.prog 9 y2.1 \/ k ∈ DataW.weights Tryz.prog 22 y3.1) -> k <= reachBytes := fun k hk => hw k (by
      simp only [DataW.weights, Tryz.underlying24, List.map_cons, List.map_nil, DataW.weightsEach, List.mem_append]
      rcases hk with hk | hk
      · exact .inr (.inr (.inl hk))
      · exact .inr (.inr (.inr (.inl hk))))
    obtain ⟨a, m, cap, l, rfl, hv, -⟩ := open_vals_of g3 (fun k hk => hwe k (.inr hk)) (fun k hk => ih k (by omega))
    have ht : t.size <= 140737488355328 := by
      have := hwe t.data.toList.length (.inl (by rw [hy2]; simp [DataW.weights]))
      have h9 : reachBytes = 140737488351232 := rfl
      have h8 : t.data.toList.length = t.size := Array.length_toList
      omega
    change [c0] = [_] at e0
    change [c1] = [_] at e1
    change [c2] = [_] at e2
    cases e0
    cases e1
    cases e2
    have hm : m = l.length := hv.1
    subst hm
    exact ⟨.mk n0 n1 t a cap l, rfl, rd_iff.2 ⟨I64.of_wf w0, I64.of_wf w1, ht, hv⟩⟩
end
/-- The library's variables, as every row of the seat lists them. -/
def laid5 : List (String × DataW Unit) := [("math/bits.deBruijn32tab", Rows.laid_math_bits_deBruijn32tab), ("math/bits.deBruijn64tab", Rows.laid_math_bits_deBruijn64tab), ("internal/strconv.uint64pow10", Rows.laid_internal_strconv_uint64pow10), ("strconv.ErrRange", Rows.laid_strconv_ErrRange), ("strconv.ErrSyntax", Rows.laid_strconv_ErrSyntax)]
theorem door_met (os : Os) (args : Array Value) : laidMetH Tryz.prog laid5 ((World.doorLaid Tryz.prog 62 os).forCall (fun _ _ => 0) ⟨#[], args, []⟩).memory :=
  laidMetH_of_parts3 (fuel := 8) (laidMet_of_run' 8 (by kernel_rfl) (by kernel_rfl)) (by kernel_rfl) (by kernel_rfl)
theorem pow10_data : (Rows.laid_internal_strconv_uint64pow10 : DataW Unit) = Lib.tabData .u64 Lib.pow10Tab := by rfl
theorem iface_of {P : Program} {W : World} {held : Bool} {fuel : Nat} {t : TypeId} {ms : Array (String × TypeId)} {cs : List Value} {nm : String} {d : DataW Unit} {p : List MemPlace} {enc : TypeId × Value -> Unit} (ht : P.underlying t = some (.interface ms))
    (h : DataW.trod enc P W 0 (fun _ => true) held fuel t cs = some (.iface nm d, p)) : ∃ u v, cs = [.iface u v] := by
  cases fuel with
  | zero => simp [DataW.trod] at h
  | succ fuel =>
    unfold DataW.trod at h
    rw [ht] at h
    split at h <;> simp_all
theorem env_of_laid {W : World} (h : laidMetH Tryz.prog laid5 W) : Env W := by
  rw [MakeChecks.laidMetH_plain _ _ _ (by kernel_rfl)] at h
  obtain ⟨ps, ⟨g0, t0, cs0, f0, p0, q0, -, -, -, -, ⟨g1, t1, cs1, f1, p1, q1, -, -, -, -, ⟨g2, t2, cs2, f2, p2, q2, hg2, ht2, hv2, hd2, ⟨g3, t3, cs3, f3, p3, q3, hg3, ht3, hv3, hd3, ⟨g4, t4, cs4, f4, p4, q4, hg4, ht4, hv4, hd4, -, -⟩, -⟩, -⟩, -⟩, -⟩, -⟩ := h
  obtain rfl := Option.some.inj ((show Tryz.prog.globalNamed "internal/strconv.uint64pow10" = some 3 by kernel_rfl).symm.trans hg2)
  obtain rfl := Option.some.inj ((show Tryz.prog.globalNamed "strconv.ErrRange" = some 2 by kernel_rfl).symm.trans hg3)
  obtain rfl := Option.some.inj ((show Tryz.prog.globalNamed "strconv.ErrSyntax" = some 1 by kernel_rfl).symm.trans hg4)
  obtain rfl := Option.some.inj ((show (Tryz.prog.globals[3]?).map (·.type) = some 341 by kernel_rfl).symm.trans ht2)
  obtain rfl := Option.some.inj ((show (Tryz.prog.globals[2]?).map (·.type) = some 267 by kernel_rfl).symm.trans ht3)
  obtain rfl := Option.some.inj ((show (Tryz.prog.globals[1]?).map (·.type) = some 267 by kernel_rfl).symm.trans ht4)
  obtain ⟨u3, v3, e3⟩ := iface_of Tryz.underlying267 hd3
  obtain ⟨u4, v4, e4⟩ := iface_of Tryz.underlying267 hd4
  refine ⟨?_, ⟨u4, v4, ?_⟩, ⟨u3, v3, ?_⟩⟩
  · rw [pow10_data] at hd2
    unfold Lib.TabIs
    rw [hv2, <- Lib.cells_of_tab Tryz.underlying341 Tryz.underlying327 (by kernel_rfl) (by kernel_rfl) hd2]
  · rw [hv4, Array.eq_one_of_toList e4]
  · rw [hv3, Array.eq_one_of_toList e3]
end Go.Proofs.YtlbcmeebcfalpaaGreatDoor
