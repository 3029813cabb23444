/- Joined: IPut. -/
import Derived.Test.YtlbcmeebcfalpaaGreatDoorR07
import Derived.Laws.Cells
set_option linter.unusedVariables false
set_option linter.unusedSimpArgs false
set_option maxRecDepth 100000
set_option maxHeartbeats 16000000
namespace Go.Proofs.YtlbcmeebcfalpaaGreatDoor
open Go.RowKit

/-- Cells stored one behind the other. -/
def putL (W : World) (b : Nat) : Nat -> List Value -> World
  | _, [] => W
  | i, d :: ds => putL (W.setCell ⟨b, i, none⟩ d) b (i + 1) ds
theorem putL_exc (b : Nat) : ∀ (ds : List Value) (i : Nat) (W : World), Exc (fun x => x = b) W (putL W b i ds)
  | [], _, W => Exc.refl _ _
  | d :: ds, i, W => (Exc.setCell (N := fun x => x = b) W rfl d).trans (putL_exc b ds (i + 1) _)
theorem putL_gen {b : Nat} {t : TypeId} {fr : Nat × Nat} : ∀ (ds ps rs : List Value) (W : World), ds.length = rs.length -> W.heap[b]? = some (.cells (ps ++ rs).toArray t fr) -> (putL W b ps.length ds).heap[b]? = some (.cells (ps ++ ds).toArray t fr)
  | [], ps, rs, W, hl, h => by
    obtain rfl : rs = [] := List.eq_nil_of_length_eq_zero hl.symm
    exact h
  | d :: ds, ps, [], W, hl, h => by simp at hl
  | d :: ds, ps, r :: rs, W, hl, h => by
    have h2 := heap_setCell_at (j := ps.length) h d
    have e : ((ps ++ r :: rs).toArray.setIfInBounds ps.length d) = ((ps ++ [d]) ++ rs).toArray := by
      rw [List.setIfInBounds_toArray, List.set_append_right _ _ (Nat.le_refl _), Nat.sub_self]
      simp
    rw [e] at h2
    have := putL_gen ds (ps ++ [d]) rs _ (by simpa using hl) h2
    rw [List.length_append, List.length_singleton, List.append_assoc] at this
    exact this
theorem putL_at {b : Nat} {t : TypeId} {fr : Nat × Nat} {W : World} {cs : Array Value} (ds : List Value) (hl : ds.length = cs.size) (h : W.heap[b]? = some (.cells cs t fr)) : (putL W b 0 ds).heap[b]? = some (.cells ds.toArray t fr) :=
  putL_gen ds [] cs.toList W (by simpa using hl) (by simpa using h)
/-- The store of a whole struct, as the walk leaves it. -/
theorem run_putL {b : Nat} {t : TypeId} : ∀ (vs : List Value) (i : Nat) (cur : Array Value) (W : World), W.heap[b]? = some (.cells cur t (0, 0)) -> i + vs.length <= cur.size -> (∀ v ∈ vs, v.oneCell' = true) -> (storeCells ⟨b, 0, none⟩ vs i).run Tryz.prog W = .ok () (putL W b i vs)
  | [], _, _, _, _, _, _ => rfl
  | v :: rest, i, cur, W, hg, hl, h1 => by
    have hi : i < cur.size := by simp at hl; omega
    have hadd : (⟨b, 0, none⟩ : Addr).add i = ⟨b, i, none⟩ := by unfold Addr.add; split <;> simp_all
    have hcell : W.cell? ⟨b, i, none⟩ = some cur[i] := by simp [World.cell?, hg, hi]
    have hfro : W.frozen? ⟨b, i, none⟩ = false := by simp [World.frozen?, hg]
    have hst : (store ((⟨b, 0, none⟩ : Addr).add i) v).run Tryz.prog W = .ok () (W.setCell ⟨b, i, none⟩ v) := by
      rw [hadd, run_store Tryz.prog W _ v _ (h1 v (by simp)), hcell]
      simp [hfro]
    have ih := run_putL rest (i + 1) (cur.setIfInBounds i v) (W.setCell ⟨b, i, none⟩ v) (heap_setCell_at hg v) (by simp at hl ⊢; omega) (fun x hx => h1 x (by simp [hx]))
    simp only [storeCells, Sem.run_bind, hst, Result.andThen_ok, ih, putL]
theorem cell_box {w : World} {b : Nat} {cs : Array Value} {t : TypeId} {fr : Nat × Nat} (h : w.heap[b]? = some (.cells cs t fr)) (i : Nat) {x : Value} (hx : cs[i]? = some x) : w.cell? ⟨b, i, none⟩ = some x := by
  rw [Lib.cell_of_heap h]; exact hx
theorem frozen_box {w : World} {b : Nat} {cs : Array Value} {t : TypeId} (h : w.heap[b]? = some (.cells cs t (0, 0))) (i : Nat) : w.frozen? ⟨b, i, none⟩ = false := by simp [World.frozen?, h]
theorem alloc_heap_some {w : World} {b : Nat} {x o : Obj} (h : w.heap[b]? = some x) : (w.alloc o).heap[b]? = some x := by rw [Below.heap_alloc _ _ _ (Array.getElem?_eq_some_iff.1 h).1]; exact h
abbrev InS (S : Nat -> Prop) (W : World) : Nat -> Prop := fun b => S b /\ b < W.heap.size
/-- A reader of one item's own items beside the reader that gave the item. -/
structure Inn (S : Nat -> Prop) (f rb wb : Nat) (W3 W4 : World) (aa : Option Addr) (cc : Nat) (ll : List Vl) (a' : Option Addr) (n' c' : Nat) (l' : List Vl) (g1 : Bool) : Prop where
  own : Rdr W4 W3.heap.size wb aa ll.length cc g1
  items : Vals (InS S W3) W4 aa ll.length cc ll
  off : ∀ b, InS S W3 b -> b ≠ W3.heap.size /\ b ≠ wb
  good : ∀ u ∈ ll, GoodD (f - 1) u.er
  outer : Rdr W4 rb wb a' n' c' g1
  rest : Vals (InS S W3) W4 a' n' c' l'
  lt : rb < W3.heap.size /\ wb < W3.heap.size
theorem Inn.mk' {S : Nat -> Prop} {f rb wb : Nat} {W3 : World} {kk nn : Int} {t : ByteArray} {aa : Option Addr} {cc : Nat} {ll l l' : List Vl} {a' : Option Addr} {n' c' : Nat} {g g1 : Bool} (hx : Nx 3 l g (.mk kk nn t aa cc ll) l' g1) (hr : Rdr W3 rb wb a' n' c' g1) (hv : Vals S W3 a' n' c' l') (hrd : Rd S W3 (.mk kk nn t aa cc ll)) (hS : ∀ b, S b -> b ≠ rb /\ b ≠ wb) (hG : ∀ u ∈ l, GoodD f u.er) :
    Inn S f rb wb W3 (W3.alloc (.cells #[.slice aa ll.length cc, .pointer (some ⟨wb, 0, none⟩)] 74)) aa cc ll a' n' c' l' g1 := by
  have hb : Below W3.heap.size W3 (W3.alloc (.cells #[.slice aa ll.length cc, .pointer (some ⟨wb, 0, none⟩)] 74)) := (Below.refl _ _).alloc (Nat.le_refl _) _
  have h4 := hr.below hb
  refine ⟨⟨World.alloc_heap_new W3 _, h4.flag, fun e => by have := hr.lt.2; omega⟩, ((rd_iff.1 hrd).2.2.2.mono (fun b h1 h2 => ⟨h1, h2⟩)).below hb, fun b hb => ⟨by have := hb.2; omega, (hS b hb.1).2⟩, fun u hu => ?_, h4, (hv.mono (fun b h1 h2 => ⟨h1, h2⟩)).below hb, hr.lt⟩
  rcases hx with ⟨e, _⟩ | ⟨hl, hk, _⟩
  · cases e; cases hu
  · have h9 := hG _ (hl ▸ List.mem_cons_self ..)
    have := good_items h9 (by rw [Vl.er_kind]; exact hk)
    rw [Vl.er_items] at this
    exact this _ (List.mem_map_of_mem hu)
theorem Inn.after {S : Nat -> Prop} {f rb wb : Nat} {W3 W4 W5 : World} {aa : Option Addr} {cc : Nat} {ll l' : List Vl} {a' a5 : Option Addr} {n' c' n5 c5 : Nat} {g1 g5 : Bool} (h : Inn S f rb wb W3 W4 aa cc ll a' n' c' l' g1) (hE : Exc (Two W3.heap.size wb) W4 W5) (h5 : Rdr W5 W3.heap.size wb a5 n5 c5 g5) : Rdr W5 rb wb a' n' c' g5 /\ Vals (InS S W3) W5 a' n' c' l' :=
  ⟨⟨hE.heap (fun hn => by
    rcases hn with e | e
    · have := h.lt.1; omega
    · exact h.outer.ne e) h.outer.box, h5.flag, h.outer.ne⟩, h.rest.keep (hE.keepS fun b hb hn => by
      have := h.off b hb
      rcases hn with e | e
      · exact this.1 e
      · exact this.2 e)⟩
/-- Behind the reading of a struct: the flag is set if something is left; the result is stored. -/
theorem fields_end {S : Nat -> Prop} {f rb wb : Nat} {w W2 W3 W4 W5 : World} {kk nn : Int} {t : ByteArray} {aa : Option Addr} {cc : Nat} {ll l l' l5 : List Vl} {a' a5 : Option Addr} {n' c' n5 c5 : Nat} {g g1 g5 : Bool} {ts : List Ty} {ds : List Dv} {cs : List Value} (hx : Nx 3 l g (.mk kk nn t aa cc ll) l' g1) (hI : Inn S f rb wb W3 W4 aa cc ll a' n' c' l' g1) (hG : ∀ u ∈ l, GoodD f u.er)
    (hb2 : Below w.heap.size w W2) (hz2 : w.heap.size < W2.heap.size) (hSw : ∀ b, S b -> b < w.heap.size) (hS : ∀ b, S b -> b ≠ rb /\ b ≠ wb) (hlt : rb < w.heap.size /\ wb < w.heap.size) (hE3 : Exc (Two rb wb) W2 W3) (hb4 : Below W3.heap.size W3 W4) (hT : HasL ts ds) (hrd : ∀ d ∈ ds, RdD (NewB W4 W5) W5 d) (hgot : GotL ts ll g1 ds l5 g5) (hr5 : Rdr W5 W3.heap.size wb a5 n5 c5 g5) (hv5 : n5 = l5.length) (hE5 : Exc (Two W3.heap.size wb) W4 W5) (o : Obj) (hcs : cs = Dv.cellsL ds) :
    (0 < n5 -> RdOne S (.struc ts) rb wb l g w (.returned (.agg cs.toArray)) (putL ((W5.setCell ⟨wb, 0, none⟩ (.bool true)).alloc o) w.heap.size 0 cs)) /\ (n5 = 0 -> RdOne S (.struc ts) rb wb l g w (.returned (.agg cs.toArray)) (putL (W5.alloc o) w.heap.size 0 cs)) := by
  subst hcs
  obtain ⟨ho, hvo⟩ := hI.after hE5 hr5
  have s3 : w.heap.size < W3.heap.size := Nat.lt_of_lt_of_le hz2 hE3.size
  have s4 := hb4.size
  have s5 := hE5.size
  have e3 : Exc (Two rb wb) w W3 := (Exc.below hb2).step hE3 fun b _ h => h
  have e5 : Exc (Two rb wb) w W5 := (e3.trans (.below (hb4.mono (Nat.le_refl _)))).step hE5 fun b hb h => by
    rcases h with h | h
    · omega
    · exact .inr h
  have fin : ∀ (W' : World) (g' : Bool), Exc (Two rb wb) w W' -> Rdr W' rb wb a' n' c' g' -> Vals (InS S W3) W' a' n' c' l' -> W5.heap.size <= W'.heap.size -> (∀ d ∈ ds, RdD (NewB W4 W5) W' d) -> Got (.struc ts) l g (.struc ds) l' g' -> RdOne S (.struc ts) rb wb l g w (.returned (.agg (Dv.cellsL ds).toArray)) (putL (W'.alloc o) w.heap.size 0 (Dv.cellsL ds)) := by
    intro W' g' e' r' v' hsz d' got
    have hb6 : Below W'.heap.size W' (W'.alloc o) := (Below.refl _ _).alloc (Nat.le_refl _) _
    have hp' := putL_exc w.heap.size (Dv.cellsL ds) 0 (W'.alloc o)
    have hp := (Exc.below hb6).trans hp'
    refine ⟨.struc ds, a', n', c', l', g', rfl, .struc hT, rdD_struc.2 fun d hd => ?_, got, ⟨hp.heap (by show ¬ rb = w.heap.size; omega) r'.box, hp.heap (by show ¬ wb = w.heap.size; omega) r'.flag, r'.ne⟩, (v'.keep (hp.keepS fun b hb hn => by have hn : b = w.heap.size := hn; have := hSw b hb.1; omega)).mono (fun b hb _ => hb.1), e'.step hp fun b hb h => by have h : b = w.heap.size := h; omega⟩
    have := hp.size
    exact ((d' d hd).keep (hp.keepS fun b hb hn => by have hn : b = w.heap.size := hn; have := hb.1; omega)).mono fun b hb => ⟨by have := hb.1; omega, by have := hb.2; omega⟩
  have got : ∀ g6, g6 = (g5 || decide (0 < l5.length)) -> Got (.struc ts) l g (.struc ds) l' g6 := by
    intro g6 h6
    rcases hx with ⟨_, rfl, rfl, hb⟩ | ⟨hl, hk, rfl⟩
    · obtain rfl := hgot.stay
      rw [Bool.true_or] at h6
      subst h6
      exact .bad fit_struc3 _ (List.suffix_refl _) (.inr fun v r e => by rw [Vl.er_kind]; exact hb v r e)
    · exact .struc hl (by rw [Vl.er_kind]; exact hk) (hG _ (hl ▸ List.mem_cons_self ..)).2 hgot h6
  constructor
  · intro h0
    have hs := Exc.setCell (N := Two rb wb) W5 (j := 0) (.inr rfl) (.bool true)
    refine fin _ true (e5.trans hs) ho.wrong (hvo.keep (hs.keepS fun b hb hn => ?_)) hs.size (fun d hd => (hrd d hd).keep (hs.keepS fun b hb hn => by have := hb.1; rcases hn with e | e <;> omega)) (got _ (by rw [decide_eq_true (by omega), Bool.or_true]))
    have := hI.off b hb
    have := hS b hb.1
    rcases hn with e | e
    · exact this.1 e
    · exact this.2 e
  · intro h0
    exact fin _ g5 e5 ho hvo (Nat.le_refl _) hrd (got _ (by rw [decide_eq_false (by omega), Bool.or_false]))
/-- Enough: for what lies in blocks that are there. -/
theorem Reads.of {T : Ty} {f : Nat} {F : FuncId} {ar : Value -> Array Value} (h : ∀ (S : Nat -> Prop) (rb wb : Nat) (a : Option Addr) (n c : Nat) (l : List Vl) (g : Bool) (w : World), Rdr w rb wb a n c g -> Vals S w a n c l -> (∀ b, S b -> b ≠ rb /\ b ≠ wb) -> (∀ b, S b -> b < w.heap.size) -> (∀ u ∈ l, GoodD f u.er) -> Calls Tryz.prog F (ar (.pointer (some ⟨rb, 0, none⟩))) w (RdOne S T rb wb l g w)) : Reads T f F ar := by
  intro S rb wb a n c l g w hr hv hS hG
  refine (h (InS S w) rb wb a n c l g w hr (hv.mono fun b h1 h2 => ⟨h1, h2⟩) (fun b hb => hS b hb.1) (fun b hb => hb.2) hG).mono ?_
  rintro e w' ⟨d, a', n', c', l', g', he, hT, hrd, hx, hr', hv', hE⟩
  exact ⟨d, a', n', c', l', g', he, hT, hrd, hx, hr', hv'.mono (fun b hb _ => hb.1), hE⟩
theorem nx_len {f : Nat} {l l' ll : List Vl} {g g1 : Bool} {kk nn : Int} {t : ByteArray} {aa : Option Addr} {cc : Nat} (hx : Nx 3 l g (.mk kk nn t aa cc ll) l' g1) (hG : ∀ u ∈ l, GoodD f u.er) : ll.length <= 4096 := by
  rcases hx with ⟨e, _⟩ | ⟨hl, hk, _⟩
  · cases e; simp
  · have h9 := (singV_ok (allV_items (hG _ (hl ▸ List.mem_cons_self ..)).2).1).2.2.1
    rw [Vl.er_len] at h9; exact h9
theorem nx_pos {f : Nat} {l l' ll : List Vl} {g g1 : Bool} {kk nn : Int} {t : ByteArray} {aa : Option Addr} {cc : Nat} (hx : Nx 3 l g (.mk kk nn t aa cc ll) l' g1) (hG : ∀ u ∈ l, GoodD f u.er) (h0 : 0 < ll.length) : 0 < f := by
  rcases hx with ⟨e, _⟩ | ⟨hl, hk, _⟩
  · cases e; cases h0
  · exact good_pos (hG _ (hl ▸ List.mem_cons_self ..))
theorem EGot.stay {t : Ty} {vi l1 : List Vl} {ds : List Dv} {g1 : Bool} (h : EGot t vi true ds l1 g1) : g1 = true := by
  rcases h.2.2 with ⟨h, _⟩ | ⟨_, h, _⟩
  · exact h
  · cases h
/-- The length of a slice. -/
def lenOf : Value -> Nat | .slice _ n _ => n | _ => 0
/-- Behind the loop that reads elements. -/
theorem elems_end {S : Nat -> Prop} {f rb wb e k s j c6 : Nat} {a6 : Option Addr} {w W2 W3 W4 wr : World} {kk nn : Int} {t : ByteArray} {aa : Option Addr} {cc : Nat} {ll l l' l5 : List Vl} {a' a5 : Option Addr} {n' c' n5 c5 : Nat} {g g1 g5 : Bool} {T : Ty} {ds : List Dv} (hx : Nx 3 l g (.mk kk nn t aa cc ll) l' g1) (hI : Inn S f rb wb W3 W4 aa cc ll a' n' c' l' g1) (hG : ∀ u ∈ l, GoodD f u.er)
    (hb2 : Below w.heap.size w W2) (hE3 : Exc (Two rb wb) W2 W3) (hb4 : Below W3.heap.size W3 W4) (hO : OwnD e k wr W4.heap.size a6 j c6 ds) (hT : ∀ d ∈ ds, Has T d) (hr5 : Rdr wr W3.heap.size wb a5 n5 c5 g5) (hg : EGot T ll g1 ds l5 g5) (h1 : n5 = 0 \/ g5 = true) (hv5 : n5 = l5.length) (hE5 : Exc (Two W3.heap.size wb) W4 wr) (hs : s <= 1000) :
    RdOne S (.list k s T) rb wb l g w (.returned (.slice a6 j c6)) wr := by
  obtain ⟨ho, hvo⟩ := hI.after hE5 hr5
  have s2 := hb2.size
  have s3 := hE3.size
  have s4 := hb4.size
  have e3 : Exc (Two rb wb) w W3 := (Exc.below hb2).step hE3 fun b _ h => h
  have e5 : Exc (Two rb wb) w wr := (e3.trans (.below (hb4.mono (Nat.le_refl _)))).step hE5 fun b hb h => by
    rcases h with h | h
    · omega
    · exact .inr h
  have hl := nx_len hx hG
  have hdl := hg.2.1
  have hj : j = ds.length := hO.1
  have hbd : j * s <= 140737488355328 := by
    have : j * s <= 4096 * 1000 := Nat.mul_le_mul (by omega) hs
    omega
  subst hj
  refine ⟨.list k s a6 c6 ds, a', n', c', l', g5, rfl, .list hT, rdD_list.2 ?_, ?_, ho, hvo.mono (fun b hb _ => hb.1), e5⟩
  · obtain ⟨i1, i2, i3, i4⟩ := hO.items hbd
    refine ⟨i1, i2, i3, fun j d hj => ?_⟩
    obtain ⟨⟨b, off, ea, hs', hat⟩, hr⟩ := i4 j d hj
    exact ⟨⟨b, off, ea, ⟨by omega, hs'.2⟩, hat⟩, hr.mono fun b hb => ⟨by omega, hb.2⟩⟩
  · rcases hx with ⟨_, rfl, rfl, hb⟩ | ⟨hl', hk, rfl⟩
    · obtain rfl := hg.stay
      exact .bad fit_list3 _ (List.suffix_refl _) (.inr fun v r e => by rw [Vl.er_kind]; exact hb v r e)
    · exact EGot.fin hl' (by rw [Vl.er_kind]; exact hk) (hG _ (hl' ▸ List.mem_cons_self ..)).2 hg (h1.imp (fun h => by omega) id)
theorem Exc.then_below {N : Nat -> Prop} {w W W' : World} (h : Exc N w W) (k : Below w.heap.size W W') : Exc N w W' :=
  ⟨k.os.trans h.os, k.tape.trans h.tape, k.output.trans h.output, Nat.le_trans h.size k.size, fun i hi hn => (k.block i hi).trans (h.block i hi hn)⟩
theorem Rdr.belowB {B : Nat} {w w' : World} {rb wb : Nat} {a : Option Addr} {n c : Nat} {g : Bool} (h : Rdr w rb wb a n c g) (hb : Below B w w') (h1 : rb < B) (h2 : wb < B) : Rdr w' rb wb a n c g :=
  ⟨by rw [hb.block _ h1]; exact h.box, by rw [hb.block _ h2]; exact h.flag, h.ne⟩
theorem keepS_lt {S : Nat -> Prop} {B : Nat} {w w' : World} (hb : Below B w w') (hS : ∀ b, S b -> b < B) : KeepS S w w' :=
  ⟨hb.size, fun b cs t fr hs h => by rw [hb.block b (hS b hs)]; exact h⟩
theorem GotL.snoc {T : Ty} {d : Dv} {l2 : List Vl} {g2 : Bool} : ∀ {ts : List Ty} {l l1 : List Vl} {g g1 : Bool} {ds : List Dv}, GotL ts l g ds l1 g1 -> Got T l1 g1 d l2 g2 -> GotL (ts ++ [T]) l g (ds ++ [d]) l2 g2 := by
  intro ts l l1 g g1 ds h k
  have hx : ∀ us r, l = us ++ r -> FitL (ts ++ [T]) (us.map Vl.er) -> ∃ us' v, us = us' ++ [v] /\ FitL ts (us'.map Vl.er) /\ Fit T v.er := fun us r _ hf => by
    rcases List.eq_nil_or_concat us with rfl | ⟨us', v, rfl⟩
    · have := fitL_len hf
      simp at this
    · refine ⟨us', v, by simp, ?_⟩
      rw [fitL_iff] at hf ⊢
      simp only [List.concat_eq_append, List.map_append, List.map_cons, List.map_nil, List.length_append, List.length_map, List.length_singleton] at hf
      obtain ⟨h1, h2⟩ := hf
      refine ⟨⟨by rw [List.length_map]; omega, fun i t v' ht hv => h2 i t v' (by rw [List.getElem?_append_left (List.getElem?_eq_some_iff.1 ht).1]; exact ht) (by rw [List.getElem?_append_left (List.getElem?_eq_some_iff.1 hv).1]; exact hv)⟩, h2 ts.length T v.er (by simp) (by rw [List.getElem?_append_right (by rw [List.length_map]; omega), List.length_map]; simp [show ts.length - us'.length = 0 by omega])⟩
  refine ⟨k.1.trans h.1, ?_⟩
  rcases h.2 with ⟨hg1, hb⟩ | ⟨hg1, hg, us, he, hf, hd⟩
  · rcases k.2 with ⟨hg2, _⟩ | ⟨_, hn, _⟩
    · refine .inl ⟨hg2, hb.imp id fun hb us r e hf => ?_⟩
      obtain ⟨us', v, rfl, h1, _⟩ := hx us r e hf
      exact hb us' ([v] ++ r) (by rw [e]; simp) h1
    · rw [hg1] at hn; cases hn
  · have hlen := fitL_len hf
    rw [List.length_map] at hlen
    rcases k.2 with ⟨hg2, hb⟩ | ⟨hg2, _, v, hv, hfv, hdv⟩
    · refine .inl ⟨hg2, .inr fun us2 r e hf2 => ?_⟩
      obtain ⟨us', v, rfl, h1, h2⟩ := hx us2 r e hf2
      have hlen' := fitL_len h1
      rw [List.length_map] at hlen'
      rw [he, List.append_assoc] at e
      have e2 := List.append_inj_right e (by omega)
      rcases hb with hb | hb
      · rw [hg1] at hb; cases hb
      · exact hb v r (by simpa using e2) h2
    · refine .inr ⟨hg2, hg, us ++ [v], by rw [he, hv]; simp, ?_, ?_⟩
      · rw [List.map_append, List.map_cons, List.map_nil, fitL_iff]
        refine ⟨by simp; omega, fun i t v' ht hv' => ?_⟩
        by_cases hi : i < ts.length
        · rw [List.getElem?_append_left hi] at ht
          rw [List.getElem?_append_left (by rw [List.length_map]; omega)] at hv'
          exact (fitL_iff.1 hf).2 i t v' ht hv'
        · have hi' : i = ts.length := by have := (List.getElem?_eq_some_iff.1 ht).1; simp at this; omega
          subst hi'
          rw [List.getElem?_append_right (Nat.le_refl _), Nat.sub_self] at ht
          rw [List.getElem?_append_right (by rw [List.length_map]; omega), List.length_map, show ts.length - us.length = 0 by omega] at hv'
          simp at ht hv'
          subst ht; subst hv'
          exact hfv
      · rw [Dv.toVL_map] at hd ⊢
        rw [List.map_append, hd, List.map_append]
        simp [hdv]
theorem HasL.snoc {T : Ty} {d : Dv} : ∀ {ts : List Ty} {ds : List Dv}, HasL ts ds -> Has T d -> HasL (ts ++ [T]) (ds ++ [d])
  | [], _, h, k => by cases h; exact .cons k .nil
  | t :: ts, _, h, k => by cases h with | cons h1 h2 => exact .cons h1 (h2.snoc k)
/-- Some fields were read, one after the other. -/
structure Acc (S : Nat -> Prop) (ts : List Ty) (rb wb : Nat) (l : List Vl) (g : Bool) (w : World) (W : World) (ds : List Dv) (a' : Option Addr) (n' c' : Nat) (l' : List Vl) (g' : Bool) : Prop where
  has : HasL ts ds
  rd : ∀ d ∈ ds, RdD (NewB w W) W d
  got : GotL ts l g ds l' g'
  hr : Rdr W rb wb a' n' c' g'
  hv : Vals S W a' n' c' l'
  exc : Exc (Two rb wb) w W
theorem Acc.init {S : Nat -> Prop} {rb wb : Nat} {l : List Vl} {g : Bool} {w W : World} {a : Option Addr} {n c : Nat} (hr : Rdr w rb wb a n c g) (hv : Vals S w a n c l) (hb : Below w.heap.size w W) : Acc S [] rb wb l g w W [] a n c l g :=
  ⟨.nil, fun d hd => (by cases hd), .nil _ _, hr.below hb, hv.below hb, .below hb⟩
theorem Acc.step {S : Nat -> Prop} {ts : List Ty} {rb wb : Nat} {l l1 l2 : List Vl} {g g1 g2 : Bool} {w W W2 : World} {ds : List Dv} {a1 a2 : Option Addr} {n1 c1 n2 c2 : Nat} {T : Ty} {d : Dv} (h : Acc S ts rb wb l g w W ds a1 n1 c1 l1 g1) (hlt : rb < w.heap.size /\ wb < w.heap.size) (hT : Has T d) (hrd : RdD (NewB W W2) W2 d) (hgot : Got T l1 g1 d l2 g2) (hr : Rdr W2 rb wb a2 n2 c2 g2) (hv : Vals S W2 a2 n2 c2 l2) (hE : Exc (Two rb wb) W W2) : Acc S (ts ++ [T]) rb wb l g w W2 (ds ++ [d]) a2 n2 c2 l2 g2 := by
  have s1 := h.exc.size
  have s2 := hE.size
  refine ⟨h.has.snoc hT, fun x hx => ?_, h.got.snoc hgot, hr, hv, h.exc.trans hE⟩
  rcases List.mem_append.1 hx with hx | hx
  · exact ((h.rd x hx).keep (hE.keepS fun b hb hn => by have := hb.1; rcases hn with e | e <;> omega)).mono fun b hb => ⟨hb.1, by have := hb.2; omega⟩
  · rw [List.mem_singleton] at hx; subst hx
    exact hrd.mono fun b hb => ⟨by have := hb.1; omega, hb.2⟩
theorem Acc.good {S : Nat -> Prop} {ts : List Ty} {rb wb f : Nat} {l l1 : List Vl} {g g1 : Bool} {w W : World} {ds : List Dv} {a1 : Option Addr} {n1 c1 : Nat} (h : Acc S ts rb wb l g w W ds a1 n1 c1 l1 g1) (hG : ∀ u ∈ l, GoodD f u.er) : ∀ u ∈ l1, GoodD f u.er := fun u hu => hG u (h.got.1.subset hu)
/-- The struct is stored into its block, which was made at the start. -/
theorem Acc.put {S : Nat -> Prop} {ts : List Ty} {rb wb : Nat} {l l1 : List Vl} {g g1 : Bool} {w W1 W : World} {ds : List Dv} {a1 : Option Addr} {n1 c1 : Nat} {cs : List Value} (h : Acc S ts rb wb l g W1 W ds a1 n1 c1 l1 g1) (hb : Below w.heap.size w W1) (hz : w.heap.size < W1.heap.size) (hlt : rb < w.heap.size /\ wb < w.heap.size) (hSw : ∀ b, S b -> b < w.heap.size) (hcs : cs = Dv.cellsL ds) : RdMany S ts rb wb l g w (.returned (.agg cs.toArray)) (putL W w.heap.size 0 cs) := by
  subst hcs
  have hp := putL_exc w.heap.size (Dv.cellsL ds) 0 W
  have s1 := h.exc.size
  have s2 := hp.size
  refine ⟨ds, a1, n1, c1, l1, g1, rfl, h.has, fun d hd => ?_, h.got, ⟨hp.heap (by show ¬ rb = w.heap.size; omega) h.hr.box, hp.heap (by show ¬ wb = w.heap.size; omega) h.hr.flag, h.hr.ne⟩, h.hv.keep (hp.keepS fun b hb hn => by have hn : b = w.heap.size := hn; have := hSw b hb; omega), ((Exc.below hb).step h.exc fun b _ h => h).step hp fun b hb h => by have h : b = w.heap.size := h; omega⟩
  exact ((h.rd d hd).keep (hp.keepS fun b hb hn => by have hn : b = w.heap.size := hn; have := hb.1; omega)).mono fun b hb => ⟨by have := hb.1; omega, by have := hb.2; omega⟩
theorem RdOne.put {S : Nat -> Prop} {T : Ty} {rb wb : Nat} {l l1 : List Vl} {g g1 : Bool} {w W1 W : World} {d : Dv} {a1 : Option Addr} {n1 c1 : Nat} (cs : List Value) (hT : Has T d) (hrd : RdD (NewB W1 W) W d) (hgot : Got T l g d l1 g1) (hr : Rdr W rb wb a1 n1 c1 g1) (hv : Vals (InS S w) W a1 n1 c1 l1) (hE : Exc (Two rb wb) W1 W) (hb : Below w.heap.size w W1) (hz : w.heap.size < W1.heap.size) (hlt : rb < w.heap.size /\ wb < w.heap.size) : RdOne S T rb wb l g w (.returned d.val) (putL W w.heap.size 0 cs) := by
  have hp := putL_exc w.heap.size cs 0 W
  have s1 := hE.size
  have s2 := hp.size
  refine ⟨d, a1, n1, c1, l1, g1, rfl, hT, ?_, hgot, ⟨hp.heap (by show ¬ rb = w.heap.size; omega) hr.box, hp.heap (by show ¬ wb = w.heap.size; omega) hr.flag, hr.ne⟩, (hv.keep (hp.keepS fun b hb hn => by have hn : b = w.heap.size := hn; have := hb.2; omega)).mono (fun b hb _ => hb.1), ((Exc.below hb).step hE fun b _ h => h).step hp fun b hb h => by have h : b = w.heap.size := h; omega⟩
  exact (hrd.keep (hp.keepS fun b hb hn => by have hn : b = w.heap.size := hn; have := hb.1; omega)).mono fun b hb => ⟨by have := hb.1; omega, by have := hb.2; omega⟩
theorem RdOne.from_ {S : Nat -> Prop} {T : Ty} {rb wb : Nat} {l : List Vl} {g : Bool} {w W1 W : World} {e : Ending} (h : RdOne S T rb wb l g W1 e W) (hb : Below w.heap.size w W1) : RdOne S T rb wb l g w e W := by
  obtain ⟨d, a', n', c', l', g', he, hT, hrd, hgot, hr, hv, hE⟩ := h
  have s0 := hb.size
  exact ⟨d, a', n', c', l', g', he, hT, hrd.mono fun b hb => ⟨by have := hb.1; omega, hb.2⟩, hgot, hr, hv, (Exc.below hb).step hE fun b _ h => h⟩
theorem fn_kept {w W2 W3 W4 wr : World} {qb rb wb : Nat} {o : Obj} (hq : w.heap[qb]? = some o) (hq1 : qb ≠ rb) (hq2 : qb ≠ wb) (hB : Below w.heap.size w W2) (hE : Exc (Two rb wb) W2 W3) (hB4 : Below W3.heap.size W3 W4) (hE5 : Exc (Two W3.heap.size wb) W4 wr) : wr.heap[qb]? = some o /\ qb ≠ W3.heap.size := by
  have h0 := (Array.getElem?_eq_some_iff.1 hq).1
  have s1 := hB.size
  have s2 := hE.size
  refine ⟨hE5.heap (fun hn => ?_) (Exc.heap (N := fun _ => False) (.below hB4) id (hE.heap (fun hn => ?_) (Exc.heap (N := fun _ => False) (.below hB) id hq))), by omega⟩
  · rcases hn with e | e <;> omega
  · rcases hn with e | e <;> omega
end Go.Proofs.YtlbcmeebcfalpaaGreatDoor
