/- dag.fold. -/
import Derived.Test.YtebmachppbpdmaaDFrom
import Derived.Test.YtebmachppbpdmaaDRep
import Derived.Maps.AppendAt
import Derived.Maps.OwnIn
import Derived.Sort.LoopGhostIn
import Derived.OneCell
namespace Go.Proofs.Ytebmachppbpdmaa
open Go.RowKit Go.Shelf
attribute [local go_sem] Oper.semAt_some

/-- Below hi, only block g may have turned. -/
def Keep (hi g : Nat) (A B : World) : Prop := A.heap.size ≤ B.heap.size ∧ ∀ b, b < hi → b ≠ g → B.heap[b]? = A.heap[b]?
namespace Keep
variable {hi g : Nat} {A B C : World}
theorem refl (hi g : Nat) (A : World) : Keep hi g A A := ⟨Nat.le_refl _, fun _ _ _ => rfl⟩
theorem trans (h : Keep hi g A B) (k : Keep hi g B C) : Keep hi g A C := ⟨Nat.le_trans h.1 k.1, fun b hb hg => (k.2 b hb hg).trans (h.2 b hb hg)⟩
theorem mono {hi' : Nat} (h : Keep hi g A B) (hh : hi' ≤ hi) : Keep hi' g A B := ⟨h.1, fun b hb hg => h.2 b (by omega) hg⟩
theorem cell (h : Keep hi g A B) {a : Addr} (h1 : a.block < hi) (h2 : a.block ≠ g) : B.cell? a = A.cell? a := by
  have := h.2 a.block h1 h2
  simp [World.cell?, this]
theorem below (h : Below A.heap.size A B) (hh : hi ≤ A.heap.size) : Keep hi g A B := ⟨h.size, fun b hb _ => h.block b (by omega)⟩
theorem grown {row : Option Nat} (h : A.grownBy B row) (hh : hi ≤ A.heap.size) (hr : ∀ r, row = some r → hi ≤ r ∨ r = g) : Keep hi g A B :=
  ⟨h.size, fun b hb hg => h.block b (by omega) (fun e => by have := hr b e.symm; omega)⟩
theorem setCell (W : World) (j : Nat) (v : Value) : Keep hi g W (W.setCell ⟨g, j, none⟩ v) := ⟨by simp [World.setCell], fun b _ hg => Below.heap_setCell _ _ _ _ (by simpa using hg)⟩
theorem setCell_hi (W : World) {b : Nat} (hb : hi ≤ b) (j : Nat) (v : Value) : Keep hi g W (W.setCell ⟨b, j, none⟩ v) := ⟨by simp [World.setCell], fun b' h' _ => Below.heap_setCell _ _ _ _ (by show b' ≠ b; omega)⟩
theorem putObj (W : World) {l : Nat} (hl : hi ≤ l) (o : Obj) : Keep hi g W (W.putObj l o) := ⟨by simp [World.putObj], fun b hb _ => World.putObj_heap_other (by omega)⟩
theorem drew (W : World) : Keep hi g W W.drew := ⟨Nat.le_refl _, fun _ _ _ => rfl⟩
theorem ints {w w' : World} {a : Option Addr} {n cap : Nat} {l : List Int} (h : Keep hi g w w') (hi' : Ints w a n cap l) (ha : ∀ x, a = some x → x.block < hi ∧ x.block ≠ g) : Ints w' a n cap l := by
  obtain ⟨h1, h2, h3, h4, h5⟩ := hi'
  refine ⟨h1, h2, h3, h4, fun j hj => ?_⟩
  obtain ⟨b, off, e, hc⟩ := h5 j hj
  have := ha _ e
  exact ⟨b, off, e, by rw [h.cell (a := ⟨b, off + j, none⟩) this.1 this.2]; exact hc⟩
theorem links {w w' : World} {a : Option Addr} {n cap : Nat} {l : List Lk} (h : Keep hi g w w') (hi' : Links w a n cap l) (ha : 0 < n → ∀ x, a = some x → x.block < hi ∧ x.block ≠ g) : Links w' a n cap l := by
  obtain ⟨h1, h2, h3, h4, h5⟩ := hi'
  refine ⟨h1, h2, h3, h4, fun j hj => ?_⟩
  obtain ⟨b, off, e, c1, c2, c3⟩ := h5 j hj
  have := ha (by omega) _ e
  exact ⟨b, off, e, by rw [h.cell (a := ⟨b, off + j * 3, none⟩) this.1 this.2]; exact c1, by rw [h.cell (a := ⟨b, off + j * 3 + 1, none⟩) this.1 this.2]; exact c2, by rw [h.cell (a := ⟨b, off + j * 3 + 2, none⟩) this.1 this.2]; exact c3⟩
end Keep
theorem FromRd.keep {bl bs bk : Nat} {a ra : Option Addr} {n cap g off ln lc rn rc s hi gx : Nat} {ll : List Lk} {A B : World} (h : FromRd bl bs bk a n cap g off ln lc ra rn rc s ll A) (hk : Keep hi gx A B)
    (h1 : bl < hi ∧ bl ≠ gx) (h2 : bs < hi ∧ bs ≠ gx) (h3 : bk < hi ∧ bk ≠ gx) (h4 : g < hi ∧ g ≠ gx) (h5 : ∀ x, ra = some x → x.block < hi ∧ x.block ≠ gx) (h6 : 0 < n → ∀ x, a = some x → x.block < hi ∧ x.block ≠ gx) :
    FromRd bl bs bk a n cap g off ln lc ra rn rc s ll B :=
  ⟨by rw [hk.cell h1.1 h1.2]; exact h.leave, by rw [hk.cell h2.1 h2.2]; exact h.node, by rw [hk.cell h3.1 h3.2]; exact h.links, by rw [hk.cell h4.1 h4.2]; exact h.rowc, hk.ints h.row h5, hk.links h.all h6⟩

/-- The marks that loops over iterators have left. -/
def Marks (hi : Nat) : List Deferred → World → Prop
  | [], _ => True
  | d :: ds, W => ∃ D, d = { target := .collected D, args := #[] } ∧ hi ≤ D ∧ W.heap[D]? = some (.deferred (some [])) ∧ (∀ e ∈ ds, e ≠ d) ∧ Marks hi ds W
theorem Marks.keep {hi : Nat} {A B : World} : ∀ {ds : List Deferred}, Marks hi ds A → (∀ D, hi ≤ D → A.heap[D]? = some (.deferred (some [])) → B.heap[D]? = some (.deferred (some []))) → Marks hi ds B
  | [], _, _ => trivial
  | _ :: _, ⟨D, e, h1, h2, h3, h4⟩, h => ⟨D, e, h1, h D h1 h2, h3, Marks.keep h4 h⟩
theorem Marks.put {hi D : Nat} {A : World} : ∀ {ds : List Deferred}, Marks hi ds A → (∀ d' ∈ ds, d' ≠ { target := .collected D, args := #[] }) → Marks hi ds (A.putObj D (.deferred none))
  | [], _, _ => trivial
  | _ :: ds, ⟨D', e, h1, h2, h3, h4⟩, hne => by
    refine ⟨D', e, h1, ?_, h3, Marks.put h4 (fun d hd => hne d (by simp [hd]))⟩
    have : D' ≠ D := fun e2 => hne _ (List.mem_cons_self) (by rw [e, e2])
    rw [World.putObj_heap_other this]; exact h2
theorem Marks.lt {hi : Nat} {A : World} : ∀ {ds : List Deferred}, Marks hi ds A → ∀ D, { target := .collected D, args := #[] } ∈ ds → D < A.heap.size
  | [], _, _, h => by cases h
  | d :: ds, ⟨D', e, _, h2, _, h4⟩, D, h => by
    rcases List.mem_cons.1 h with h | h
    · rw [e] at h
      simp only [Deferred.mk.injEq, Target.collected.injEq, and_true] at h
      rw [h]; exact (Array.getElem?_eq_some_iff.1 h2).1
    · exact Marks.lt h4 D h
theorem Marks.cons {hi D : Nat} {A : World} {ds : List Deferred} (h : Marks hi ds A) (h1 : hi ≤ D) (h2 : A.heap[D]? = some (.deferred (some []))) (hne : { target := .collected D, args := #[] } ∉ ds) : Marks hi ({ target := .collected D, args := #[] } :: ds) A :=
  ⟨D, rfl, h1, h2, fun _ hd e => hne (e ▸ hd), h⟩
/-- A function leaves over its marks. -/
theorem leaves_marks {F : Fence} {n hi : Nat} {P : Program} {fn : Func} {tmps : Array Value} {R : Ending → World → Prop} {u : FrameMode} (hu : u ≠ .run) {Φ : World → Prop}
    (hΦ : ∀ (W : World) (D : Nat), Φ W → hi ≤ D → W.heap[D]? = some (.deferred (some [])) → Φ (W.putObj D (.deferred none)))
    (hend : ∀ W, Φ W → LeavesInM F n P fn tmps R [] u W) : ∀ (ds : List Deferred) (W : World), Marks hi ds W → Φ W → LeavesInM F n P fn tmps R ds u W
  | [], W, _, h => hend W h
  | _ :: ds, W, ⟨D, e, h1, h2, h3, h4⟩, h => by
    subst e
    exact ⟨hu, .inl ⟨D, _, rfl, run_takeDeferred h2, leaves_marks hu hΦ hend ds _ (h4.put (fun d hd => h3 d hd)) (hΦ W D h h1 h2)⟩⟩

theorem OwnI.putObj {w : World} {B n cap : Nat} {a : Option Addr} {l : List Int} (h : OwnI w B a n cap l) {D : Nat} {o : Obj} (hd : w.heap[D]? = some o) (ho : o.isCells = false) (o' : Obj) : OwnI (w.putObj D o') B a n cap l := by
  refine ⟨h.1, h.2.kept (grownBy_putObj' w D o') ?_⟩
  rcases h.2.2 with ⟨e, _⟩ | ⟨g', c, cur, e, _, hgb, _⟩
  · left; rw [e]; rfl
  · right
    rw [e]
    intro e'
    cases e'
    rw [hgb] at hd
    cases hd
    cases ho
/-- What the inner loop keeps. -/
def InI (w WL : World) (g n : Nat) {α : Type} (f : List α → List Int) (pre : List α) (W : World) : Prop := Keep WL.heap.size g WL W ∧ OwnI W g (some ⟨g, 0, none⟩) n n (f pre) ∧ Below w.heap.size w W
theorem inI_own {α : Type} (w WL : World) (g n B : Nat) (f : List α → List Int) (hB : WL.heap.size ≤ B) (hw : w.heap.size ≤ WL.heap.size) : OwnFrom B (InI w WL g n f) := by
  rintro s W W' row ⟨h1, h2, h3⟩ hg hr
  refine ⟨h1.trans (Keep.grown hg h1.1 (fun r e => .inl (by have := (hr r e).1; omega))), ?_, h3.grown hg h3.size (fun k e => by have := (hr k e).1; omega)⟩
  refine ⟨h2.1, h2.2.kept hg (.inr ?_)⟩
  intro e'
  obtain ⟨_, o, ho, hc⟩ := hr g e'.symm
  rcases h2.2.2 with ⟨e, _⟩ | ⟨g', c, cur, e, _, hgb, _⟩
  · cases e
  · cases e
    rw [hgb] at ho
    cases ho
    cases hc
/-- Behind the assignment of a round: the link lies in a box of its own. -/
def AxE (a : Act) (ll : List Lk) (s : Nat) (upd : Edge ll s → Nat → Array Value → Array Value) (hi : Nat) (x : Edge ll s) (a' : Act) (W : World) : Prop :=
  ∃ Bx : Nat, hi ≤ Bx ∧ W.heap[Bx]? = some (.cells #[.int .i64 (lkAt ll x.1).1, .int .i64 (lkAt ll x.1).2.1, .int .i64 (lkAt ll x.1).2.2] 36 (0, 0)) ∧
    a' = { tmps := upd x Bx a.tmps, defers := [] }
theorem axE_own (a : Act) (ll : List Lk) (s : Nat) (upd : Edge ll s → Nat → Array Value → Array Value) (hi B : Nat) (x : Edge ll s) (a' : Act) : OwnFrom B (fun (_ : Unit) W => AxE a ll s upd hi x a' W) := by
  rintro _ W W' row ⟨Bx, h1, h2, h3⟩ hg hr
  refine ⟨Bx, h1, ?_, h3⟩
  rw [hg.block Bx (Array.getElem?_eq_some_iff.1 h2).1 (fun e => by obtain ⟨_, o, ho, hc⟩ := hr Bx e.symm; rw [h2] at ho; cases ho; cases hc)]
  exact h2
/-- What a loop over links has folded. -/
def foldE (wth : Int → Int → Int → Int) (ll : List Lk) (O : List Int) (s : Nat) (pre : List (Edge ll s)) : Int := pre.foldl (fun b x => fstep wth ll O b x.1) (-1)
/-- A loop over the links that leave a node. -/
theorem from_loop {n i1 i2 : Nat} {g0 : Operand} {assign body : Code} {Q : Exit → Act → World → Prop} {act : Act} {WL : World} (hn : 3 ≤ n) (bl bs bk : Nat) (a ra : Option Addr) (m cap gl off ln lc rn rc s : Nat) (ll : List Lk) (g : Nat) (upd : Edge ll s → Nat → Array Value → Array Value)
    (hg0 : act.eval g0 = .func (.func 56) #[] #[.pointer (some ⟨bl, 0, none⟩), .pointer (some ⟨bs, 0, none⟩), .pointer (some ⟨bk, 0, none⟩)])
    (hr : FromRd bl bs bk a m cap gl off ln lc ra rn rc s ll WL) (hs : s < ln) (hm : m ≤ 65536)
    (h1 : bl < WL.heap.size ∧ bl ≠ g) (h2 : bs < WL.heap.size ∧ bs ≠ g) (h3 : bk < WL.heap.size ∧ bk ≠ g) (h4 : gl < WL.heap.size ∧ gl ≠ g) (h5 : ∀ x, ra = some x → x.block < WL.heap.size ∧ x.block ≠ g) (h6 : 0 < m → ∀ x, a = some x → x.block < WL.heap.size ∧ x.block ≠ g)
    (I : List (Edge ll s) → World → Prop) (Ix : Code → List (Edge ll s) → World → Prop) (hI : OwnFrom WL.heap.size I) (hIx : ∀ c, OwnFrom WL.heap.size (Ix c)) (h0 : I [] WL)
    (hassign : ∀ (l : Nat) (pre : List (Edge ll s)) (x : Edge ll s) (W : World) (K : Act → World → Prop), I pre W → (∀ a' W', KeepsFrom WL.heap.size W W' → Keep WL.heap.size g W W' → I pre W' → AxE act ll s upd WL.heap.size x a' W' → K a' W') →
      assign.wpIn (Fence.wide.inRound l) (n - 1 - 1) Try.prog (Exit.then K (fun _ _ _ => False)) { tmps := (#[i1, i2].zip (lkEnc ll s x)).foldl (fun t (p, v) => t.setIfInBounds p v) act.tmps, defers := [] } W)
    (hbody : ∀ (l : Nat) (pre : List (Edge ll s)) (x : Edge ll s) (a' : Act) (W : World), I pre W → AxE act ll s upd WL.heap.size x a' W → pre.length < (rowE ll s).length → body.wpIn (Fence.wide.inRound l) (n - 1 - 1) Try.prog (ownPostG WL.heap.size (Keep WL.heap.size g) I Ix (pre ++ [x]) W) a' W)
    (hdone : ∀ (D : Nat) (W : World), WL.heap.size ≤ D → I (rowE ll s) W → W.heap[D]? = some (.deferred (some [])) → Q .normal { act with defers := { target := .collected D, args := #[] } :: act.defers } W)
    (hstop : ∀ (D : Nat) (c : Code) (pre : List (Edge ll s)) (W : World), WL.heap.size ≤ D → pre <+: rowE ll s → Ix c pre W → W.heap[D]? = some (.deferred (some [])) → c.wpIn Fence.wide n Try.prog Q { act with defers := { target := .collected D, args := #[] } :: act.defers } W) :
    (Code.rangeFunc g0 #[i1, i2] assign body).wpIn Fence.wide n Try.prog Q act WL :=
  wpIn_rangeFunc_ownH (α := Edge ll s) (n := n) (F := Fence.wide) rfl (by omega) hg0 trivial (enters_of Try.func56 (by kernel_rfl) rfl)
    (from_stops (n - 1) (by omega) bl bs bk a ra m cap gl off ln lc rn rc s ll WL (Keep WL.heap.size g) (fun _ _ hk h => h.keep hk h1 h2 h3 h4 h5 h6) hr hs hm) Keep.trans
    (fun W _ _ o' hl _ _ _ => Keep.putObj W hl o') (Below.refl _ _) (fun _ => rfl) I Ix hI hIx h0 (AxE act ll s upd WL.heap.size) (axE_own act ll s upd _ _) hassign
    (fun l pre x a' W _ _ hp ha hlt => hbody l pre x a' W hp ha hlt) (fun D _ W hD he hp hd => hdone D W hD (he ▸ hp) hd) hstop

set_option maxRecDepth 100000 in
set_option maxHeartbeats 4000000 in
theorem fold_any (fv : FuncId) (wth : Int → Int → Int → Int) (n : Nat) (a : Option Addr) (m cap t : Nat) (first : Int) (ll : List Lk) (w : World) (h : Links w a m cap ll) (hv : Valid n ll) (hn : n ≤ 4096) (hm : m ≤ 65536) (ht : t < n) (hf0 : -1 ≤ first ∧ first ≤ 1) (hw : Tame wth) (hent : ∀ args w, (callFunc fv args).run Try.prog w = .ok (.enter fv args) w)
    (hcall : ∀ (x c y : Int) (W : World), -1 ≤ x → x ≤ 4398046511105 → 0 ≤ c → c ≤ 1073741824 → 0 ≤ y → y ≤ 4398046511105 → Calls Try.prog fv #[.int .i64 x, .int .i64 c, .int .i64 y] W fun e W' => e = .returned (.int .i64 (wth x c y)) ∧ W' = W) :
    Calls Try.prog 43 #[.int .i64 n, .slice a m cap, .int .i64 t, .int .i64 first, .func (.func fv) #[] #[]] w fun e w' => ∃ (a' : Option Addr) (c' : Nat), e = .returned (.slice a' n c') ∧ OwnI w' w.heap.size a' n c' (foldL wth ll n t first) ∧ Below w.heap.size w w' := by
  have H := Lib.hid h.len
  have HV : Hid (Valid n ll) := hv
  have HCALL := Lib.hid hcall
  have HENT := Lib.hid hent
  have HW : Hid (Tame wth) := hw
  clear hv hcall hw hent
  refine (callsIn_wide (n := 10)).1 ?_
  refine callsIn_of_wp_marks Try.func43 rfl trivial ?_ rfl
  simp only [Try.ntmps43, List.size_toArray, List.length_cons, List.length_nil, Nat.reduceAdd, Nat.reduceSub, Array.replicate_succ, Array.replicate_zero, List.push_toArray, List.append_toArray, List.nil_append, List.cons_append]
  gi_wp2_with (refine ⟨trivial, ?_⟩; gi_at_call 57; refine (callsIn_wide.2 (repeat_any n (w.heap.size + 2) (-1) _ (by omega) (by omega) (cell_lit1 _ _ _ (by simp)))).mono ?_; rintro e w1 ⟨rfl, o1, b1⟩)
  obtain ⟨Wc, hWc⟩ : ∃ Wc, Wc = ((w.alloc (.cells #[.int .i64 (t : Int)] 3)).alloc (.cells #[.func (.func fv) #[] #[]] 62)).alloc (.cells #[.int .i64 (-1)] 3) := ⟨_, rfl⟩
  have hszc : Wc.heap.size = w.heap.size + 1 + 1 + 1 := by rw [hWc]; simp
  have bc : Below w.heap.size w Wc := by rw [hWc]; exact (((Below.refl _ w).alloc (Nat.le_refl _) _).alloc (by simp) _).alloc (by simp; omega) _
  have ct : Wc.cell? ⟨w.heap.size, 0, none⟩ = some (.int .i64 (t : Int)) := by
    rw [hWc, World.cell?_alloc_past _ _ _ (by simp; omega), World.cell?_alloc_past _ _ _ (by simp)]; exact cell_lit1 _ _ _ rfl
  have cw : Wc.cell? ⟨w.heap.size + 1, 0, none⟩ = some (.func (.func fv) #[] #[]) := by
    rw [hWc, World.cell?_alloc_past _ _ _ (by simp)]; exact cell_lit1 _ _ _ (by simp)
  rw [← hWc] at b1 o1
  rw [← hszc]
  clear hWc
  have ct1 := cell_later b1 ct
  have cw1 := cell_later b1 cw
  have bw1 : Below w.heap.size w w1 := bc.trans (b1.mono (by omega))
  obtain ⟨g, hg⟩ : ∃ g, g = Wc.heap.size := ⟨_, rfl⟩
  rw [← hg] at o1 ⊢
  have hwg : w.heap.size + 2 < g := by omega
  clear ct cw b1 bc hg hszc Wc
  have g1 : OwnI w1 g (some ⟨g, 0, none⟩) n n (List.replicate n (-1)) := o1
  have hlt1 : g < w1.heap.size := by obtain ⟨_, e, _, h1, _⟩ := g1.at_ (by omega); cases e; exact h1
  obtain ⟨Wd, hWd⟩ : ∃ Wd, Wd = w1.alloc (.cells #[.slice (some ⟨g, 0, none⟩) n n] 26) := ⟨_, rfl⟩
  have hszd : Wd.heap.size = w1.heap.size + 1 := by rw [hWd]; simp
  have bd : Below w1.heap.size w1 Wd := by rw [hWd]; exact (Below.refl _ w1).alloc (Nat.le_refl _) _
  have co : Wd.cell? ⟨w1.heap.size, 0, none⟩ = some (.slice (some ⟨g, 0, none⟩) n n) := by rw [hWd]; exact cell_lit1 _ _ _ rfl
  have ctd := cell_later bd ct1
  have cwd := cell_later bd cw1
  have gd := g1.below bd
  have bwd : Below w.heap.size w Wd := bw1.trans (bd.mono bw1.size)
  rw [← hWd]
  refine ⟨trivial, (callsIn_wide.2 (leaving_any n a m cap ll Wd (h.below bwd) HV.out hn hm)).mono ?_⟩
  rintro e w2 ⟨la, lc, rfl, o2, b2⟩
  have ct2 := cell_later b2 ctd
  have cw2 := cell_later b2 cwd
  have co2 := cell_later b2 co
  have g2 := gd.below b2
  have bw2 := bwd.trans (b2.mono bwd.size)
  have hc2 := g2.cell t ht
  have hf2 := g2.free t
  have hsz2 : w1.heap.size < w2.heap.size := by have := b2.size; omega
  replace o2 : OwnII w2 (w1.heap.size + 1) la n lc (leaveTo ll n ll.length) := by rw [← hszd]; exact o2
  clear o1 g1 ct1 cw1 bd co ctd cwd gd hWd b2 bwd hszd Wd
  gi_wp2
  have hget : ∀ s, s < n → ∃ gl ra rn rc, la = some ⟨gl, 0, none⟩ ∧ w1.heap.size < gl ∧ gl < w2.heap.size ∧ w2.cell? ⟨gl, s, none⟩ = some (.slice ra rn rc) ∧ Ints w2 ra rn rc (rowTo ll s ll.length) ∧ ∀ x, ra = some x → w1.heap.size < x.block ∧ x.block < w2.heap.size := by
    intro s hs
    obtain ⟨gl, ra, rn, rc, e, hB, hlt, _, hc, ho, _⟩ := o2.at_ hs
    rw [leaveTo_at hs] at ho
    have hlen := ho.len
    have hrl := rowTo_length ll s ll.length
    have hmm := H.out
    refine ⟨gl, ra, rn, rc, e, by omega, hlt, hc, ho.ints (by omega) (fun x hx => ?_), fun x hx => ?_⟩
    · obtain ⟨i, hi, rfl⟩ := List.mem_map.1 hx
      have := (mem_idxTo.1 hi).1
      exact I64.small (by omega) (by omega)
    · have := ho.2.lt x.block (ownBlock_some hx)
      omega
  have HG := Lib.hid hget
  have h2 := h.below bw2
  have hlk : ∀ x, a = some x → 0 < m → x.block < w.heap.size := fun x hx hm0 => by
    obtain ⟨b, off, e, hb, _⟩ := h.at_ hm0
    rw [e] at hx; cases hx; exact hb
  have HLK := Lib.hid hlk
  have W4 := (Keep.setCell (hi := w2.heap.size) (g := g) w2 t (.int .i64 first)).trans (Keep.below (g := g) ((Below.refl (w2.setCell ⟨g, t, none⟩ (.int .i64 first)).heap.size _).alloc (Nat.le_refl _) (.cells #[.int .i64 ((t : Int) - 1)] 3)) (by simp [World.setCell]))
  have O4 : OwnI ((w2.setCell ⟨g, t, none⟩ (.int .i64 first)).alloc (.cells #[.int .i64 ((t : Int) - 1)] 3)) g (some ⟨g, 0, none⟩) n n (foldTo wth ll n t first (t - t)) := by
    rw [Nat.sub_self]; exact (g2.stored t first).alloc _
  have B4 : Below w.heap.size w ((w2.setCell ⟨g, t, none⟩ (.int .i64 first)).alloc (.cells #[.int .i64 ((t : Int) - 1)] 3)) := (bw2.setCell (by show w.heap.size ≤ g; omega) _).alloc (by simp [World.setCell]; omega) _
  have X4 : ((w2.setCell ⟨g, t, none⟩ (.int .i64 first)).alloc (.cells #[.int .i64 ((t : Int) - 1)] 3)).heap[w2.heap.size]? = some (.cells #[.int .i64 ((t : Int) - 1)] 3 (0, 0)) := by
    have := World.alloc_heap_new (w2.setCell ⟨g, t, none⟩ (.int .i64 first)) (.cells #[.int .i64 ((t : Int) - 1)] 3)
    simpa [World.setCell] using this
  generalize (w2.setCell ⟨g, t, none⟩ (.int .i64 first)).alloc (.cells #[.int .i64 ((t : Int) - 1)] 3) = W0 at *
  clear hget hlk hc2 hf2 g2 bw1 bw2
  refine wpIn_loop_ghost_k (fun k a' W' => ∃ (bs : Nat) (ds : List Deferred) (u28 u29 u30 u31 u32 u33 u34 u35 u66 : Value), k ≤ t ∧ w2.heap.size ≤ bs ∧ W'.heap[bs]? = some (.cells #[.int .i64 ((k : Int) - 1)] 3 (0, 0)) ∧ Keep w2.heap.size g w2 W' ∧
      OwnI W' g (some ⟨g, 0, none⟩) n n (foldTo wth ll n t first (t - k)) ∧ Below w.heap.size w W' ∧ Marks w2.heap.size ds W' ∧ a' = { tmps := #[.int .i64 n, .slice a m cap, .int .i64 t, .int .i64 first, .func (.func fv) #[] #[], undef, undef, .pointer (some ⟨w.heap.size, 0, none⟩), undef, .pointer (some ⟨w.heap.size + 1, 0, none⟩), .slice none 0 0, .pointer (some ⟨w1.heap.size, 0, none⟩), .slice la n lc, .pointer (some ⟨bs, 0, none⟩), undef, undef, .slice (some ⟨w.heap.size + 1 + 1, 0, none⟩) 1 1, .int .i64 n, .slice (some ⟨g, 0, none⟩) n n, .int .i64 n, .slice a m cap, .slice la n lc, .slice (some ⟨g, 0, none⟩) n n, .int .i64 t, .int .i64 first, .pointer (some ⟨g, t, none⟩), .int .i64 t, .int .i64 ((t : Int) - 1), u28, u29, u30, u31, u32, u33, u34, u35, undef, undef, undef, undef, undef, undef, undef, undef, undef, undef, undef, undef, undef, undef, undef, undef, undef, undef, undef, undef, undef, undef, undef, undef, undef, undef, undef, undef, undef, undef, u66, undef], defers := ds }) t ?_ ?_
  · exact ⟨w2.heap.size, [], undef, undef, undef, undef, undef, undef, undef, undef, undef, Nat.le_refl _, Nat.le_refl _, X4, W4, O4, B4, trivial, rfl⟩
  clear W4 O4 B4 X4 W0
  rintro k a' W' ⟨bs, ds, u28, u29, u30, u31, u32, u33, u34, u35, u66, hk, hbs, hbx, hK, hO, hB, hM, rfl⟩ J K hJ hKK
  have cbs := cell_of_one hbx
  have cbo : W'.cell? ⟨w1.heap.size, 0, none⟩ = some (.slice (some ⟨g, 0, none⟩) n n) := by rw [hK.cell (a := ⟨w1.heap.size, 0, none⟩) hsz2 (by show w1.heap.size ≠ g; omega)]; exact co2
  by_cases hk0 : k = 0
  · subst hk0
    rw [show ((0 : Nat) : Int) - 1 = -1 from rfl] at cbs
    gi_wp2
    refine leaves_marks (by simp) (Φ := fun W => OwnI W g (some ⟨g, 0, none⟩) n n (foldTo wth ll n t first (t - 0)) ∧ Below w.heap.size w W) ?_ ?_ ds W' hM ⟨hO, hB⟩
    · rintro W D ⟨h1, h2⟩ hD hd
      exact ⟨h1.putObj hd rfl _, h2.trans (belowK_b (w := w) (Nat.le_refl _) W D _ _ (by omega) hd rfl rfl)⟩
    · rintro W ⟨h1, h2⟩
      exact ⟨_, results_tmp rfl _ _ _, _, _, rfl, h1.mono (by omega), h2⟩
  · obtain ⟨s, rfl⟩ : ∃ s, k = s + 1 := ⟨k - 1, by omega⟩
    rw [show ((s + 1 : Nat) : Int) - 1 = (s : Int) by omega] at cbs
    clear hk0
    gi_wp2_with (refine ⟨trivial, ?_⟩; gi_at_call 42; refine (from_in _ a la m cap n lc s _).mono ?_; rintro e w' ⟨rfl, rfl⟩)
    obtain ⟨gl, ra, rn, rc, rfl, gl1, gl2, crow, hrow, hra⟩ := HG.out s (by omega)
    obtain ⟨WL, hWL⟩ : ∃ WL, WL = (((W'.alloc (.cells #[.slice a m cap] 22)).alloc (.cells #[.slice (some ⟨gl, 0, none⟩) n lc] 46)).alloc (.cells #[.int .i64 (s : Int)] 3)) := ⟨_, rfl⟩
    have hszL : WL.heap.size = W'.heap.size + 3 := by rw [hWL]; simp
    have bL : Below W'.heap.size W' WL := by rw [hWL]; exact (((Below.refl _ W').alloc (Nat.le_refl _) _).alloc (by simp) _).alloc (by simp; omega) _
    have y0 : WL.cell? ⟨W'.heap.size, 0, none⟩ = some (.slice a m cap) := by
      rw [hWL, World.cell?_alloc_past _ _ _ (by simp; omega), World.cell?_alloc_past _ _ _ (by simp)]; exact cell_lit1 _ _ _ rfl
    have y1 : WL.cell? ⟨W'.heap.size + 1, 0, none⟩ = some (.slice (some ⟨gl, 0, none⟩) n lc) := by
      rw [hWL, World.cell?_alloc_past _ _ _ (by simp)]; exact cell_lit1 _ _ _ (by simp)
    have y2 : WL.cell? ⟨W'.heap.size + 2, 0, none⟩ = some (.int .i64 (s : Int)) := by
      rw [hWL]; exact cell_lit1 _ _ _ (by simp)
    rw [← hWL]
    clear hWL
    have hszK := hK.1
    have hKL : Keep w2.heap.size g w2 WL := hK.trans (Keep.below bL hK.1)
    have hL6 : 0 < m → ∀ x, a = some x → x.block < w2.heap.size ∧ x.block ≠ g := fun h0 x hx => by have := HLK.out x hx h0; omega
    have hrd : FromRd (W'.heap.size + 1) (W'.heap.size + 2) W'.heap.size a m cap gl 0 n lc ra rn rc s ll WL :=
      ⟨y1, y2, y0, by rw [Nat.zero_add, hKL.cell (a := ⟨gl, s, none⟩) gl2 (by show gl ≠ g; omega)]; exact crow, hKL.ints hrow (fun x hx => by have := hra x hx; omega), hKL.links h2 hL6⟩
    clear y0 y1 y2 crow hrow
    have hfo := foldTo_ok HV.out (wth := wth) ht (first := first) (t - (s + 1)) (by omega)
    have hwi := foldTo_within HW.out HV.out ht hf0 (t - (s + 1)) (by omega)
    obtain ⟨O, hOe⟩ : ∃ O, O = foldTo wth ll n t first (t - (s + 1)) := ⟨_, rfl⟩
    have hOl : O.length = n := by rw [hOe]; exact foldTo_length _
    have hO1 : O.set s (frow wth ll O s) = foldTo wth ll n t first (t - s) := by
      rw [show t - s = (t - (s + 1)) + 1 by omega, foldTo, ← hOe, show t - 1 - (t - (s + 1)) = s by omega]
    rw [← hOe] at hfo hwi hO
    have hO0 : O.set s (-1) = O := by
      refine List.ext_getElem? fun j => ?_
      by_cases e : j = s
      · subst e
        rw [List.getElem?_set_self (by omega)]
        have h3 := hfo.2.2.1 j (by omega)
        rw [List.getElem?_eq_getElem (by omega)] at h3 ⊢
        exact congrArg some h3.symm
      · rw [List.getElem?_set_ne (Ne.symm e)]
    have HO1 := Lib.hid hO1
    have HFO := Lib.hid hfo
    have HWI := Lib.hid hwi
    clear hO1 hfo hwi hOe
    have hOL : OwnI WL g (some ⟨g, 0, none⟩) n n O := hO.below bL
    have hBL : Below w.heap.size w WL := hB.trans (bL.mono hB.size)
    have HSZL := Lib.hid hszL
    refine from_loop (n := 10) (by omega) (W'.heap.size + 1) (W'.heap.size + 2) W'.heap.size a ra m cap gl 0 n lc rn rc s ll g (fun x Bx t => ((t.setIfInBounds 36 (.int .i64 (x.1 : Int))).setIfInBounds 37 (.agg #[.int .i64 (lkAt ll x.1).1, .int .i64 (lkAt ll x.1).2.1, .int .i64 (lkAt ll x.1).2.2])).setIfInBounds 15 (.pointer (some ⟨Bx, 0, none⟩))) rfl hrd (by omega) hm (by omega) (by omega) (by omega) (by omega) (fun x hx => by have := hra x hx; omega) (fun h0 x hx => by have := hL6 h0 x hx; omega)
      (InI w WL g n (fun pre => O.set s (foldE wth ll O s pre))) (fun _ _ _ => False) (inI_own w WL g n _ _ (Nat.le_refl _) hBL.size) (fun _ _ _ _ _ hs _ _ => hs)
      ⟨Keep.refl _ _ _, by show OwnI WL g _ n n (O.set s (-1)); rw [hO0]; exact hOL, hBL⟩ ?assign ?body ?done ?stop
    all_goals clear hszL
    case stop => rintro D c pre W _ _ h _; exact h.elim
    case assign =>
      rintro l pre x W K ⟨i1, i2, i3⟩ hK2
      gi_wp2
      exact hK2 _ _ ((KeepsOthers.alloc _ _).from _) (Keep.below ((Below.refl _ W).alloc (Nat.le_refl _) _) i1.1) ((inI_own w WL g n WL.heap.size _ (Nat.le_refl _) hBL.size).alloc _ ⟨i1, i2, i3⟩) ⟨W.heap.size, i1.1, World.alloc_heap_new _ _, rfl⟩
    case done =>
      rintro D W hD ⟨i1, i2, i3⟩ hd
      replace i2 : OwnI W g (some ⟨g, 0, none⟩) n n (O.set s (foldE wth ll O s (rowE ll s))) := i2
      rw [foldE, rowE_foldl (fstep wth ll O) (-1)] at i2
      replace i2 : OwnI W g (some ⟨g, 0, none⟩) n n (foldTo wth ll n t first (t - s)) := by rw [← HO1.out]; exact i2
      have hbW : W.heap[bs]? = W'.heap[bs]? := (i1.2 bs (by have := (Array.getElem?_eq_some_iff.1 hbx).1; have := HSZL.out; omega) (by omega)).trans (bL.block bs (Array.getElem?_eq_some_iff.1 hbx).1)
      have cbs2 := cell_of_one (hbW.trans hbx)
      rw [show ((s + 1 : Nat) : Int) - 1 = (s : Int) by omega] at cbs2
      dsimp only
      gi_wp2
      refine Handed.intro s (by omega) (hJ _ _ _ ⟨W.heap.size, { target := .collected D, args := #[] } :: ds, _, _, _, _, _, _, _, _, _, by omega, by have := i1.1; have := HSZL.out; omega, ?_, ?_, i2.alloc _, i3.alloc i3.size _, ?_, rfl⟩)
      · exact World.alloc_heap_new _ _
      · exact (hKL.trans (i1.mono hKL.1)).trans (Keep.below ((Below.refl _ W).alloc (Nat.le_refl _) _) (by have := i1.1; have := HSZL.out; omega))
      · have hMM : Marks w2.heap.size ds (W.alloc (.cells #[.int .i64 ((s : Int) - 1)] 3)) := hM.keep (fun D' _ h => by
          have hlt := (Array.getElem?_eq_some_iff.1 h).1
          rw [Below.heap_alloc _ _ _ (by have := i1.1; have := HSZL.out; omega), i1.2 D' (by have := HSZL.out; omega) (by omega), bL.block D' hlt]; exact h)
        refine hMM.cons (by have := HSZL.out; omega) (by rw [Below.heap_alloc _ _ _ (Array.getElem?_eq_some_iff.1 hd).1]; exact hd) (fun h => ?_)
        have := hM.lt D h
        have := HSZL.out
        omega
    case body =>
      rintro l pre x a' W ⟨i1, i2, i3⟩ ⟨Bx, hBx, hx, rfl⟩ hlt
      replace i2 : OwnI W g (some ⟨g, 0, none⟩) n n (O.set s (foldE wth ll O s pre)) := i2
      obtain ⟨f, tt, hx1, hx2, hft, htn, hc0, hc1⟩ := HV.out x.1 (mem_idx.1 x.2).1
      have e1 : W.cell? ⟨Bx, 1, none⟩ = some (.int .i64 (tt : Int)) := by simp [World.cell?, hx, hx2]
      have e2 : W.cell? ⟨Bx, 2, none⟩ = some (.int .i64 (lkAt ll x.1).2.2) := by simp [World.cell?, hx]
      have e3 : W.cell? ⟨w.heap.size, 0, none⟩ = some (.int .i64 (t : Int)) := by
        rw [(hKL.trans (i1.mono hKL.1)).cell (a := ⟨w.heap.size, 0, none⟩) (by show w.heap.size < _; omega) (by show w.heap.size ≠ g; omega)]; exact ct2
      have e4 : W.cell? ⟨w.heap.size + 1, 0, none⟩ = some (.func (.func fv) #[] #[]) := by
        rw [(hKL.trans (i1.mono hKL.1)).cell (a := ⟨w.heap.size + 1, 0, none⟩) (by show w.heap.size + 1 < _; omega) (by show w.heap.size + 1 ≠ g; omega)]; exact cw2
      have e5 : W.cell? ⟨w1.heap.size, 0, none⟩ = some (.slice (some ⟨g, 0, none⟩) n n) := by
        rw [(hKL.trans (i1.mono hKL.1)).cell (a := ⟨w1.heap.size, 0, none⟩) hsz2 (by show w1.heap.size ≠ g; omega)]; exact co2
      have e6 : W.cell? ⟨bs, 0, none⟩ = some (.int .i64 (s : Int)) := by
        rw [i1.cell (a := ⟨bs, 0, none⟩) (by show bs < _; have := (Array.getElem?_eq_some_iff.1 hbx).1; have := HSZL.out; omega) (by show bs ≠ g; omega)]; exact cell_later bL cbs
      have hs := i2.cell s (by omega)
      have hd := i2.cell tt htn
      have hfz := i2.free s
      have hdd : dst ll x.1 = tt := by rw [dst, hx2]; rfl
      rw [List.getElem?_set_self (by omega)] at hs
      rw [List.getElem?_set_ne (by have : (lkAt ll x.1).1 = (s : Int) := (mem_idx.1 x.2).2; omega)] at hd
      have hpos := HWI.out tt
      have hb := frow_within HW.out HV.out (by omega) HWI.out (pre.map (·.1)) (fun i hi => by obtain ⟨y, _, rfl⟩ := List.mem_map.1 hi; exact (mem_idx.1 y.2).1) (-1) (by omega)
      rw [List.foldl_map] at hb
      change -1 ≤ foldE wth ll O s pre ∧ foldE wth ll O s pre ≤ _ at hb
      have hnext : foldE wth ll O s (pre ++ [x]) = fstep wth ll O (foldE wth ll O s pre) x.1 := by rw [foldE, List.foldl_append]; rfl
      obtain ⟨b, hbe⟩ : ∃ b, b = foldE wth ll O s pre := ⟨_, rfl⟩
      rw [← hbe] at hnext
      rw [← hbe] at hs hb i2
      have HN := Lib.hid hnext
      clear hnext hbe
      have hno : ∀ W', OwnI W' g (some ⟨g, 0, none⟩) n n (O.set s (fstep wth ll O b x.1)) → OwnI W' g (some ⟨g, 0, none⟩) n n (O.set s (foldE wth ll O s (pre ++ [x]))) := fun W' h => by rw [HN.out]; exact h
      have HNO := Lib.hid hno
      have hst : fstep wth ll O b x.1 = if 0 ≤ O[tt]?.getD 0 then wth b (lkAt ll x.1).2.2 (O[tt]?.getD 0) else b := by rw [fstep, hdd]; rfl
      have hab : t < tt → O[tt]?.getD 0 = -1 := fun h => HFO.out.2.1 tt h htn
      generalize O[tt]?.getD 0 = v at *
      have HST := Lib.hid hst
      clear hno hst hdd
      by_cases h1 : tt ≤ t
      · by_cases h2' : 0 ≤ v
        · have hdec : decide (0 ≤ v) = true := by simpa using h2'
          have HST2 : Hid (fstep wth ll O b x.1 = wth b (lkAt ll x.1).2.2 v) := by show _ = _; rw [HST.out, if_pos h2']
          obtain ⟨X, Wf, hX, hS1, hS2⟩ := family (fun w' => ∃ q, w' = W.drewN q) W.drew ⟨1, rfl⟩
          have c3 : ∀ x, (Wf x).cell? ⟨w.heap.size, 0, none⟩ = some (.int .i64 (t : Int)) := fun x => by obtain ⟨q, hq⟩ := hS1 x; rw [hq]; exact e3
          have c4 : ∀ x, (Wf x).cell? ⟨w.heap.size + 1, 0, none⟩ = some (.func (.func fv) #[] #[]) := fun x => by obtain ⟨q, hq⟩ := hS1 x; rw [hq]; exact e4
          have c5 : ∀ x, (Wf x).cell? ⟨w1.heap.size, 0, none⟩ = some (.slice (some ⟨g, 0, none⟩) n n) := fun x => by obtain ⟨q, hq⟩ := hS1 x; rw [hq]; exact e5
          have c6 : ∀ x, (Wf x).cell? ⟨bs, 0, none⟩ = some (.int .i64 (s : Int)) := fun x => by obtain ⟨q, hq⟩ := hS1 x; rw [hq]; exact e6
          have c1 : ∀ x, (Wf x).cell? ⟨Bx, 1, none⟩ = some (.int .i64 (tt : Int)) := fun x => by obtain ⟨q, hq⟩ := hS1 x; rw [hq]; exact e1
          have c2 : ∀ y, (Wf y).cell? ⟨Bx, 2, none⟩ = some (.int .i64 (lkAt ll x.1).2.2) := fun y => by obtain ⟨q, hq⟩ := hS1 y; rw [hq]; exact e2
          have c7 : ∀ x, (Wf x).cell? ⟨g, s, none⟩ = some (.int .i64 b) := fun x => by obtain ⟨q, hq⟩ := hS1 x; rw [hq]; exact hs
          have c8 : ∀ x, (Wf x).cell? ⟨g, tt, none⟩ = some (.int .i64 (v)) := fun x => by obtain ⟨q, hq⟩ := hS1 x; rw [hq]; exact hd
          have HS2 := Lib.hid hS2
          clear hS1 hS2
          have hsn : s < n := by omega
          gi_wp2
          refine wpIn_region_readsR (Wf := Wf) 15 [0, 1, 2, 3, 4, 5, 6, 7, 8, 9, 10, 11, 12, 13] [14] (by kernel_rfl) (by kernel_rfl) (by kernel_rfl) (fun _ _ h => h) (fun _ _ d _ _ h => by cases d <;> exact h) (HS2.out _ ⟨1, rfl⟩) ?_
          simp only [pickOps, List.filterMap_cons, List.filterMap_nil, List.getElem?_cons_zero, List.getElem?_cons_succ]
          repeat (refine wpReads_step (fun K hK => ?_); unfold rOp; go_simp; (refine hK _ ?_; clear hK K))
          refine wpReads_nil ?_
          refine wpActs_cons ?_
          go_wp2
          rw [HENT.out, Oper.upon_enter]
          refine (HCALL.out _ _ _ W.drew hb.1 (by have := hb.2; omega) hc0 hc1 h2' (by omega)).mono ?_
          rintro e W3 ⟨rfl, rfl⟩
          rename_i K9 hK9
          refine hK9 _ _ ?_
          refine ⟨HS2.out _ ⟨1, rfl⟩, wpActs_nil ?_⟩
          go_wp2
          exact ⟨((KeepsOthers.setCell _ _ _).trans (KeepsOthers.drew _)).from _, (Keep.setCell W s _).trans (Keep.drew _), i1.trans ((Keep.setCell W s _).trans (Keep.drew _)),
            HNO.out _ (by have h5 := (i2.stored s (wth b (lkAt ll x.1).2.2 v)).drew; rw [List.set_set] at h5; rw [HST2.out]; exact h5), (i3.setCell (by show w.heap.size ≤ g; omega) _).drew⟩
        · have hdec : decide (0 ≤ v) = false := by simpa using h2'
          have HST2 : Hid (fstep wth ll O b x.1 = b) := by show _ = _; rw [HST.out, if_neg h2']
          gi_wp2
          exact ⟨KeepsFrom.refl _ _, Keep.refl _ _ _, i1, HNO.out _ (by rw [HST2.out]; exact i2), i3⟩
      · have HST2 : Hid (fstep wth ll O b x.1 = b) := by show _ = _; rw [HST.out, if_neg (by rw [hab (by omega)]; decide)]
        clear hab
        gi_wp2
        exact ⟨KeepsFrom.refl _ _, Keep.refl _ _ _, i1, HNO.out _ (by rw [HST2.out]; exact i2), i3⟩
end Go.Proofs.Ytebmachppbpdmaa
