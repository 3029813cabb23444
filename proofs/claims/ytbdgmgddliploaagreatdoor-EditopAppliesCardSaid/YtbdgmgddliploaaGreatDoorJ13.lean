/- Joined: EPut, EGre, EAwp. -/
import Derived.Test.YtbdgmgddliploaaGreatDoorJ08
import Derived.Test.YtbdgmgddliploaaGreatDoorJ01
import Derived.Test.YtbdgmgddliploaaGreatDoorJ12
import Derived.Test.YtbdgmgddliploaaGreatDoorJ10
import Derived.Lib.Join
import Derived.Test.YtbdgmgddliploaaGreatDoorJ02
import Derived.Test.YtbdgmgddliploaaGreatDoorJ09
import Derived.Test.YtbdgmgddliploaaGreatDoorJ04
set_option linter.unusedVariables false
set_option linter.unusedSimpArgs false
set_option maxRecDepth 100000
set_option maxHeartbeats 16000000
namespace Go.Proofs.YtbdgmgddliploaaGreatDoor

def Op.zero : Op := ⟨0, ⟨#[]⟩, 0, 0, ⟨#[]⟩⟩
end Go.Proofs.YtbdgmgddliploaaGreatDoor

/- Plain: the number of columns behind an operation; where tokens that are not moved stand. No program. -/
namespace Go.Proofs.YtbdgmgddliploaaGreatDoor

theorem mem_oneAt {s : Nat} {c : List Int} {t : Int} : t ∈ oneAt s c ↔ ent c s = t /\ t ≠ -1 := by
  unfold oneAt
  split
  · rename_i h
    simp only [List.not_mem_nil, false_iff, not_and]
    intro e; rw [<- e]; simpa using h
  · rename_i h
    rw [List.mem_singleton]
    constructor
    · rintro rfl; exact ⟨rfl, h⟩
    · rintro ⟨e, _⟩; exact e.symm
theorem mem_seqAt {s : Nat} {cols : List (List Int)} {t : Int} : t ∈ seqAt s cols ↔ ∃ c ∈ cols, ent c s = t /\ t ≠ -1 := by
  unfold seqAt; rw [List.mem_flatMap]; simp only [mem_oneAt]
theorem upFrom_nodup : ∀ (m : Nat) (a : Int), (upFrom a m).Nodup
  | 0, _ => List.nodup_nil
  | m + 1, a => by
    rw [upFrom, List.nodup_cons, upFrom_mem]
    exact ⟨by omega, upFrom_nodup m _⟩
theorem at_uniq {x : Col} (hg : Good x.lens x.cols) {s c : Nat} {t : Int} (hs : s < x.lens.length) (hc : c < x.cols.length) (he : ent (x.row c) s = t) (ht : 0 <= t) : x.at_ s t = some c := by
  unfold Col.at_
  refine firstFrom_some.2 ⟨Nat.zero_le _, hc, decide_eq_true he, fun i _ hi => decide_eq_false fun e => ?_⟩
  obtain ⟨P, Q, hq, hl⟩ := split_at (l := x.cols) (c := i) (by omega) []
  have hr : x.row c ∈ Q := by
    unfold Col.row
    rw [hq, List.getElem?_append_right (by omega), show c - P.length = (c - P.length - 1) + 1 by omega, List.getElem?_cons_succ]
    have hlt : c - P.length - 1 < Q.length := by
      have := congrArg List.length hq
      rw [List.length_append, List.length_cons] at this
      omega
    rw [List.getElem?_eq_getElem hlt]
    exact List.getElem_mem hlt
  have hn := upFrom_nodup (x.lens[s]?.getD 0) 0
  rw [<- hg.2 s hs, hq, seqAt_append, seqAt_cons] at hn
  have h1 : t ∈ oneAt s (x.cols[i]?.getD []) := mem_oneAt.2 ⟨e, by omega⟩
  have h2 : t ∈ seqAt s Q := mem_seqAt.2 ⟨_, hr, he, by omega⟩
  have h3 := (List.nodup_append.1 (List.nodup_append.1 hn).2.1).2.2
  exact h3 t h1 t h2 rfl
theorem at_some {x : Col} {s c : Nat} {t : Int} (h : x.at_ s t = some c) : c < x.cols.length /\ ent (x.row c) s = t := by
  obtain ⟨_, h1, h2, _⟩ := firstFrom_some.1 h
  exact ⟨h1, of_decide_eq_true h2⟩
theorem at_exists {x : Col} (hv : x.err = 0) {s : Nat} {t : Int} (hs : s < x.sigla.length) (h0 : 0 <= t) (h1 : t < ((x.tks s).length : Int)) : ∃ c, x.at_ s t = some c := by
  obtain ⟨hh, hg⟩ := err_iff.1 hv
  have hsl : s < x.lens.length := by rw [lens_len, hh.len]; exact hs
  have hm : t ∈ seqAt s x.cols := by
    rw [hg.2 s hsl, upFrom_mem, lens_get]; omega
  obtain ⟨r, hr, he, _⟩ := mem_seqAt.1 hm
  obtain ⟨c, hc, rfl⟩ := List.getElem_of_mem hr
  exact ⟨c, at_uniq hg hsl hc (by unfold Col.row; rw [List.getElem?_eq_getElem hc]; exact he) h0⟩

end Go.Proofs.YtbdgmgddliploaaGreatDoor

/- Plain: a valid collation has no more columns than tokens; entries are bounded. No program. -/
namespace Go.Proofs.YtbdgmgddliploaaGreatDoor

def sumTo (f : Nat -> Nat) : Nat -> Nat
  | 0 => 0
  | n + 1 => sumTo f n + f n
theorem sumTo_add (f g : Nat -> Nat) : ∀ n, sumTo (fun i => f i + g i) n = sumTo f n + sumTo g n
  | 0 => rfl
  | n + 1 => by simp only [sumTo]; rw [sumTo_add f g n]; omega
theorem sumTo_pos {f : Nat -> Nat} : ∀ {n s : Nat}, s < n -> 0 < f s -> 0 < sumTo f n
  | n + 1, s, h, h0 => by
    simp only [sumTo]
    by_cases e : s = n
    · subst e; omega
    · have := sumTo_pos (f := f) (n := n) (s := s) (by omega) h0; omega
theorem sumTo_le {f : Nat -> Nat} {m : Nat} : ∀ {n : Nat}, (∀ s, s < n -> f s <= m) -> sumTo f n <= n * m
  | 0, _ => by simp [sumTo]
  | n + 1, h => by
    simp only [sumTo]
    have h1 := sumTo_le (f := f) (m := m) (n := n) (fun s hs => h s (by omega))
    have h2 := h n (by omega)
    rw [Nat.add_mul, Nat.one_mul]; omega
theorem cols_le {n : Nat} : ∀ (cols : List (List Int)), (∀ c ∈ cols, ∃ s, s < n /\ ent c s ≠ -1) -> cols.length <= sumTo (fun s => (seqAt s cols).length) n
  | [], _ => Nat.zero_le _
  | c :: r, h => by
    have h1 := cols_le r (fun c hc => h c (List.mem_cons_of_mem _ hc))
    obtain ⟨s, hs, he⟩ := h c List.mem_cons_self
    have e : (fun s => (seqAt s (c :: r)).length) = fun s => (oneAt s c).length + (seqAt s r).length := by funext s; rw [seqAt_cons, List.length_append]
    rw [e, sumTo_add]
    have := sumTo_pos (f := fun s => (oneAt s c).length) hs (by show 0 < (oneAt s c).length; unfold oneAt; rw [if_neg he]; simp)
    rw [List.length_cons]; omega
theorem cols_bound {x : Col} (hv : x.err = 0) : x.cols.length <= 32768 := by
  obtain ⟨hh, hg⟩ := err_iff.1 hv
  have h1 := cols_le x.cols (fun c hc => (hg.1 c hc).2)
  have h2 : sumTo (fun s => (seqAt s x.cols).length) x.lens.length <= x.lens.length * 1024 := sumTo_le fun s hs => by
    rw [hg.2 s hs, upFrom_length, lens_get]
    exact (hh.toks _ (tks_mem (by rw [<- lens_len]; exact hs))).1
  have h3 : x.lens.length <= 32 := by rw [lens_len, hh.len]; exact hh.most
  omega
theorem cols_small {x : Col} (hv : x.err = 0) {c : List Int} (hc : c ∈ x.cols) : c.length <= 32 /\ 0 < c.length /\ ∀ u ∈ c, -1 <= u /\ u < 1024 := by
  obtain ⟨hh, hg⟩ := err_iff.1 hv
  have h3 : x.lens.length <= 32 := by rw [lens_len, hh.len]; exact hh.most
  have h4 : 0 < x.lens.length := by rw [lens_len, hh.len]; exact hh.pos
  have hl := hg.mem hc
  refine ⟨by omega, by omega, fun u hu => ?_⟩
  obtain ⟨i, hi, rfl⟩ := List.getElem_of_mem hu
  have e : c[i] = ent c i := by unfold ent; rw [List.getElem?_eq_getElem hi]; rfl
  rw [e]
  have h5 := (hh.toks _ (tks_mem (s := i) (by rw [<- lens_len]; omega))).1
  rcases hg.ent hc (s := i) (by omega) with q | ⟨q1, q2⟩
  · omega
  · rw [lens_get] at q2; omega
end Go.Proofs.YtbdgmgddliploaaGreatDoor

/- A struct of three, or of four, cells is stored. -/
namespace Go.Proofs.YtbdgmgddliploaaGreatDoor
open Go.RowKit

theorem heap_set_at {W : World} {b j : Nat} {cs : Array Value} {t : TypeId} {fr : Nat × Nat} (h : W.heap[b]? = some (.cells cs t fr)) (v : Value) : (W.setCell ⟨b, j, none⟩ v).heap[b]? = some (.cells (cs.setIfInBounds j v) t fr) := by
  simp [World.setCell, Array.getElem?_modify, h]
abbrev put3 (W : World) (b : Nat) (d0 d1 d2 : Value) : World := ((W.setCell ⟨b, 0, none⟩ d0).setCell ⟨b, 1, none⟩ d1).setCell ⟨b, 2, none⟩ d2
theorem put3_at {W : World} {b : Nat} {c0 c1 c2 : Value} {t : TypeId} {fr : Nat × Nat} (h : W.heap[b]? = some (.cells #[c0, c1, c2] t fr)) (d0 d1 d2 : Value) : (put3 W b d0 d1 d2).heap[b]? = some (.cells #[d0, d1, d2] t fr) := by
  have h0 := heap_set_at (j := 0) h d0
  have h1 := heap_set_at (j := 1) h0 d1
  have h2 := heap_set_at (j := 2) h1 d2
  rw [h2]; rfl
theorem put3_below {n : Nat} {A W : World} (h : Below n A W) {b : Nat} (hb : n <= b) (d0 d1 d2 : Value) : Below n A (put3 W b d0 d1 d2) :=
  ((h.setCell (p := ⟨b, 0, none⟩) hb _).setCell (p := ⟨b, 1, none⟩) hb _).setCell (p := ⟨b, 2, none⟩) hb _
theorem box_cells3 {W : World} {b : Nat} {c0 c1 c2 : Value} {t : TypeId} (h : W.heap[b]? = some (.cells #[c0, c1, c2] t (0, 0))) :
    W.cell? ⟨b, 0, none⟩ = some c0 /\ W.cell? ⟨b, 1, none⟩ = some c1 /\ W.cell? ⟨b, 2, none⟩ = some c2 /\ ∀ j, W.frozen? ⟨b, j, none⟩ = false :=
  ⟨by rw [Lib.cell_of_heap h]; rfl, by rw [Lib.cell_of_heap h]; rfl, by rw [Lib.cell_of_heap h]; rfl, fun j => Lib.frozen_of_heap h j⟩
abbrev put4 (W : World) (b : Nat) (d0 d1 d2 d3 : Value) : World := (((W.setCell ⟨b, 0, none⟩ d0).setCell ⟨b, 1, none⟩ d1).setCell ⟨b, 2, none⟩ d2).setCell ⟨b, 3, none⟩ d3
theorem put4_at {W : World} {b : Nat} {c0 c1 c2 c3 : Value} {t : TypeId} {fr : Nat × Nat} (h : W.heap[b]? = some (.cells #[c0, c1, c2, c3] t fr)) (d0 d1 d2 d3 : Value) : (put4 W b d0 d1 d2 d3).heap[b]? = some (.cells #[d0, d1, d2, d3] t fr) := by
  have h0 := heap_set_at (j := 0) h d0
  have h1 := heap_set_at (j := 1) h0 d1
  have h2 := heap_set_at (j := 2) h1 d2
  have h3 := heap_set_at (j := 3) h2 d3
  rw [h3]; rfl
theorem put4_other {W : World} {b b' : Nat} (hb : b' ≠ b) (d0 d1 d2 d3 : Value) : (put4 W b d0 d1 d2 d3).heap[b']? = W.heap[b']? := by
  have hh : ∀ (W : World) (j : Nat) (v : Value), (W.setCell ⟨b, j, none⟩ v).heap[b']? = W.heap[b']? := fun W j v => Below.heap_setCell _ _ _ _ (by simpa using hb)
  rw [hh, hh, hh, hh]
theorem put4_size (W : World) (b : Nat) (d0 d1 d2 d3 : Value) : (put4 W b d0 d1 d2 d3).heap.size = W.heap.size := by simp [World.setCell]
theorem put4_below {n : Nat} {A W : World} (h : Below n A W) {b : Nat} (hb : n <= b) (d0 d1 d2 d3 : Value) : Below n A (put4 W b d0 d1 d2 d3) :=
  (((h.setCell (p := ⟨b, 0, none⟩) hb _).setCell (p := ⟨b, 1, none⟩) hb _).setCell (p := ⟨b, 2, none⟩) hb _).setCell (p := ⟨b, 3, none⟩) hb _
theorem put4_keep {S : Nat -> Prop} {W : World} {b : Nat} (hb : ¬ S b) (d0 d1 d2 d3 : Value) : KeepS S W (put4 W b d0 d1 d2 d3) :=
  (((KeepS.setCell W hb d0).trans (KeepS.setCell _ hb d1)).trans (KeepS.setCell _ hb d2)).trans (KeepS.setCell _ hb d3)
theorem box_cells4 {W : World} {b : Nat} {c0 c1 c2 c3 : Value} {t : TypeId} (h : W.heap[b]? = some (.cells #[c0, c1, c2, c3] t (0, 0))) :
    W.cell? ⟨b, 0, none⟩ = some c0 /\ W.cell? ⟨b, 1, none⟩ = some c1 /\ W.cell? ⟨b, 2, none⟩ = some c2 /\ W.cell? ⟨b, 3, none⟩ = some c3 /\ ∀ j, W.frozen? ⟨b, j, none⟩ = false :=
  ⟨by rw [Lib.cell_of_heap h]; rfl, by rw [Lib.cell_of_heap h]; rfl, by rw [Lib.cell_of_heap h]; rfl, by rw [Lib.cell_of_heap h]; rfl, fun j => Lib.frozen_of_heap h j⟩
end Go.Proofs.YtbdgmgddliploaaGreatDoor
namespace Go.Proofs.YtbdgmgddliploaaGreatDoor
open Go.RowKit

def great (x : Col) : Bool := (x.cols.any fun r => decide (36 < r.length)) || (greatToks x.toks || decide (24 < x.cols.length) || decide (36 < x.sigla.length) || greatNames x.sec x.sigla)
theorem greatGo_tok {L : Nat} : ∀ {i n : Nat} {l : List (List Tok)}, greatGo L i n l = false -> ∀ r ∈ l, ∀ t ∈ r, tokGreat t = false
  | _, _, [], _ => by simp
  | i, n, r :: rs, h => by
    unfold greatGo at h
    simp only [Bool.or_eq_false_iff] at h
    intro r' hr' t ht
    rcases List.mem_cons.1 hr' with rfl | hr'
    · have := List.any_eq_false.1 h.2.1 t ht
      simpa using this
    · exact greatGo_tok h.2.2 r' hr' t ht
theorem great_sml {x : Col} (h : great x = false) : Sml x := by
  unfold great at h
  simp only [Bool.or_eq_false_iff] at h
  obtain ⟨-, ⟨⟨h1, -⟩, -⟩, h2⟩ := h
  refine ⟨fun s hs => ?_, fun r hr t ht => ?_⟩
  · unfold greatNames at h2
    rw [Bool.or_eq_false_iff, List.any_eq_false] at h2
    have := h2.1 s hs
    simp at this; omega
  · have := greatGo_tok h1 r hr t ht
    unfold tokGreat at this
    simp at this
    unfold SmT; omega
theorem great_ref (S : Nat -> Prop) (v : CV) (x : Col) (w : World) (h : RdC S w v x) : Calls Tryz.prog 11 #[v.val] w fun e w' => e = .returned (.bool (great x)) /\ Below w.heap.size w w' := by
  obtain ⟨sec, sa, sn, sc, ta, tn, tc, ca, cn, cc⟩ := v
  obtain ⟨xs, xg, xt, xc⟩ := x
  obtain ⟨h0, -, h2, h3, h4⟩ := h
  dsimp only at h0 h2 h3 h4
  subst h0
  have HC := hiq h4.len
  have HSN := hiq h2.len
  have hcb := h4.bound
  have hb0 : Below w.heap.size w (w.alloc (.cells #[.string sec, .slice sa sn sc, .slice ta tn tc, .slice ca cn cc] 26)) := (Below.refl _ _).alloc (Nat.le_refl _) _
  obtain ⟨c0, c1, c2, c3, -⟩ := box_cells4 (World.alloc_heap_new w (.cells #[.string sec, .slice sa sn sc, .slice ta tn tc, .slice ca cn cc] 26))
  have HT : Hid (∀ W, Below w.heap.size w W -> Calls Tryz.prog 36 #[.slice ta tn tc] W fun e w' => e = .returned (.bool (greatToks xt)) /\ Below W.heap.size W w') := fun W hb => greatToks_ref S ta tn tc xt W (h3.below (rSl_ok rTok_ok) hb)
  have HNM : Hid (∀ W, Below w.heap.size w W -> Calls Tryz.prog 37 #[.string sec, .slice sa sn sc] W fun e w' => e = .returned (.bool (greatNames sec xg)) /\ W = w') := fun W hb => greatNames_ref S sa sn sc sec xg W (h2.below rStr_ok hb)
  have h4' := h4.below (rSl_ok rInt_ok) hb0
  have hE : Hid (great ⟨sec, xg, xt, xc⟩ = (((xc.drop 0).any fun r => decide (36 < r.length)) || (greatToks xt || decide (24 < cn) || decide (36 < sn) || greatNames sec xg))) := by
    show _ = _; unfold great; rw [h4.len, h2.len]; rfl
  generalize great ⟨sec, xg, xt, xc⟩ = R at *
  generalize greatToks xt = T at *
  generalize greatNames sec xg = N at *
  clear h2 h3 h4
  change Calls _ _ #[.agg #[.string sec, .slice sa sn sc, .slice ta tn tc, .slice ca cn cc]] _ _
  go_enter Tryz.func11, Tryz.ntmps11
  have HW := hiq hb0
  have H4 := hiq h4'
  clear hb0 h4'
  go_wp2
  generalize w.alloc (.cells #[.string sec, .slice sa sn sc, .slice ta tn tc, .slice ca cn cc] 26) = W1 at *
  go_loop [3] (fun i => ∃ k : Nat, i = .int .i64 k /\ k <= cn /\ Hid (R = (((xc.drop k).any fun r => decide (36 < r.length)) || (T || decide (24 < cn) || decide (36 < sn) || N)))) (fun i => cn - (intOf i).toNat)
  case atStart => exact ⟨0, rfl, Nat.zero_le _, hE.out⟩
  case round =>
    obtain ⟨k, rfl, hk, hx⟩ := hrel
    by_cases hkl : k < cn
    · obtain ⟨u, b, off, a', n', c', hu, -, ea, -, -, hr, d1⟩ := H4.out.row hkl
      subst ea
      have hst := hx.out
      rw [any_drop hu, <- hr.len] at hst
      have HST := hiq hst
      clear hx hu hst hr
      by_cases g : 36 < n'
      · have HR : Hid (R = true) := by show _ = _; rw [HST.out, decide_eq_true g]; rfl
        clear HST
        go_wp2
        go_ret
        exact ⟨ret_bool HR.out.symm, HW.out⟩
      · have HN2 : Hid (R = (((xc.drop (k + 1)).any fun r => decide (36 < r.length)) || (T || decide (24 < cn) || decide (36 < sn) || N))) := by show _ = _; rw [HST.out, decide_eq_false g]; rfl
        clear HST
        go_wp2
        go_round
        case rel => exact ⟨k + 1, by go_num, by omega, HN2.out⟩
        case measure => simp [intOf]; omega
    · have HR : Hid (R = (T || decide (24 < cn) || decide (36 < sn) || N)) := by show _ = _; rw [hx.out, List.drop_of_length_le (by rw [<- HC.out]; omega)]; rfl
      have HTT := hiq (HT.out _ HW.out)
      clear hx hE
      go_wp2_with fail
      refine HTT.out.mono ?_
      rintro e W2 ⟨rfl, hb2⟩
      have hb3 := HW.out.trans (hb2.mono HW.out.size)
      replace c0 := clq hb2 c0; replace c1 := clq hb2 c1; replace c2 := clq hb2 c2; replace c3 := clq hb2 c3
      have HNN := hiq (HNM.out _ hb3)
      clear hb2 HTT
      cases T with
      | true =>
        go_wp2
        go_ret
        exact ⟨ret_bool (by rw [HR.out]; rfl), hb3⟩
      | false =>
        by_cases p1 : 24 < cn
        · go_wp2
          go_ret
          exact ⟨ret_bool (by rw [HR.out, decide_eq_true p1]; rfl), hb3⟩
        · by_cases p2 : 36 < sn
          · go_wp2
            go_ret
            exact ⟨ret_bool (by rw [HR.out, decide_eq_true p2]; simp), hb3⟩
          · go_wp2_with (go_at_call 37; refine HNN.out.mono ?_; rintro e w' ⟨rfl, rfl⟩)
            go_ret
            exact ⟨ret_bool (by rw [HR.out, decide_eq_false p1, decide_eq_false p2, decide_eq_false (show ¬ (24 : Int) < (cn : Int) by omega), decide_eq_false (show ¬ (36 : Int) < (sn : Int) by omega)]; rfl), hb3⟩
end Go.Proofs.YtbdgmgddliploaaGreatDoor
namespace Go.Proofs.YtbdgmgddliploaaGreatDoor

def fourZ : List Op := [⟨1, ⟨#[]⟩, 0, 0, ⟨#[]⟩⟩, ⟨2, ⟨#[]⟩, 0, 0, ⟨#[]⟩⟩, ⟨3, ⟨#[]⟩, 0, -1, ⟨#[]⟩⟩, ⟨3, ⟨#[]⟩, 0, 1, ⟨#[]⟩⟩]
theorem fourZ_get {k : Nat} (h : k < 4) (s : ByteArray) (t : Nat) : ∃ z, fourZ[k]? = some z /\ z.sig = ⟨#[]⟩ /\ z.tok = 0 /\ z.text = ⟨#[]⟩ /\ (four s t)[k]? = some ⟨z.kind, s, (t : Int), z.other, z.text⟩ := by
  match k, h with
  | 0, _ => exact ⟨_, rfl, rfl, rfl, rfl, rfl⟩
  | 1, _ => exact ⟨_, rfl, rfl, rfl, rfl, rfl⟩
  | 2, _ => exact ⟨_, rfl, rfl, rfl, rfl, rfl⟩
  | 3, _ => exact ⟨_, rfl, rfl, rfl, rfl, rfl⟩
def sgl (x : Col) (i : Nat) : ByteArray := x.sigla[i]?.getD ⟨#[]⟩
def preI (x : Col) (i : Nat) : List Op := (List.range i).flatMap (opsOf x)
def preT (x : Col) (i t : Nat) : List Op := preI x i ++ (List.range t).flatMap (opsAt x (sgl x i))
def preK (x : Col) (i t k : Nat) : List Op := preT x i t ++ ((four (sgl x i) t).take k).filter fun o => decide (opErr x o = 0)
theorem range_pre {α : Type} (f : Nat -> List α) {i : Nat} : ∀ m, (List.range i).flatMap f <+: (List.range (i + m)).flatMap f
  | 0 => List.prefix_rfl
  | m + 1 => (range_pre f m).trans (by rw [show i + (m + 1) = (i + m) + 1 by omega, List.range_succ, List.flatMap_append]; exact List.prefix_append _ _)
theorem preI_all (x : Col) : preI x x.sigla.length = allOps x := rfl
theorem preI_pre {x : Col} {i : Nat} (h : i <= x.sigla.length) : preI x i <+: allOps x := by
  have := range_pre (opsOf x) (i := i) (x.sigla.length - i)
  rwa [show i + (x.sigla.length - i) = x.sigla.length by omega] at this
theorem preT_end (x : Col) (i : Nat) : preT x i (x.tks i).length = preI x (i + 1) := by
  unfold preT preI
  rw [List.range_succ, List.flatMap_append]; simp [opsOf, sgl]
theorem preT_pre {x : Col} {i t : Nat} (h : i < x.sigla.length) (ht : t <= (x.tks i).length) : preT x i t <+: allOps x := by
  refine List.IsPrefix.trans ?_ (preI_pre (i := i + 1) (by omega))
  rw [<- preT_end]
  unfold preT
  have := range_pre (opsAt x (sgl x i)) (i := t) ((x.tks i).length - t)
  rw [show t + ((x.tks i).length - t) = (x.tks i).length by omega] at this
  obtain ⟨r, hr⟩ := this
  exact ⟨r, by rw [List.append_assoc, hr]⟩
theorem preK_end (x : Col) (i t : Nat) : preK x i t 4 = preT x i (t + 1) := by
  unfold preK preT
  rw [List.range_succ, List.flatMap_append, List.append_assoc]
  simp [opsAt, four]
theorem preK_zero (x : Col) (i t : Nat) : preK x i t 0 = preT x i t := by simp [preK]
theorem preK_next {x : Col} {i t k : Nat} {o : Op} (ho : (four (sgl x i) t)[k]? = some o) : preK x i t (k + 1) = if opErr x o = 0 then preK x i t k ++ [o] else preK x i t k := by
  unfold preK
  rw [List.take_add_one, ho, List.filter_append]
  by_cases h : opErr x o = 0
  · rw [if_pos h]; simp [h]
  · rw [if_neg h]; simp [h]
theorem preK_pre {x : Col} {i t k : Nat} (h : i < x.sigla.length) (ht : t < (x.tks i).length) : preK x i t k <+: allOps x := by
  refine List.IsPrefix.trans ?_ (preT_pre (t := t + 1) h ht)
  rw [<- preK_end]
  unfold preK
  have : (four (sgl x i) t).take 4 = (four (sgl x i) t).take k ++ (four (sgl x i) t).drop k := by rw [List.take_append_drop]; rfl
  rw [this, List.filter_append, <- List.append_assoc]
  exact List.prefix_append _ _
abbrev AOp (x : Col) := { o : Op // o ∈ allOps x }
def allL (x : Col) : List (AOp x) := (allOps x).attach
theorem allL_len (x : Col) : (allL x).length = (allOps x).length := by simp [allL]
theorem allL_get {x : Col} {p : List Op} {o : Op} (h : p ++ [o] <+: allOps x) : ∃ y : AOp x, y.1 = o /\ (allL x)[p.length]? = some y /\ p.length < (allL x).length := by
  obtain ⟨r, hr⟩ := h
  have hg : (allOps x)[p.length]? = some o := by rw [<- hr]; simp
  have hl := (List.getElem?_eq_some_iff.1 hg).1
  refine ⟨⟨o, List.mem_of_getElem? hg⟩, rfl, ?_, by rw [allL_len]; exact hl⟩
  unfold allL
  rw [List.getElem?_attach]
  simp [hg]
end Go.Proofs.YtbdgmgddliploaaGreatDoor

/- Slices of the call's own, each in a block of its own: stored into, taken out, put in, read. -/
namespace Go.Proofs.YtbdgmgddliploaaGreatDoor
open Go.RowKit

namespace OwnQ
variable {α : Type} {e size : Nat} {enc : α -> List Value} {w w' : World} {B : Nat} {a : Option Addr} {n cap : Nat} {l : List α}
theorem setOther (h : OwnQ e size enc w B a n cap l) {g j : Nat} (hg : ∀ x, a = some x -> x.block ≠ g) (v : Value) : OwnQ e size enc (w.setCell ⟨g, j, none⟩ v) B a n cap l := by
  refine ⟨h.1, ownsRow_setCell_other h.2 ?_ v⟩
  cases a with
  | none => simp [Value.ownBlock]
  | some x => simpa [Value.ownBlock] using hg x rfl
/-- Stored at an element of one cell. -/
theorem put1 {enc : α -> List Value} {g : Nat} (h : OwnQ e 1 enc w B (some ⟨g, 0, none⟩) n cap l) (one : ∀ x, ∃ v, enc x = [v]) (j : Nat) (x : α) (v : Value) (hv : enc x = [v]) : OwnQ e 1 enc (w.setCell ⟨g, j, none⟩ v) B (some ⟨g, 0, none⟩) n cap (l.set j x) := by
  refine ⟨by simpa using h.1, ?_⟩
  have key : ∀ (l : List α) (j : Nat), (l.set j x).flatMap enc = (l.flatMap enc).set j v := by
    intro l
    induction l with
    | nil => intro j; simp
    | cons y l ih =>
      intro j
      obtain ⟨u, hu⟩ := one y
      cases j with
      | zero => rw [List.set_cons_zero, List.flatMap_cons, List.flatMap_cons, hv, hu]; rfl
      | succ j => rw [List.set_cons_succ, List.flatMap_cons, List.flatMap_cons, ih, hu]; rfl
  rw [key]
  exact (h.2.stored j v).1
end OwnQ
theorem flat_one {α : Type} {v : α -> Value} {l : List α} : l.flatMap (fun x => [v x]) = l.map v := by
  induction l with
  | nil => rfl
  | cons x l ih => rw [List.flatMap_cons, ih]; rfl
theorem own_of_row {α : Type} {e size : Nat} {enc : α -> List Value} {w : World} {B n : Nat} {v : Value} {l : List α} (h : w.ownsRow B e size v n (l.flatMap enc)) (hn : n = l.length) : ∃ a c, v = .slice a n c /\ OwnQ e size enc w B a n c l := by
  have h' := h
  rcases h.2 with ⟨rfl, rfl⟩ | ⟨g, c, cur, rfl, _⟩
  · exact ⟨none, 0, rfl, hn, h'⟩
  · exact ⟨_, _, rfl, hn, h'⟩

/-- Slices of the call's own, each in a block of its own, with what they read as. -/
def RowsP {α : Type} (e size : Nat) (enc : α -> List Value) (w : World) (B : Nat) (ps : List (Row × List α)) : Prop :=
  (∀ p ∈ ps, OwnQ e size enc w B p.1.1 p.1.2.1 p.1.2.2 p.2) /\ ps.Pairwise fun p q => Apart p.1.1 q.1.1
namespace RowsP
variable {α : Type} {e size : Nat} {enc : α -> List Value} {w w' : World} {B : Nat} {ps P Q : List (Row × List α)} {p p' : Row × List α}
theorem nil (e size : Nat) (enc : α -> List Value) (w : World) (B : Nat) : RowsP e size enc w B [] := ⟨by simp, List.Pairwise.nil⟩
theorem below (h : RowsP e size enc w B ps) (hb : Below w.heap.size w w') : RowsP e size enc w' B ps := ⟨fun p hp => (h.1 p hp).below hb, h.2⟩
theorem mono {B' : Nat} (h : RowsP e size enc w B ps) (hB : B' <= B) : RowsP e size enc w B' ps := ⟨fun p hp => (h.1 p hp).mono hB, h.2⟩
theorem kept {row : Option Nat} (h : RowsP e size enc w B ps) (hg : w.grownBy w' row) (hr : ∀ p ∈ ps, ∀ x, p.1.1 = some x -> some x.block ≠ row) : RowsP e size enc w' B ps :=
  ⟨fun p hp => (h.1 p hp).kept hg (hr p hp), h.2⟩
theorem setOther (h : RowsP e size enc w B ps) {g j : Nat} (hg : ∀ p ∈ ps, ∀ x, p.1.1 = some x -> x.block ≠ g) (v : Value) : RowsP e size enc (w.setCell ⟨g, j, none⟩ v) B ps :=
  ⟨fun p hp => (h.1 p hp).setOther (hg p hp) v, h.2⟩
theorem lt (h : RowsP e size enc w B ps) (hp : p ∈ ps) : ∀ x, p.1.1 = some x -> B <= x.block /\ x.block < w.heap.size := (h.1 p hp).lt
theorem mid (h : RowsP e size enc w B (P ++ p :: Q)) : OwnQ e size enc w B p.1.1 p.1.2.1 p.1.2.2 p.2 /\ ∀ q ∈ P ++ Q, Apart q.1.1 p.1.1 := by
  refine ⟨h.1 p (by simp), fun q hq => ?_⟩
  obtain ⟨_, h2, h3⟩ := List.pairwise_append.1 h.2
  rcases List.mem_append.1 hq with hq | hq
  · exact h3 q hq p (by simp)
  · exact ((List.pairwise_cons.1 h2).1 q hq).symm
theorem out (h : RowsP e size enc w B (P ++ p :: Q)) : RowsP e size enc w B (P ++ Q) := by
  have hs : List.Sublist (P ++ Q) (P ++ p :: Q) := List.Sublist.append (List.Sublist.refl _) (List.sublist_cons_self _ _)
  exact ⟨fun q hq => h.1 q (hs.subset hq), h.2.sublist hs⟩
theorem put (h : RowsP e size enc w B (P ++ Q)) (hp : OwnQ e size enc w B p.1.1 p.1.2.1 p.1.2.2 p.2) (ha : ∀ q ∈ P ++ Q, Apart q.1.1 p.1.1) : RowsP e size enc w B (P ++ p :: Q) := by
  obtain ⟨h1, h2, h3⟩ := List.pairwise_append.1 h.2
  refine ⟨fun q hq => ?_, List.pairwise_append.2 ⟨h1, List.pairwise_cons.2 ⟨fun q hq => (ha q (by simp [hq])).symm, h2⟩, fun q hq r hr => ?_⟩⟩
  · rcases List.mem_append.1 hq with hq | hq
    · exact h.1 q (by simp [hq])
    · rcases List.mem_cons.1 hq with rfl | hq
      · exact hp
      · exact h.1 q (by simp [hq])
  · rcases List.mem_cons.1 hr with rfl | hr
    · exact ha q (by simp [hq])
    · exact h3 q hq r hr
/-- One row changes, by what leaves all other blocks as they are. -/
theorem change (h : RowsP e size enc w B (P ++ p :: Q)) (hp : OwnQ e size enc w' B p'.1.1 p'.1.2.1 p'.1.2.2 p'.2) (hr : p'.1 = p.1)
    (hk : ∀ q ∈ P ++ Q, Apart q.1.1 p.1.1 -> OwnQ e size enc w B q.1.1 q.1.2.1 q.1.2.2 q.2 -> OwnQ e size enc w' B q.1.1 q.1.2.1 q.1.2.2 q.2) : RowsP e size enc w' B (P ++ p' :: Q) := by
  obtain ⟨_, ha⟩ := h.mid
  have ho : RowsP e size enc w' B (P ++ Q) := ⟨fun q hq => hk q hq (ha q hq) (h.out.1 q hq), h.out.2⟩
  exact ho.put hp (fun q hq => by rw [hr]; exact ha q hq)
theorem set1 {enc : α -> List Value} {g n c : Nat} {l : List α} (h : RowsP e 1 enc w B (P ++ ((some ⟨g, 0, none⟩, n, c), l) :: Q)) (one : ∀ x, ∃ v, enc x = [v]) (j : Nat) (x : α) (v : Value) (hv : enc x = [v]) :
    RowsP e 1 enc (w.setCell ⟨g, j, none⟩ v) B (P ++ ((some ⟨g, 0, none⟩, n, c), l.set j x) :: Q) := by
  refine h.change (p' := ((some ⟨g, 0, none⟩, n, c), l.set j x)) (h.mid.1.put1 one j x v hv) rfl fun q hq ha ho => ho.setOther (fun y hy => ha y ⟨g, 0, none⟩ hy rfl) v
/-- The slices of a slice: they read as lists of lists. -/
theorem sq {R : Rel α} {S : Nat -> Prop} {s e1 B1 : Nat} {a : Option Addr} {n cap : Nat} (h : RowsP e size enc w B ps) (ho : OwnQ e1 1 encR w B1 a n cap (ps.map (·.1))) (henc : ∀ x, (enc x).length = size) (hn : n * 24 <= 140737488355328) (hS : ∀ b, B <= b -> b < w.heap.size -> S b) (hS1 : ∀ x, a = some x -> S x.block)
    (hl : ∀ p ∈ ps, p.2.length * s <= 140737488355328 /\ ∀ x ∈ p.2, R S w (enc x) x) : Sq (rSl R size s) 1 24 S w a n cap (ps.map (·.2)) := by
  refine ⟨by rw [ho.len]; simp, ho.cap_le, hn, fun j x hj => ?_⟩
  rw [List.getElem?_map] at hj
  obtain ⟨p, hp, rfl⟩ := Option.map_eq_some_iff.1 hj
  have hpm : p ∈ ps := List.mem_of_getElem? hp
  obtain ⟨r, g, h1, h2, rfl, h3, h4, -, h5⟩ := ho.at_ (j := j) (fun _ => rfl) (by rw [ho.len, List.length_map]; exact (List.getElem?_eq_some_iff.1 hp).1)
  rw [List.getElem?_map, hp] at h1
  cases h1
  obtain ⟨l1, l2⟩ := hl p hpm
  have hq := h.1 p hpm
  exact ⟨g, 0, encR p.1, rfl, hS1 _ rfl, h4, rfl, by rw [Nat.zero_add]; exact h5, p.1.1, p.1.2.1, p.1.2.2, rfl, hq.sq henc (by rw [hq.len]; exact l1) (fun y hy => hS _ (hq.lt y hy).1 (hq.lt y hy).2) l2⟩
end RowsP
theorem one_int : ∀ x : Int, ∃ v, encI x = [v] := fun x => ⟨_, rfl⟩
theorem one_row : ∀ r : Row, ∃ v, encR r = [v] := fun r => ⟨_, rfl⟩

/-- 'append(x, nil...)': nothing changes. -/
theorem run_append_own_nil {P : Program} {w : World} (base : Nat) (t ty e : TypeId) (i : TypeInfo) (size c : Nat) (ht : P.underlying t = some (.slice e)) (hi : P.info? e = some i)
    (v : Value) (n : Nat) (xs : List Value) (hown : w.ownsRow base e size v n xs) : (Builtin.append_ #[t, t] ty #[v, .slice none 0 c]).run P w = .ok v w := by
  rcases hown.2 with ⟨rfl, rfl⟩ | ⟨g, cap, cur, rfl, _, _, hnc, _⟩
  · simp [Builtin.append_, run_underlying ht, sizeOf, typeInfo, hi, Builtin.lenOf, Builtin.firstCells]
  · simp [Builtin.append_, run_underlying ht, sizeOf, typeInfo, hi, Builtin.lenOf, Builtin.firstCells, hnc, storeCells]
theorem wpList_app_nil {P : Program} {w : World} {ops : Array Oper} {rest : List Oper} {o : Oper} {a : Act} {Q : Exit -> Act -> World -> Prop} (hgd : o.guard = none) (s x : Operand) (t : TypeId)
    (ho : o.op = .call { callee := .builtin .append, args := #[s, x], argTypes := #[t, t] })
    (base : Nat) (e : TypeId) (i : TypeInfo) (size c : Nat) (ht : P.underlying t = some (.slice e)) (hi : P.info? e = some i)
    (v : Value) (n : Nat) (xs : List Value) (hs : a.eval s = v) (hown : w.ownsRow base e size v n xs) (hx : a.eval x = .slice none 0 c)
    (h : wpList P ops Q rest (a.put o.dst v) w) : wpList P ops Q (o :: rest) a w := by
  refine wpList_plain hgd fun K hK => ?_
  have hrun := run_append_own_nil (P := P) (w := w) base t o.type e i size c ht hi v n xs hown
  unfold Oper.wp
  simp [execOp, ho, resolve, invoke, builtin, hs, hx, hrun, Result.andThen]
  exact hK _ _ h
end Go.Proofs.YtbdgmgddliploaaGreatDoor

/- What Describe says: plain. -/
namespace Go.Proofs.YtbdgmgddliploaaGreatDoor

def kindWord (k : Int) : ByteArray := if k = 1 then ⟨#[106, 111, 105, 110]⟩ else if k = 2 then ⟨#[115, 112, 108, 105, 116]⟩ else if k = 3 then ⟨#[115, 104, 105, 102, 116]⟩ else ⟨#[114, 101, 103, 117, 108, 97, 114, 105, 122, 101]⟩
def tailW (k oo : Int) (ox : ByteArray) : List ByteArray := if k = 3 then [⟨(Lib.itoa oo).toArray⟩] else if k = 4 then [ox] else []
def words4 (k : Int) (og : ByteArray) (ot : Int) (tx : ByteArray) (oo : Int) (ox : ByteArray) : List ByteArray := [kindWord k, og, ⟨(Lib.itoa ot).toArray⟩, tx] ++ tailW k oo ox
theorem words4_le (k : Int) (og : ByteArray) (ot : Int) (tx : ByteArray) (oo : Int) (ox : ByteArray) : (words4 k og ot tx oo ox).length <= 5 := by
  unfold words4 tailW
  split
  · simp
  · split <;> simp
/-- What Describe answers. -/
def descr (x : Col) (o : Op) : ByteArray := if opErr x o = 0 then ⟨(Lib.join ((words4 o.kind o.sig o.tok (x.tk ((x.src o.sig).getD 0) o.tok).text o.other o.text).map (·.data.toList)) [32]).toArray⟩ else ⟨#[]⟩
theorem descr_fits {x : Col} {o : Op} {s c : Nat} (F : Fits x o s c) : descr x o = ⟨(Lib.join ((words4 o.kind o.sig o.tok (x.tk s o.tok).text o.other o.text).map (·.data.toList)) [32]).toArray⟩ := by
  unfold descr
  rw [if_pos F.zero, F.src]; rfl
theorem itoa_le (n : Int) (h : I64 n) : (Lib.itoa n).length <= 21 := by
  unfold Lib.itoa
  unfold I64 at h
  split
  · rw [List.length_cons, Lib.decDigits_length]
    have := Lib.nDigits_le20 n.natAbs (by omega)
    omega
  · rw [Lib.decDigits_length]
    have := Lib.nDigits_le20 n.toNat (by omega)
    omega
theorem join_le (l : List (List UInt8)) (b : Nat) (h : ∀ x ∈ l, x.length <= b) : (Lib.join l [32]).length <= l.length * (b + 1) := by
  cases l with
  | nil => simp [Lib.join_nil]
  | cons x r =>
    rw [Lib.join_cons, List.length_append]
    have h1 := h x (by simp)
    have h2 : ∀ r : List (List UInt8), (∀ x ∈ r, x.length <= b) -> (Lib.joinTail [32] r).length <= r.length * (b + 1) := by
      intro r
      induction r with
      | nil => intro _; simp [Lib.joinTail]
      | cons y r ih =>
        intro hr
        have h3 := ih (fun z hz => hr z (by simp [hz]))
        have h4 := hr y (by simp)
        have e : Lib.joinTail [32] (y :: r) = [32] ++ y ++ Lib.joinTail [32] r := by simp [Lib.joinTail]
        rw [e, List.length_append, List.length_append, List.length_cons, List.length_cons, Nat.add_mul]
        simp only [List.length_nil]; omega
    have h3 := h2 r (fun z hz => h z (by simp [hz]))
    rw [List.length_cons, Nat.add_mul]; omega
theorem kindWord_le (k : Int) : (kindWord k).data.size <= 10 := by
  unfold kindWord
  split
  · decide
  · split
    · decide
    · split <;> decide
theorem words_len {x : Col} {o : Op} {s c : Nat} (F : Fits x o s c) (hm : Sml x) (hx : o.text.size <= 1000000) (hg : o.sig.size <= 1000000) (ho : o.ok) :
    (Lib.join ((words4 o.kind o.sig o.tok (x.tk s o.tok).text o.other o.text).map (·.data.toList)) [32]).length <= 140737488355328 := by
  have hl := words4_le o.kind o.sig o.tok (x.tk s o.tok).text o.other o.text
  have ht : (x.tk s o.tok).text.size <= 1000000 := by
    have h1 := F.t1
    have h0 := F.t0
    have hlt : o.tok.toNat < (x.tks s).length := by omega
    have e : x.tk s o.tok = (x.tks s)[o.tok.toNat] := by unfold Col.tk; rw [List.getElem?_eq_getElem hlt]; rfl
    rw [e]
    have hmem : (x.tks s)[o.tok.toNat] ∈ x.tks s := List.getElem_mem hlt
    cases hs : x.toks[s]? with
    | none => unfold Col.tks at hlt; rw [hs] at hlt; simp at hlt
    | some r =>
      have er : x.tks s = r := by unfold Col.tks; rw [hs]; rfl
      have := hm.tok r (List.mem_of_getElem? hs) ((x.tks s)[o.tok.toNat]) (by rw [<- er]; exact hmem)
      exact this.1
  have hj := join_le ((words4 o.kind o.sig o.tok (x.tk s o.tok).text o.other o.text).map (·.data.toList)) 1000000 ?_
  · rw [List.length_map] at hj
    have : (words4 o.kind o.sig o.tok (x.tk s o.tok).text o.other o.text).length * (1000000 + 1) <= 5 * (1000000 + 1) := Nat.mul_le_mul_right _ hl
    omega
  · intro l hl
    obtain ⟨y, hy, rfl⟩ := List.mem_map.1 hl
    have hy' : y.data.size <= 1000000 := by
      unfold words4 at hy
      simp only [List.cons_append, List.nil_append, List.mem_cons] at hy
      rcases hy with rfl | rfl | rfl | rfl | hy
      · have := kindWord_le o.kind; omega
      · exact hg
      · have := itoa_le o.tok ho.2.2.1; simpa using (by omega)
      · exact ht
      · unfold tailW at hy
        split at hy
        · simp only [List.mem_singleton] at hy; subst hy
          have := itoa_le o.other ho.2.2.2.1; simpa using (by omega)
        · split at hy
          · simp only [List.mem_singleton] at hy; subst hy; exact hx
          · cases hy
    simpa using hy'
/-- Four words, or five, in a row of cells. -/
theorem words4_cells {W : World} {g : Nat} {t : TypeId} {a b c d : ByteArray} {l : List ByteArray} (hl : l = [a, b, c, d]) (h : W.heap[g]? = some (.cells #[.string a, .string b, .string c, .string d] t (0, 0))) :
    ∀ (j : Nat) (y : ByteArray), l[j]? = some y -> W.cell? ⟨g, 0 + j, none⟩ = some (.string y) := by
  subst hl
  obtain ⟨h0, h1, h2, h3, -⟩ := box_cells4 h
  intro j y hy
  rw [Nat.zero_add]
  match j with
  | 0 => cases hy; exact h0
  | 1 => cases hy; exact h1
  | 2 => cases hy; exact h2
  | 3 => cases hy; exact h3
  | n + 4 => simp at hy
theorem OwnQ.lit4 (w : World) (t : TypeId) (a b c d : ByteArray) : OwnQ t 1 encS (w.alloc (.cells #[.string a, .string b, .string c, .string d] t)) w.heap.size (some ⟨w.heap.size, 0, none⟩) 4 4 [a, b, c, d] :=
  ⟨rfl, rfl, .inr ⟨w.heap.size, 4, _, rfl, Nat.le_refl _, World.alloc_heap_new w _, Nat.le_refl 4, by unfold maxLen; omega, rfl, rfl⟩⟩
theorem OwnQ.strs {e : TypeId} {w : World} {B n cap : Nat} {a : Option Addr} {l : List ByteArray} (h : OwnQ e 1 encS w B a n cap l) (hn : 0 < n) :
    ∃ g, a = some ⟨g, 0, none⟩ /\ g < w.heap.size /\ n <= cap /\ ∀ (j : Nat) (y : ByteArray), l[j]? = some y -> w.cell? ⟨g, 0 + j, none⟩ = some (.string y) := by
  obtain ⟨_, g, _, _, rfl, _, hg, _, _⟩ := h.at_ (fun _ => rfl) hn
  refine ⟨g, rfl, hg, h.cap_le, fun j y hy => ?_⟩
  obtain ⟨x, g', h1, _, h3, _, _, _, h5⟩ := h.at_ (j := j) (fun _ => rfl) (by rw [h.len]; exact (List.getElem?_eq_some_iff.1 hy).1)
  cases h3
  rw [hy] at h1; cases h1
  have := h5 0 (.string y) rfl
  rw [Nat.zero_add]
  simpa using this
end Go.Proofs.YtbdgmgddliploaaGreatDoor

/- The example of the chapter: plain. -/
namespace Go.Proofs.YtbdgmgddliploaaGreatDoor

def tokS (s : ByteArray) : Tok := ⟨s, s, ⟨#[]⟩, 0, 0, ⟨#[]⟩⟩
def bDeus : ByteArray := ⟨#[100, 101, 117, 115]⟩
def bEst : ByteArray := ⟨#[101, 115, 116]⟩
def bA : ByteArray := ⟨#[65]⟩
def bB : ByteArray := ⟨#[66]⟩
def sampC : Col := { sec := ⟨#[97]⟩, sigla := [bA, bB], toks := [[tokS bDeus, tokS bEst], [tokS bDeus]], cols := [[0, 0], [1, -1]] }
def shO : Op := ⟨3, bB, 0, 1, ⟨#[]⟩⟩
theorem samp_err : sampC.err = 0 := by decide +kernel
theorem samp_all : allOps sampC = [⟨2, bA, 0, 0, ⟨#[]⟩⟩, ⟨2, bB, 0, 0, ⟨#[]⟩⟩, shO] := by decide +kernel
theorem samp_sh : opErr sampC shO = 0 := by decide +kernel
theorem samp_ap : (opApply sampC shO).cols = [[0, -1], [1, 0]] := by decide +kernel
theorem samp_de : descr sampC shO = ⟨#[115, 104, 105, 102, 116, 32, 66, 32, 48, 32, 100, 101, 117, 115, 32, 49]⟩ := by decide +kernel
end Go.Proofs.YtbdgmgddliploaaGreatDoor
