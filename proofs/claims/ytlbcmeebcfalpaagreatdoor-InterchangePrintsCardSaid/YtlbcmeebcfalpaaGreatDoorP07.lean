/- Joined: IRd1, IRow. -/
import Derived.Test.YtlbcmeebcfalpaaGreatDoorP06
import Derived.Test.YtlbcmeebcfalpaaGreatDoorP01
import Derived.ProofKit
import Derived.Deep.Slices
import Derived.Deep.Fields
import Derived.ChangeSame
import Derived.SizedLaws
set_option linter.unusedVariables false
set_option linter.unusedSimpArgs false
set_option maxRecDepth 100000
set_option maxHeartbeats 16000000
namespace Go.Proofs.YtlbcmeebcfalpaaGreatDoor
open Go.RowKit

theorem valNum (kk nn : Int) (t : ByteArray) (aa : Option Addr) (n cc : Nat) (W : World) : (Instr.field 24 (.agg #[.int .i64 kk, .int .i64 nn, .string t, .slice aa n cc]) 1).run Tryz.prog W = .ok (.int .i64 nn) W := by kernel_rfl
theorem valText (kk nn : Int) (t : ByteArray) (aa : Option Addr) (n cc : Nat) (W : World) : (Instr.field 24 (.agg #[.int .i64 kk, .int .i64 nn, .string t, .slice aa n cc]) 2).run Tryz.prog W = .ok (.string t) W := by kernel_rfl
theorem valItems (kk nn : Int) (t : ByteArray) (aa : Option Addr) (n cc : Nat) (W : World) : (Instr.field 24 (.agg #[.int .i64 kk, .int .i64 nn, .string t, .slice aa n cc]) 3).run Tryz.prog W = .ok (.slice aa n cc) W := by kernel_rfl
/-- Blocks that were made between two worlds. -/
abbrev NewB (w w' : World) : Nat -> Prop := fun b => w.heap.size <= b /\ b < w'.heap.size
/-- One item was read. -/
def RdOne (S : Nat -> Prop) (T : Ty) (rb wb : Nat) (l : List Vl) (g : Bool) (w : World) (e : Ending) (w' : World) : Prop :=
  ∃ (d : Dv) (a' : Option Addr) (n' c' : Nat) (l' : List Vl) (g' : Bool), e = .returned d.val /\ Has T d /\ RdD (NewB w w') w' d /\ Got T l g d l' g' /\ Rdr w' rb wb a' n' c' g' /\ Vals S w' a' n' c' l' /\ Exc (Two rb wb) w w'
/-- The fields of a struct were read. -/
def RdMany (S : Nat -> Prop) (ts : List Ty) (rb wb : Nat) (l : List Vl) (g : Bool) (w : World) (e : Ending) (w' : World) : Prop :=
  ∃ (ds : List Dv) (a' : Option Addr) (n' c' : Nat) (l' : List Vl) (g' : Bool), e = .returned (Dv.struc ds).val /\ HasL ts ds /\ (∀ d ∈ ds, RdD (NewB w w') w' d) /\ GotL ts l g ds l' g' /\ Rdr w' rb wb a' n' c' g' /\ Vals S w' a' n' c' l' /\ Exc (Two rb wb) w w'
def Reads (T : Ty) (f : Nat) (F : FuncId) (ar : Value -> Array Value) : Prop :=
  ∀ (S : Nat -> Prop) (rb wb : Nat) (a : Option Addr) (n c : Nat) (l : List Vl) (g : Bool) (w : World), Rdr w rb wb a n c g -> Vals S w a n c l -> (∀ b, S b -> b ≠ rb /\ b ≠ wb) -> (∀ u ∈ l, GoodD f u.er) -> Calls Tryz.prog F (ar (.pointer (some ⟨rb, 0, none⟩))) w (RdOne S T rb wb l g w)
def ReadsL (ts : List Ty) (f : Nat) (F : FuncId) : Prop :=
  ∀ (S : Nat -> Prop) (rb wb : Nat) (a : Option Addr) (n c : Nat) (l : List Vl) (g : Bool) (w : World), Rdr w rb wb a n c g -> Vals S w a n c l -> (∀ b, S b -> b ≠ rb /\ b ≠ wb) -> (∀ u ∈ l, GoodD f u.er) -> Calls Tryz.prog F #[.pointer (some ⟨rb, 0, none⟩)] w (RdMany S ts rb wb l g w)
theorem good_items {f : Nat} {v : V} (h : GoodD f v) (hk : v.kind = 3) : ∀ u ∈ v.items, GoodD (f - 1) u := by
  cases f with
  | zero => exact absurd rfl h.1
  | succ f => exact h.items hk
theorem good_pos {f : Nat} {v : V} (h : GoodD f v) : 0 < f := by
  cases f with
  | zero => exact absurd rfl h.1
  | succ f => omega
theorem Got.leaf {T : Ty} {l l' : List Vl} {g : Bool} {v : Vl} {d : Dv} {g' : Bool} (hl : l = v :: l') (hf : Fit T v.er) (hd : d.toV = v.er) (hg : g' = g) : Got T l g d l' g' := by
  subst hg
  refine ⟨hl ▸ List.suffix_cons _ _, ?_⟩
  cases g' with
  | true => exact .inl ⟨rfl, .inl rfl⟩
  | false => exact .inr ⟨rfl, rfl, v, hl, hf, hd⟩
theorem Got.no {T : Ty} {l l' : List Vl} {g : Bool} (d : Dv) (h : l' <:+ l) (hb : ∀ v r, l = v :: r -> ¬ Fit T v.er) : Got T l g d l' true := ⟨h, .inl ⟨rfl, .inr hb⟩⟩
theorem rnum_any (f : Nat) : Reads .int f 69 (fun p => #[p]) := by
  intro S rb wb a n c l g w h hv hS hG
  have HN : Hid (Calls Tryz.prog 55 #[.pointer (some ⟨rb, 0, none⟩), .int .i64 1] w (NxPost S rb wb 1 l g w)) := next_any S rb wb 1 a n c l g w h hv hS
  have HG := hiq hG
  clear h hv hS hG
  change Calls _ _ #[.pointer (some ⟨rb, 0, none⟩)] _ _
  go_enter Tryz.func69, Tryz.ntmps69
  go_wp2_with fail
  refine HN.out.mono ?_
  rintro e w' ⟨⟨kk, nn, t, aa, cc, ll⟩, a', n', c', l', g', he, hx, hr, hvs, hrd, hE⟩
  change e = .returned (.agg #[.int .i64 kk, .int .i64 nn, .string t, .slice aa ll.length cc]) at he
  subst he
  have H : Hid (RdOne S .int rb wb l g w (.returned (.int .i64 nn)) w') := by
    refine ⟨.int nn, a', n', c', l', g', rfl, .int _, (rd_iff.1 hrd).2.1, ?_, hr, hvs, hE⟩
    rcases hx with ⟨_, rfl, rfl, hb⟩ | ⟨hl, hk, hg⟩
    · exact .no _ (List.suffix_refl _) fun v r e hf => hb v r e (by rw [<- Vl.er_kind]; exact fit_int.1 hf)
    · have hg9 := HG.out _ (hl ▸ List.mem_cons_self ..)
      have hk9 : (Vl.mk kk nn t aa cc ll).er.kind = 1 := by rw [Vl.er_kind]; exact hk
      exact .leaf hl (fit_int.2 hk9) (by rw [good_int hg9.2 hk9, Vl.er_num]; rfl) hg
  clear hx hr hvs hrd hE
  have hfd := valNum kk nn t aa ll.length cc w'
  go_wp2
  go_ret
  exact H.out
theorem rtext_any (f : Nat) : Reads .text f 56 (fun p => #[p]) := by
  intro S rb wb a n c l g w h hv hS hG
  have HN : Hid (Calls Tryz.prog 55 #[.pointer (some ⟨rb, 0, none⟩), .int .i64 2] w (NxPost S rb wb 2 l g w)) := next_any S rb wb 2 a n c l g w h hv hS
  have HG := hiq hG
  clear h hv hS hG
  change Calls _ _ #[.pointer (some ⟨rb, 0, none⟩)] _ _
  go_enter Tryz.func56, Tryz.ntmps56
  go_wp2_with fail
  refine HN.out.mono ?_
  rintro e w' ⟨⟨kk, nn, t, aa, cc, ll⟩, a', n', c', l', g', he, hx, hr, hvs, hrd, hE⟩
  change e = .returned (.agg #[.int .i64 kk, .int .i64 nn, .string t, .slice aa ll.length cc]) at he
  subst he
  have H : Hid (RdOne S .text rb wb l g w (.returned (.string t)) w') := by
    refine ⟨.text t, a', n', c', l', g', rfl, .text _, (rd_iff.1 hrd).2.2.1, ?_, hr, hvs, hE⟩
    rcases hx with ⟨_, rfl, rfl, hb⟩ | ⟨hl, hk, hg⟩
    · exact .no _ (List.suffix_refl _) fun v r e hf => hb v r e (by rw [<- Vl.er_kind]; exact fit_text.1 hf)
    · have hg9 := HG.out _ (hl ▸ List.mem_cons_self ..)
      have hk9 : (Vl.mk kk nn t aa cc ll).er.kind = 2 := by rw [Vl.er_kind]; exact hk
      exact .leaf hl (fit_text.2 hk9) (by rw [good_text hg9.2 hk9, Vl.er_text]; rfl) hg
  clear hx hr hvs hrd hE
  have hfd := valText kk nn t aa ll.length cc w'
  go_wp2
  go_ret
  exact H.out
theorem Got.truth {l l' : List Vl} {g g1 : Bool} {n : Int} (h : Got .int l g (.int n) l' g1) : ((n = 0 \/ n = 1) -> ∀ b : Bool, b = decide (n = 1) -> Got .bool l g (.bool b) l' g1) /\ (¬ (n = 0 \/ n = 1) -> ∀ d, Got .bool l g d l' true) := by
  refine ⟨fun hn b hb => ⟨h.1, ?_⟩, fun hn d => ⟨h.1, .inl ⟨rfl, ?_⟩⟩⟩
  · rcases h.2 with ⟨hg, hx⟩ | ⟨hg, hg0, v, hl, hf, hd⟩
    · exact .inl ⟨hg, hx.imp id fun hx v r e hf => hx v r e (fit_int.2 (fit_bool.1 hf).1)⟩
    · have hv : v.er.num = n := by rw [<- hd]; rfl
      refine .inr ⟨hg, hg0, v, hl, fit_bool.2 ⟨fit_int.1 hf, by rw [hv]; exact hn⟩, ?_⟩
      rw [<- hd, hb, Dv.toV, Dv.toV]
      rcases hn with rfl | rfl <;> rfl
  · rcases h.2 with ⟨hg, hx⟩ | ⟨hg, hg0, v, hl, hf, hd⟩
    · exact hx.imp id fun hx v r e hf => hx v r e (fit_int.2 (fit_bool.1 hf).1)
    · refine .inr fun v' r e hf' => hn ?_
      rw [hl] at e; injection e with e1 e2; subst e1
      have hv : v.er.num = n := by rw [<- hd]; rfl
      rw [<- hv]
      exact (fit_bool.1 hf').2
theorem rtruth_any (f : Nat) : Reads .bool f 178 (fun p => #[p]) := by
  intro S rb wb a n c l g w h hv hS hG
  have HN : Hid (Calls Tryz.prog 69 #[.pointer (some ⟨rb, 0, none⟩)] w (RdOne S .int rb wb l g w)) := rnum_any f S rb wb a n c l g w h hv hS hG
  have HS := hiq hS
  clear h hv hS hG
  change Calls _ _ #[.pointer (some ⟨rb, 0, none⟩)] _ _
  go_enter Tryz.func178, Tryz.ntmps178
  go_wp2_with fail
  refine HN.out.mono ?_
  rintro e w' ⟨d, a', n', c', l', g', he, hT, hrd, hx, hr, hvs, hE⟩
  obtain ⟨nn, rfl⟩ := hT.int_inv
  change e = .returned (.int .i64 nn) at he
  subst he
  obtain ⟨x0, x1, x2, f0, f1⟩ := hr.cells
  have hx2 := hx.truth
  by_cases hn : nn = 0 \/ nn = 1
  · have H : Hid (∀ b : Bool, b = decide (nn = 1) -> RdOne S .bool rb wb l g w (.returned (.bool b)) w') := fun b hb =>
      ⟨.bool b, a', n', c', l', g', rfl, .bool _, trivial, hx2.1 hn b hb, hr, hvs, hE⟩
    clear hx hx2 hr hvs hrd hE
    rcases hn with rfl | rfl
    · go_wp2
      go_ret
      exact H.out _ rfl
    · go_wp2
      go_ret
      exact H.out _ rfl
  · have h0 : (nn != 0) = true := by simp; omega
    have h1 : (nn != 1) = true := by simp; omega
    have H : Hid (∀ b : Bool, RdOne S .bool rb wb l g w (.returned (.bool b)) (w'.setCell ⟨wb, 0, none⟩ (.bool true))) := fun b => by
      have he : Exc (Two rb wb) w' (w'.setCell ⟨wb, 0, none⟩ (.bool true)) := Exc.setCell w' (.inr rfl) _
      exact ⟨.bool b, a', n', c', l', true, rfl, .bool _, trivial, hx2.2 hn _, hr.wrong, hvs.keep (he.keepS fun b hb hn => by have := HS.out b hb; rcases hn with h | h <;> simp_all), hE.trans he⟩
    clear hx hx2 hr hvs hrd hE hn
    go_wp2
    go_ret
    exact H.out _
end Go.Proofs.YtlbcmeebcfalpaaGreatDoor
namespace Go.Proofs.YtlbcmeebcfalpaaGreatDoor
open Go.RowKit Go.ChangeShapes Go.WideShapes Go.Deep

theorem list_of {α : Type} (d : α) (R : Nat -> α -> Prop) : ∀ n : Nat, (∀ i, i < n -> ∃ x, R i x) -> ∃ l : List α, l.length = n /\ ∀ i, i < n -> R i (l[i]?.getD d)
  | 0, _ => ⟨[], rfl, fun i hi => by omega⟩
  | n + 1, h => by
    obtain ⟨l, hl, hR⟩ := list_of d R n (fun i hi => h i (by omega))
    obtain ⟨x, hx⟩ := h n (by omega)
    refine ⟨l ++ [x], by simp [hl], fun i hi => ?_⟩
    by_cases e : i < n
    · rw [List.getElem?_append_left (by omega)]; exact hR i e
    · obtain rfl : i = l.length := by omega
      rw [List.getElem?_append_right (Nat.le_refl _)]; simpa [hl] using hx
theorem weightsAll_mem {H : Type} {P : Program} {e : TypeId} : ∀ {ds : List (DataW H)} {d : DataW H}, d ∈ ds -> ∀ n ∈ d.weights P e, n ∈ DataW.weightsAll P e ds
  | d0 :: r, d, hd, n, hn => by
    rw [DataW.weightsAll, List.mem_append]
    rcases List.mem_cons.1 hd with rfl | hd
    · exact .inl hn
    · exact .inr (weightsAll_mem hd n hn)
mutual
/-- How a type of the program's is laid out. -/
inductive TyOf : Ty -> TypeId -> Prop
  | int {t : TypeId} : Tryz.prog.underlying t = some (.int .i64) -> TyOf .int t
  | bool {t : TypeId} : Tryz.prog.underlying t = some .bool -> TyOf .bool t
  | text {t : TypeId} : Tryz.prog.underlying t = some .string -> TyOf .text t
  | struc {t : TypeId} {fs : Array Field} {ts : List Ty} {e : Nat} : Tryz.prog.underlying t = some (.struct fs) -> FdOf fs.toList ts 0 e -> Tryz.prog.cellsOf t = e -> TyOf (.struc ts) t
  | list {t e : TypeId} {k s : Nat} {ty : Ty} : Tryz.prog.underlying t = some (.slice e) -> Tryz.prog.cellsOf e = k -> Tryz.prog.bytesOf e = s -> 0 < k -> TyOf ty e -> TyOf (.list k s ty) t
  | node {t : TypeId} : t = 64 -> TyOf .node t
  | expr {t : TypeId} : t = 113 -> TyOf .expr t
inductive FdOf : List Field -> List Ty -> Nat -> Nat -> Prop
  | nil {o : Nat} : FdOf [] [] o o
  | cons {f : Field} {fs : List Field} {ty : Ty} {tys : List Ty} {o e : Nat} : f.offset = o -> TyOf ty f.type -> FdOf fs tys (o + Tryz.prog.cellsOf f.type) e -> FdOf (f :: fs) (ty :: tys) o e
end
theorem FdOf.le {fs : List Field} {tys : List Ty} {o e : Nat} (h : FdOf fs tys o e) : o <= e := by
  induction fs generalizing tys o with
  | nil => cases h; exact Nat.le_refl _
  | cons f fs ih => cases h with | cons _ _ h3 => have := ih h3; omega
section
variable {H : Type} {enc : TypeId × Value -> H} {w : World} {base : Nat} {held : Bool} {spare : Nat -> Bool}
/-- What is to be shown at a type. -/
def Opens (enc : TypeId × Value -> H) (w : World) (base : Nat) (spare : Nat -> Bool) (held : Bool) (fuel : Nat) : Prop :=
  ∀ (ty : Ty) (t : TypeId), TyOf ty t -> ∀ (cs : List Value) (x : DataW H × List MemPlace), DataW.trod enc Tryz.prog w base spare held fuel t cs = some x -> (∀ k ∈ DataW.weights Tryz.prog t x.1, k <= reachBytes) ->
    ∃ d : Dv, Has ty d /\ cs = d.cells /\ RdD (fun b => b < w.heap.size) w d
theorem open_fields {n : Nat} {cs : List Value} (ih : Opens enc w base spare held n) : ∀ (fs : List Field) (tys : List Ty) (o e : Nat) (xs : List (DataW H × List MemPlace)), FdOf fs tys o e -> xs.length = fs.length -> e <= cs.length ->
    (∀ (i : Nat) (f : Field), fs[i]? = some f -> DataW.trod enc Tryz.prog w base spare held n f.type ((cs.drop f.offset).take (Tryz.prog.cellsOf f.type)) = xs[i]?) ->
    (∀ k ∈ DataW.weightsEach Tryz.prog (fs.map (·.type)) (xs.map (·.1)), k <= reachBytes) ->
    ∃ ds : List Dv, HasL tys ds /\ (cs.drop o).take (e - o) = Dv.cellsL ds /\ ∀ d ∈ ds, RdD (fun b => b < w.heap.size) w d
  | [], tys, o, e, xs, h, _, _, _, _ => by
    cases h
    exact ⟨[], .nil, by rw [Nat.sub_self, List.take_zero, Dv.cellsL], fun d hd => by cases hd⟩
  | f :: fs, tys, o, e, xs, h, hl, hle, hf, hw => by
    cases h with
    | cons h1 h2 h3 =>
      match xs, hl with
      | x :: xs, hl =>
        have h0 := hf 0 f rfl
        rw [h1, List.getElem?_cons_zero] at h0
        simp only [List.map_cons, DataW.weightsEach, List.mem_append] at hw
        obtain ⟨d, hd1, hd2, hd3⟩ := ih _ _ h2 _ _ h0 (fun k hk => hw k (.inl hk))
        obtain ⟨ds, hs1, hs2, hs3⟩ := open_fields ih fs _ _ e xs h3 (by simpa using hl) hle (fun i g hg => by
          have := hf (i + 1) g (by simpa using hg)
          simpa using this) (fun k hk => hw k (.inr hk))
        refine ⟨d :: ds, .cons hd1 hs1, ?_, fun y hy => ?_⟩
        · have h9 := h3.le
          rw [Dv.cellsL, <- hd2, <- hs2, <- List.drop_drop, <- List.take_add]
          clear ih hs1 hs2 hd1 hd2 hd3 h0 h3 hf hw
          generalize Tryz.prog.cellsOf f.type = cf at *
          rw [show cf + (e - (o + cf)) = e - o by omega]
        · rcases List.mem_cons.1 hy with rfl | hy
          · exact hd3
          · exact hs3 y hy
theorem open_struct {fuel : Nat} {t : TypeId} {ts : List Ty} (ih : ∀ n, n < fuel -> Opens enc w base spare held n) (hT : TyOf (.struc ts) t) {cs : List Value} {x : DataW H × List MemPlace} (h : DataW.trod enc Tryz.prog w base spare held fuel t cs = some x) (hw : ∀ k ∈ DataW.weights Tryz.prog t x.1, k <= reachBytes) :
    ∃ d : Dv, Has (.struc ts) d /\ cs = d.cells /\ RdD (fun b => b < w.heap.size) w d := by
  cases hT with
  | struc hu hF hc =>
    obtain ⟨xs, n, rfl, rfl, hl, hlen, hf⟩ := DataW.trod_struct hu h
    rw [hc] at hl
    obtain ⟨ds, h1, h2, h3⟩ := open_fields (cs := cs) (ih n (by omega)) _ _ _ _ xs hF (by simpa using hlen) (by omega) (fun i f hi => hf i f (by simpa using hi)) (fun k hk => hw k (by simp only [DataW.weights, hu]; exact hk))
    refine ⟨.struc ds, .struc h1, ?_, rdD_struc.2 h3⟩
    rw [Dv.cells, <- h2, List.drop_zero, Nat.sub_zero, List.take_of_length_le (by omega)]
theorem open_list {fuel : Nat} {t e : TypeId} {k s : Nat} {ty : Ty} (ih : ∀ n, n < fuel -> Opens enc w base spare held n) (hu : Tryz.prog.underlying t = some (.slice e)) (hk : Tryz.prog.cellsOf e = k) (hs : Tryz.prog.bytesOf e = s) (hk0 : 0 < k) (hT : TyOf ty e) {cs : List Value} {x : DataW H × List MemPlace} (h : DataW.trod enc Tryz.prog w base spare held fuel t cs = some x) (hw : ∀ k ∈ DataW.weights Tryz.prog t x.1, k <= reachBytes) :
    ∃ a n c l, cs = [.slice a n c] /\ (∀ d ∈ l, Has ty d) /\ Items (fun b => b < w.heap.size) w k s a n c l /\ (a = none -> n = 0 /\ c = 0) := by
  rcases DataW.trod_slice hu h with ⟨hcs, _⟩ | ⟨a, len, cap, elems, rest, n, rfl, hcs, rfl, hb, hl, hm, hel, hat, _, _⟩
  · exact ⟨none, 0, 0, [], hcs, (fun d hd => by cases hd), Items.nil _ _ _ _, fun _ => ⟨rfl, rfl⟩⟩
  · rw [hk] at hat
    have hsz : len * s <= 140737488355328 := by
      have := hw ((elems.length + rest.length) * s) (by simp [DataW.weights, hu, hs])
      have h9 : reachBytes = 140737488351232 := rfl
      rw [hel] at this
      have h8 : len * s <= (len + rest.length) * s := Nat.mul_le_mul_right _ (by omega)
      omega
    obtain ⟨l, hll, hR⟩ := list_of (.int 0) (fun i (d : Dv) => (∀ j y, d.cells[j]? = some y -> w.cell? ((a.add (i * k)).add j) = some y) /\ d.cells.length = k /\ Has ty d /\ RdD (fun b => b < w.heap.size) w d) len (fun i hi => by
      obtain ⟨y, hy⟩ : ∃ y, elems[i]? = some y := ⟨_, List.getElem?_eq_getElem (by omega)⟩
      have h1 := hat i hi
      rw [hy] at h1
      obtain ⟨cs', hc, ht⟩ := Option.bind_eq_some_iff.1 h1
      obtain ⟨d, hd1, rfl, hd3⟩ := ih n (by omega) ty e hT cs' y ht (fun k hk => hw k (by
        simp only [DataW.weights, hu, List.mem_cons, List.mem_append]
        exact .inr (.inl (weightsAll_mem (List.mem_map.2 ⟨y, List.mem_of_getElem? hy, rfl⟩) k hk))))
      obtain ⟨_, hlen, hcl⟩ := World.cells?_some hc
      refine ⟨d, fun j y hj => ?_, hlen, hd1, hd3⟩
      have hjk : j < k := by rw [<- hlen]; exact (List.getElem?_eq_some_iff.1 hj).1
      rw [hcl j hjk, hj])
    have hRl : ∀ (j : Nat) (d : Dv), l[j]? = some d -> (∀ i y, d.cells[i]? = some y -> w.cell? ((a.add (j * k)).add i) = some y) /\ d.cells.length = k /\ Has ty d /\ RdD (fun b => b < w.heap.size) w d := fun j d hj => by
      have hjl : j < len := by rw [<- hll]; exact (List.getElem?_eq_some_iff.1 hj).1
      have := hR j hjl
      rw [hj] at this
      exact this
    refine ⟨some a, len, cap, l, hcs, fun d hd => ?_, ⟨hll.symm, hl, hsz, fun j d hj => ?_⟩, fun e => by cases e⟩
    · obtain ⟨j, hj⟩ := List.mem_iff_getElem?.1 hd
      exact (hRl j d hj).2.2.1
    · obtain ⟨h1, h2, h3, h4⟩ := hRl j d hj
      obtain ⟨b, off, sp⟩ := a
      obtain ⟨y, hy⟩ : ∃ y, d.cells[0]? = some y := ⟨_, List.getElem?_eq_getElem (by omega)⟩
      have h0 := h1 0 y hy
      have hl0 : 0 < l.length := by have := (List.getElem?_eq_some_iff.1 hj).1; omega
      obtain ⟨g1, g2, _⟩ := hRl 0 _ (List.getElem?_eq_getElem hl0)
      have g0 := g1 0 _ (List.getElem?_eq_getElem (by omega))
      rw [Nat.zero_mul] at g0
      have hsp : sp = none := by simpa [Addr.add] using World.cell?_spot g0
      subst hsp
      rw [Addr.add_lit, Addr.add_lit] at h0
      refine ⟨⟨b, off, rfl, World.block_lt_of_cell? _ _ h0, fun i y hi => ?_⟩, h4⟩
      have := h1 i y hi
      rw [Addr.add_lit, Addr.add_lit] at this
      exact this
theorem open_d (hN : TyOf nodeTy 64) (hX : TyOf exprTy 113) (fuel : Nat) : Opens enc w base spare held fuel := by
  induction fuel using Nat.strongRecOn with
  | _ fuel ih =>
    intro ty t hT cs x h hw
    cases hT with
    | int hu =>
      obtain ⟨n, rfl, _, hwf⟩ := DataW.trod_int hu h
      exact ⟨.int n, .int n, rfl, I64.of_wf hwf⟩
    | bool hu =>
      obtain ⟨b, rfl, _⟩ := DataW.trod_bool hu h
      exact ⟨.bool b, .bool b, rfl, trivial⟩
    | text hu =>
      obtain ⟨s, rfl, hx, _⟩ := DataW.trod_string hu h
      refine ⟨.text s, .text s, rfl, ?_⟩
      have := hw s.data.toList.length (by rw [hx]; simp [DataW.weights])
      have h9 : reachBytes = 140737488351232 := rfl
      have h8 : s.data.toList.length = s.size := Array.length_toList
      show s.size <= _; omega
    | struc hu hF hc => exact open_struct ih (.struc hu hF hc) h hw
    | list hu hk hs hk0 hT =>
      obtain ⟨a, n, c, l, rfl, hl, hI, _⟩ := open_list ih hu hk hs hk0 hT h hw
      have hn := hI.1
      subst hn
      exact ⟨.list _ _ a c l, .list hl, rfl, rdD_list.2 hI⟩
    | node e =>
      subst e
      obtain ⟨d, h1, h2⟩ := open_struct ih hN h hw
      exact ⟨d, .node h1, h2⟩
    | expr e =>
      subst e
      obtain ⟨d, h1, h2⟩ := open_struct ih hX h hw
      exact ⟨d, .expr h1, h2⟩
end
end Go.Proofs.YtlbcmeebcfalpaaGreatDoor
