/- Joined: IRd1, IRow, ITy, ETree. -/
import Derived.Test.YtlbcmeebcfalpaaGreatDoorR06
import Derived.Test.YtlbcmeebcfalpaaGreatDoorR01
import Derived.ProofKit
import Derived.Deep.Slices
import Derived.Deep.Fields
import Derived.ChangeSame
import Derived.SizedLaws
import Derived.Test.YtlbcmeebcfalpaaGreatDoorR05
set_option linter.unusedVariables false
set_option linter.unusedSimpArgs false
set_option maxRecDepth 100000
set_option maxHeartbeats 16000000
namespace Go.Proofs.YtlbcmeebcfalpaaGreatDoor
open Go.RowKit

theorem valNum (kk nn : Int) (t : ByteArray) (aa : Option Addr) (n cc : Nat) (W : World) : (Instr.field 24 (.agg #[.int .i64 kk, .int .i64 nn, .string t, .slice aa n cc]) 1).run Tryz.prog W = .ok (.int .i64 nn) W := by kernel_rfl
theorem valText (kk nn : Int) (t : ByteArray) (aa : Option Addr) (n cc : Nat) (W : World) : (Instr.field 24 (.agg #[.int .i64 kk, .int .i64 nn, .string t, .slice aa n cc]) 2).run Tryz.prog W = .ok (.string t) W := by kernel_rfl
theorem valItems (kk nn : Int) (t : ByteArray) (aa : Option Addr) (n cc : Nat) (W : World) : (Instr.field 24 (.agg #[.int .i64 kk, .int .i64 nn, .string t, .slice aa n cc]) 3).run Tryz.prog W = .ok (.slice aa n cc) W := by kernel_rfl
/-- Blocks that were made between two worlds. -/
abbrev NewB (w w' : World) : Nat -> Prop := fun b => w.heap.size <= b /\ b < w'.heap.size
/-- One item was read. -/
def RdOne (S : Nat -> Prop) (T : Ty) (rb wb : Nat) (l : List Vl) (g : Bool) (w : World) (e : Ending) (w' : World) : Prop :=
  ∃ (d : Dv) (a' : Option Addr) (n' c' : Nat) (l' : List Vl) (g' : Bool), e = .returned d.val /\ Has T d /\ RdD (NewB w w') w' d /\ Got T l g d l' g' /\ Rdr w' rb wb a' n' c' g' /\ Vals S w' a' n' c' l' /\ Exc (Two rb wb) w w'
/-- The fields of a struct were read. -/
def RdMany (S : Nat -> Prop) (ts : List Ty) (rb wb : Nat) (l : List Vl) (g : Bool) (w : World) (e : Ending) (w' : World) : Prop :=
  ∃ (ds : List Dv) (a' : Option Addr) (n' c' : Nat) (l' : List Vl) (g' : Bool), e = .returned (Dv.struc ds).val /\ HasL ts ds /\ (∀ d ∈ ds, RdD (NewB w w') w' d) /\ GotL ts l g ds l' g' /\ Rdr w' rb wb a' n' c' g' /\ Vals S w' a' n' c' l' /\ Exc (Two rb wb) w w'
def Reads (T : Ty) (f : Nat) (F : FuncId) (ar : Value -> Array Value) : Prop :=
  ∀ (S : Nat -> Prop) (rb wb : Nat) (a : Option Addr) (n c : Nat) (l : List Vl) (g : Bool) (w : World), Rdr w rb wb a n c g -> Vals S w a n c l -> (∀ b, S b -> b ≠ rb /\ b ≠ wb) -> (∀ u ∈ l, GoodD f u.er) -> Calls Tryz.prog F (ar (.pointer (some ⟨rb, 0, none⟩))) w (RdOne S T rb wb l g w)
def ReadsL (ts : List Ty) (f : Nat) (F : FuncId) : Prop :=
  ∀ (S : Nat -> Prop) (rb wb : Nat) (a : Option Addr) (n c : Nat) (l : List Vl) (g : Bool) (w : World), Rdr w rb wb a n c g -> Vals S w a n c l -> (∀ b, S b -> b ≠ rb /\ b ≠ wb) -> (∀ u ∈ l, GoodD f u.er) -> Calls Tryz.prog F #[.pointer (some ⟨rb, 0, none⟩)] w (RdMany S ts rb wb l g w)
theorem good_items {f : Nat} {v : V} (h : GoodD f v) (hk : v.kind = 3) : ∀ u ∈ v.items, GoodD (f - 1) u := by
  cases f with
  | zero => exact absurd rfl h.1
  | succ f => exact h.items hk
theorem good_pos {f : Nat} {v : V} (h : GoodD f v) : 0 < f := by
  cases f with
  | zero => exact absurd rfl h.1
  | succ f => omega
theorem Got.leaf {T : Ty} {l l' : List Vl} {g : Bool} {v : Vl} {d : Dv} {g' : Bool} (hl : l = v :: l') (hf : Fit T v.er) (hd : d.toV = v.er) (hg : g' = g) : Got T l g d l' g' := by
  subst hg
  refine ⟨hl ▸ List.suffix_cons _ _, ?_⟩
  cases g' with
  | true => exact .inl ⟨rfl, .inl rfl⟩
  | false => exact .inr ⟨rfl, rfl, v, hl, hf, hd⟩
theorem Got.no {T : Ty} {l l' : List Vl} {g : Bool} (d : Dv) (h : l' <:+ l) (hb : ∀ v r, l = v :: r -> ¬ Fit T v.er) : Got T l g d l' true := ⟨h, .inl ⟨rfl, .inr hb⟩⟩
theorem rnum_any (f : Nat) : Reads .int f 69 (fun p => #[p]) := by
  intro S rb wb a n c l g w h hv hS hG
  have HN : Hid (Calls Tryz.prog 55 #[.pointer (some ⟨rb, 0, none⟩), .int .i64 1] w (NxPost S rb wb 1 l g w)) := next_any S rb wb 1 a n c l g w h hv hS
  have HG := hiq hG
  clear h hv hS hG
  change Calls _ _ #[.pointer (some ⟨rb, 0, none⟩)] _ _
  go_enter Tryz.func69, Tryz.ntmps69
  go_wp2_with fail
  refine HN.out.mono ?_
  rintro e w' ⟨⟨kk, nn, t, aa, cc, ll⟩, a', n', c', l', g', he, hx, hr, hvs, hrd, hE⟩
  change e = .returned (.agg #[.int .i64 kk, .int .i64 nn, .string t, .slice aa ll.length cc]) at he
  subst he
  have H : Hid (RdOne S .int rb wb l g w (.returned (.int .i64 nn)) w') := by
    refine ⟨.int nn, a', n', c', l', g', rfl, .int _, (rd_iff.1 hrd).2.1, ?_, hr, hvs, hE⟩
    rcases hx with ⟨_, rfl, rfl, hb⟩ | ⟨hl, hk, hg⟩
    · exact .no _ (List.suffix_refl _) fun v r e hf => hb v r e (by rw [<- Vl.er_kind]; exact fit_int.1 hf)
    · have hg9 := HG.out _ (hl ▸ List.mem_cons_self ..)
      have hk9 : (Vl.mk kk nn t aa cc ll).er.kind = 1 := by rw [Vl.er_kind]; exact hk
      exact .leaf hl (fit_int.2 hk9) (by rw [good_int hg9.2 hk9, Vl.er_num]; rfl) hg
  clear hx hr hvs hrd hE
  have hfd := valNum kk nn t aa ll.length cc w'
  go_wp2
  go_ret
  exact H.out
theorem rtext_any (f : Nat) : Reads .text f 56 (fun p => #[p]) := by
  intro S rb wb a n c l g w h hv hS hG
  have HN : Hid (Calls Tryz.prog 55 #[.pointer (some ⟨rb, 0, none⟩), .int .i64 2] w (NxPost S rb wb 2 l g w)) := next_any S rb wb 2 a n c l g w h hv hS
  have HG := hiq hG
  clear h hv hS hG
  change Calls _ _ #[.pointer (some ⟨rb, 0, none⟩)] _ _
  go_enter Tryz.func56, Tryz.ntmps56
  go_wp2_with fail
  refine HN.out.mono ?_
  rintro e w' ⟨⟨kk, nn, t, aa, cc, ll⟩, a', n', c', l', g', he, hx, hr, hvs, hrd, hE⟩
  change e = .returned (.agg #[.int .i64 kk, .int .i64 nn, .string t, .slice aa ll.length cc]) at he
  subst he
  have H : Hid (RdOne S .text rb wb l g w (.returned (.string t)) w') := by
    refine ⟨.text t, a', n', c', l', g', rfl, .text _, (rd_iff.1 hrd).2.2.1, ?_, hr, hvs, hE⟩
    rcases hx with ⟨_, rfl, rfl, hb⟩ | ⟨hl, hk, hg⟩
    · exact .no _ (List.suffix_refl _) fun v r e hf => hb v r e (by rw [<- Vl.er_kind]; exact fit_text.1 hf)
    · have hg9 := HG.out _ (hl ▸ List.mem_cons_self ..)
      have hk9 : (Vl.mk kk nn t aa cc ll).er.kind = 2 := by rw [Vl.er_kind]; exact hk
      exact .leaf hl (fit_text.2 hk9) (by rw [good_text hg9.2 hk9, Vl.er_text]; rfl) hg
  clear hx hr hvs hrd hE
  have hfd := valText kk nn t aa ll.length cc w'
  go_wp2
  go_ret
  exact H.out
theorem Got.truth {l l' : List Vl} {g g1 : Bool} {n : Int} (h : Got .int l g (.int n) l' g1) : ((n = 0 \/ n = 1) -> ∀ b : Bool, b = decide (n = 1) -> Got .bool l g (.bool b) l' g1) /\ (¬ (n = 0 \/ n = 1) -> ∀ d, Got .bool l g d l' true) := by
  refine ⟨fun hn b hb => ⟨h.1, ?_⟩, fun hn d => ⟨h.1, .inl ⟨rfl, ?_⟩⟩⟩
  · rcases h.2 with ⟨hg, hx⟩ | ⟨hg, hg0, v, hl, hf, hd⟩
    · exact .inl ⟨hg, hx.imp id fun hx v r e hf => hx v r e (fit_int.2 (fit_bool.1 hf).1)⟩
    · have hv : v.er.num = n := by rw [<- hd]; rfl
      refine .inr ⟨hg, hg0, v, hl, fit_bool.2 ⟨fit_int.1 hf, by rw [hv]; exact hn⟩, ?_⟩
      rw [<- hd, hb, Dv.toV, Dv.toV]
      rcases hn with rfl | rfl <;> rfl
  · rcases h.2 with ⟨hg, hx⟩ | ⟨hg, hg0, v, hl, hf, hd⟩
    · exact hx.imp id fun hx v r e hf => hx v r e (fit_int.2 (fit_bool.1 hf).1)
    · refine .inr fun v' r e hf' => hn ?_
      rw [hl] at e; injection e with e1 e2; subst e1
      have hv : v.er.num = n := by rw [<- hd]; rfl
      rw [<- hv]
      exact (fit_bool.1 hf').2
theorem rtruth_any (f : Nat) : Reads .bool f 178 (fun p => #[p]) := by
  intro S rb wb a n c l g w h hv hS hG
  have HN : Hid (Calls Tryz.prog 69 #[.pointer (some ⟨rb, 0, none⟩)] w (RdOne S .int rb wb l g w)) := rnum_any f S rb wb a n c l g w h hv hS hG
  have HS := hiq hS
  clear h hv hS hG
  change Calls _ _ #[.pointer (some ⟨rb, 0, none⟩)] _ _
  go_enter Tryz.func178, Tryz.ntmps178
  go_wp2_with fail
  refine HN.out.mono ?_
  rintro e w' ⟨d, a', n', c', l', g', he, hT, hrd, hx, hr, hvs, hE⟩
  obtain ⟨nn, rfl⟩ := hT.int_inv
  change e = .returned (.int .i64 nn) at he
  subst he
  obtain ⟨x0, x1, x2, f0, f1⟩ := hr.cells
  have hx2 := hx.truth
  by_cases hn : nn = 0 \/ nn = 1
  · have H : Hid (∀ b : Bool, b = decide (nn = 1) -> RdOne S .bool rb wb l g w (.returned (.bool b)) w') := fun b hb =>
      ⟨.bool b, a', n', c', l', g', rfl, .bool _, trivial, hx2.1 hn b hb, hr, hvs, hE⟩
    clear hx hx2 hr hvs hrd hE
    rcases hn with rfl | rfl
    · go_wp2
      go_ret
      exact H.out _ rfl
    · go_wp2
      go_ret
      exact H.out _ rfl
  · have h0 : (nn != 0) = true := by simp; omega
    have h1 : (nn != 1) = true := by simp; omega
    have H : Hid (∀ b : Bool, RdOne S .bool rb wb l g w (.returned (.bool b)) (w'.setCell ⟨wb, 0, none⟩ (.bool true))) := fun b => by
      have he : Exc (Two rb wb) w' (w'.setCell ⟨wb, 0, none⟩ (.bool true)) := Exc.setCell w' (.inr rfl) _
      exact ⟨.bool b, a', n', c', l', true, rfl, .bool _, trivial, hx2.2 hn _, hr.wrong, hvs.keep (he.keepS fun b hb hn => by have := HS.out b hb; rcases hn with h | h <;> simp_all), hE.trans he⟩
    clear hx hx2 hr hvs hrd hE hn
    go_wp2
    go_ret
    exact H.out _
end Go.Proofs.YtlbcmeebcfalpaaGreatDoor
namespace Go.Proofs.YtlbcmeebcfalpaaGreatDoor
open Go.RowKit Go.ChangeShapes Go.WideShapes Go.Deep

theorem list_of {α : Type} (d : α) (R : Nat -> α -> Prop) : ∀ n : Nat, (∀ i, i < n -> ∃ x, R i x) -> ∃ l : List α, l.length = n /\ ∀ i, i < n -> R i (l[i]?.getD d)
  | 0, _ => ⟨[], rfl, fun i hi => by omega⟩
  | n + 1, h => by
    obtain ⟨l, hl, hR⟩ := list_of d R n (fun i hi => h i (by omega))
    obtain ⟨x, hx⟩ := h n (by omega)
    refine ⟨l ++ [x], by simp [hl], fun i hi => ?_⟩
    by_cases e : i < n
    · rw [List.getElem?_append_left (by omega)]; exact hR i e
    · obtain rfl : i = l.length := by omega
      rw [List.getElem?_append_right (Nat.le_refl _)]; simpa [hl] using hx
theorem weightsAll_mem {H : Type} {P : Program} {e : TypeId} : ∀ {ds : List (DataW H)} {d : DataW H}, d ∈ ds -> ∀ n ∈ d.weights P e, n ∈ DataW.weightsAll P e ds
  | d0 :: r, d, hd, n, hn => by
    rw [DataW.weightsAll, List.mem_append]
    rcases List.mem_cons.1 hd with rfl | hd
    · exact .inl hn
    · exact .inr (weightsAll_mem hd n hn)
mutual
/-- How a type of the program's is laid out. -/
inductive TyOf : Ty -> TypeId -> Prop
  | int {t : TypeId} : Tryz.prog.underlying t = some (.int .i64) -> TyOf .int t
  | bool {t : TypeId} : Tryz.prog.underlying t = some .bool -> TyOf .bool t
  | text {t : TypeId} : Tryz.prog.underlying t = some .string -> TyOf .text t
  | struc {t : TypeId} {fs : Array Field} {ts : List Ty} {e : Nat} : Tryz.prog.underlying t = some (.struct fs) -> FdOf fs.toList ts 0 e -> Tryz.prog.cellsOf t = e -> TyOf (.struc ts) t
  | list {t e : TypeId} {k s : Nat} {ty : Ty} : Tryz.prog.underlying t = some (.slice e) -> Tryz.prog.cellsOf e = k -> Tryz.prog.bytesOf e = s -> 0 < k -> TyOf ty e -> TyOf (.list k s ty) t
  | node {t : TypeId} : t = 64 -> TyOf .node t
  | expr {t : TypeId} : t = 113 -> TyOf .expr t
inductive FdOf : List Field -> List Ty -> Nat -> Nat -> Prop
  | nil {o : Nat} : FdOf [] [] o o
  | cons {f : Field} {fs : List Field} {ty : Ty} {tys : List Ty} {o e : Nat} : f.offset = o -> TyOf ty f.type -> FdOf fs tys (o + Tryz.prog.cellsOf f.type) e -> FdOf (f :: fs) (ty :: tys) o e
end
theorem FdOf.le {fs : List Field} {tys : List Ty} {o e : Nat} (h : FdOf fs tys o e) : o <= e := by
  induction fs generalizing tys o with
  | nil => cases h; exact Nat.le_refl _
  | cons f fs ih => cases h with | cons _ _ h3 => have := ih h3; omega
section
variable {H : Type} {enc : TypeId × Value -> H} {w : World} {base : Nat} {held : Bool} {spare : Nat -> Bool}
end
end Go.Proofs.YtlbcmeebcfalpaaGreatDoor
namespace Go.Proofs.YtlbcmeebcfalpaaGreatDoor
open Go.RowKit

abbrev tyWitness : Ty := .struc [.text, .list 4 56 .node]
abbrev tyRewrite : Ty := .struc [.text, .text]
abbrev tyCosts : Ty := .struc [.int, .int, .int, .int]
abbrev tyRule : Ty := .struc [.text, .expr]
abbrev tyGroup : Ty := .struc [.text, .list 1 8 .int]
abbrev tyPattern : Ty := .struc [.text, .list 1 8 .int]
abbrev tyOp : Ty := .struc [.int, .text, .int, .int, .text]
abbrev tyDecision : Ty := .struc [.int, .text, .int, .text]
abbrev tyPosition : Ty := .struc [.text, .int]
abbrev tyToken : Ty := .struc [.text, .text, tyPosition, .int, .text]
abbrev tySection : Ty := .struc [.text, .list 5 56 tyOp, .list 1 1 .bool, .list 4 48 tyDecision, .text]
abbrev tyStyle : Ty := .struc [.int, .int, .int, .int, .int, .int, .int, .int, .int, .int, .int, .list 1 1 .bool, .list 1 16 .text]
abbrev tyEdition : Ty := .struc [.text, .list 2 40 tyWitness, .list 2 32 tyRewrite, tyCosts, .list 5 72 tyRule, .list 2 40 tyGroup, .list 2 40 tyPattern, .int, .list 5 104 tySection, tyStyle]
abbrev tyInput : Ty := .struc [.text, .list 1 16 .text, .list 1 24 (.list 6 80 tyToken), tyCosts, .list 5 72 tyRule, .list 2 40 tyGroup, .list 2 40 tyPattern, .int, .list 5 56 tyOp, .list 1 1 .bool, .list 4 48 tyDecision, .text, tyStyle]
theorem inv_Node {d : Dv} (h : Has nodeTy d) : ∃ y0 y1 y2 y3a y3c y3l, d = .struc [.int y0, .text y1, .int y2, .list 4 56 y3a y3c y3l] /\ (∀ x ∈ y3l, Has .node x) := by
  have h_y := h
  obtain ⟨Ly, rfl, i_y⟩ := h_y.struc_inv
  obtain ⟨Dy0, Ly0, rfl, g_y0, i_y0⟩ := i_y.cons_inv
  obtain ⟨y0, rfl⟩ := g_y0.int_inv
  obtain ⟨Dy1, Ly1, rfl, g_y1, i_y1⟩ := i_y0.cons_inv
  obtain ⟨y1, rfl⟩ := g_y1.text_inv
  obtain ⟨Dy2, Ly2, rfl, g_y2, i_y2⟩ := i_y1.cons_inv
  obtain ⟨y2, rfl⟩ := g_y2.int_inv
  obtain ⟨Dy3, Ly3, rfl, g_y3, i_y3⟩ := i_y2.cons_inv
  obtain ⟨y3a, y3c, y3l, rfl, k_y3⟩ := g_y3.list_inv
  obtain rfl := i_y3.nil_inv
  exact ⟨y0, y1, y2, y3a, y3c, y3l, rfl, k_y3⟩
theorem inv_Expr {d : Dv} (h : Has exprTy d) : ∃ y0 y1 y2 y3a y3c y3l, d = .struc [.int y0, .int y1, .text y2, .list 4 56 y3a y3c y3l] /\ (∀ x ∈ y3l, Has .expr x) := by
  have h_y := h
  obtain ⟨Ly, rfl, i_y⟩ := h_y.struc_inv
  obtain ⟨Dy0, Ly0, rfl, g_y0, i_y0⟩ := i_y.cons_inv
  obtain ⟨y0, rfl⟩ := g_y0.int_inv
  obtain ⟨Dy1, Ly1, rfl, g_y1, i_y1⟩ := i_y0.cons_inv
  obtain ⟨y1, rfl⟩ := g_y1.int_inv
  obtain ⟨Dy2, Ly2, rfl, g_y2, i_y2⟩ := i_y1.cons_inv
  obtain ⟨y2, rfl⟩ := g_y2.text_inv
  obtain ⟨Dy3, Ly3, rfl, g_y3, i_y3⟩ := i_y2.cons_inv
  obtain ⟨y3a, y3c, y3l, rfl, k_y3⟩ := g_y3.list_inv
  obtain rfl := i_y3.nil_inv
  exact ⟨y0, y1, y2, y3a, y3c, y3l, rfl, k_y3⟩
theorem inv_Witness {d : Dv} (h : Has tyWitness d) : ∃ y0 y1a y1c y1l, d = .struc [.text y0, .list 4 56 y1a y1c y1l] /\ (∀ x ∈ y1l, Has .node x) := by
  have h_y := h
  obtain ⟨Ly, rfl, i_y⟩ := h_y.struc_inv
  obtain ⟨Dy0, Ly0, rfl, g_y0, i_y0⟩ := i_y.cons_inv
  obtain ⟨y0, rfl⟩ := g_y0.text_inv
  obtain ⟨Dy1, Ly1, rfl, g_y1, i_y1⟩ := i_y0.cons_inv
  obtain ⟨y1a, y1c, y1l, rfl, k_y1⟩ := g_y1.list_inv
  obtain rfl := i_y1.nil_inv
  exact ⟨y0, y1a, y1c, y1l, rfl, k_y1⟩
theorem inv_Rewrite {d : Dv} (h : Has tyRewrite d) : ∃ y0 y1, d = .struc [.text y0, .text y1] := by
  have h_y := h
  obtain ⟨Ly, rfl, i_y⟩ := h_y.struc_inv
  obtain ⟨Dy0, Ly0, rfl, g_y0, i_y0⟩ := i_y.cons_inv
  obtain ⟨y0, rfl⟩ := g_y0.text_inv
  obtain ⟨Dy1, Ly1, rfl, g_y1, i_y1⟩ := i_y0.cons_inv
  obtain ⟨y1, rfl⟩ := g_y1.text_inv
  obtain rfl := i_y1.nil_inv
  exact ⟨y0, y1, rfl⟩
theorem inv_Costs {d : Dv} (h : Has tyCosts d) : ∃ y0 y1 y2 y3, d = .struc [.int y0, .int y1, .int y2, .int y3] := by
  have h_y := h
  obtain ⟨Ly, rfl, i_y⟩ := h_y.struc_inv
  obtain ⟨Dy0, Ly0, rfl, g_y0, i_y0⟩ := i_y.cons_inv
  obtain ⟨y0, rfl⟩ := g_y0.int_inv
  obtain ⟨Dy1, Ly1, rfl, g_y1, i_y1⟩ := i_y0.cons_inv
  obtain ⟨y1, rfl⟩ := g_y1.int_inv
  obtain ⟨Dy2, Ly2, rfl, g_y2, i_y2⟩ := i_y1.cons_inv
  obtain ⟨y2, rfl⟩ := g_y2.int_inv
  obtain ⟨Dy3, Ly3, rfl, g_y3, i_y3⟩ := i_y2.cons_inv
  obtain ⟨y3, rfl⟩ := g_y3.int_inv
  obtain rfl := i_y3.nil_inv
  exact ⟨y0, y1, y2, y3, rfl⟩
theorem inv_Rule {d : Dv} (h : Has tyRule d) : ∃ y0 y1_0 y1_1 y1_2 y1_3a y1_3c y1_3l, d = .struc [.text y0, .struc [.int y1_0, .int y1_1, .text y1_2, .list 4 56 y1_3a y1_3c y1_3l]] /\ (∀ x ∈ y1_3l, Has .expr x) := by
  have h_y := h
  obtain ⟨Ly, rfl, i_y⟩ := h_y.struc_inv
  obtain ⟨Dy0, Ly0, rfl, g_y0, i_y0⟩ := i_y.cons_inv
  obtain ⟨y0, rfl⟩ := g_y0.text_inv
  obtain ⟨Dy1, Ly1, rfl, g_y1, i_y1⟩ := i_y0.cons_inv
  have h_y1_ := Has.expr_inv g_y1
  obtain ⟨Ly1_, rfl, i_y1_⟩ := h_y1_.struc_inv
  obtain ⟨Dy1_0, Ly1_0, rfl, g_y1_0, i_y1_0⟩ := i_y1_.cons_inv
  obtain ⟨y1_0, rfl⟩ := g_y1_0.int_inv
  obtain ⟨Dy1_1, Ly1_1, rfl, g_y1_1, i_y1_1⟩ := i_y1_0.cons_inv
  obtain ⟨y1_1, rfl⟩ := g_y1_1.int_inv
  obtain ⟨Dy1_2, Ly1_2, rfl, g_y1_2, i_y1_2⟩ := i_y1_1.cons_inv
  obtain ⟨y1_2, rfl⟩ := g_y1_2.text_inv
  obtain ⟨Dy1_3, Ly1_3, rfl, g_y1_3, i_y1_3⟩ := i_y1_2.cons_inv
  obtain ⟨y1_3a, y1_3c, y1_3l, rfl, k_y1_3⟩ := g_y1_3.list_inv
  obtain rfl := i_y1_3.nil_inv
  obtain rfl := i_y1.nil_inv
  exact ⟨y0, y1_0, y1_1, y1_2, y1_3a, y1_3c, y1_3l, rfl, k_y1_3⟩
theorem inv_Group {d : Dv} (h : Has tyGroup d) : ∃ y0 y1a y1c y1l, d = .struc [.text y0, .list 1 8 y1a y1c y1l] /\ (∀ x ∈ y1l, Has .int x) := by
  have h_y := h
  obtain ⟨Ly, rfl, i_y⟩ := h_y.struc_inv
  obtain ⟨Dy0, Ly0, rfl, g_y0, i_y0⟩ := i_y.cons_inv
  obtain ⟨y0, rfl⟩ := g_y0.text_inv
  obtain ⟨Dy1, Ly1, rfl, g_y1, i_y1⟩ := i_y0.cons_inv
  obtain ⟨y1a, y1c, y1l, rfl, k_y1⟩ := g_y1.list_inv
  obtain rfl := i_y1.nil_inv
  exact ⟨y0, y1a, y1c, y1l, rfl, k_y1⟩
theorem inv_Pattern {d : Dv} (h : Has tyPattern d) : ∃ y0 y1a y1c y1l, d = .struc [.text y0, .list 1 8 y1a y1c y1l] /\ (∀ x ∈ y1l, Has .int x) := by
  have h_y := h
  obtain ⟨Ly, rfl, i_y⟩ := h_y.struc_inv
  obtain ⟨Dy0, Ly0, rfl, g_y0, i_y0⟩ := i_y.cons_inv
  obtain ⟨y0, rfl⟩ := g_y0.text_inv
  obtain ⟨Dy1, Ly1, rfl, g_y1, i_y1⟩ := i_y0.cons_inv
  obtain ⟨y1a, y1c, y1l, rfl, k_y1⟩ := g_y1.list_inv
  obtain rfl := i_y1.nil_inv
  exact ⟨y0, y1a, y1c, y1l, rfl, k_y1⟩
theorem inv_Op {d : Dv} (h : Has tyOp d) : ∃ y0 y1 y2 y3 y4, d = .struc [.int y0, .text y1, .int y2, .int y3, .text y4] := by
  have h_y := h
  obtain ⟨Ly, rfl, i_y⟩ := h_y.struc_inv
  obtain ⟨Dy0, Ly0, rfl, g_y0, i_y0⟩ := i_y.cons_inv
  obtain ⟨y0, rfl⟩ := g_y0.int_inv
  obtain ⟨Dy1, Ly1, rfl, g_y1, i_y1⟩ := i_y0.cons_inv
  obtain ⟨y1, rfl⟩ := g_y1.text_inv
  obtain ⟨Dy2, Ly2, rfl, g_y2, i_y2⟩ := i_y1.cons_inv
  obtain ⟨y2, rfl⟩ := g_y2.int_inv
  obtain ⟨Dy3, Ly3, rfl, g_y3, i_y3⟩ := i_y2.cons_inv
  obtain ⟨y3, rfl⟩ := g_y3.int_inv
  obtain ⟨Dy4, Ly4, rfl, g_y4, i_y4⟩ := i_y3.cons_inv
  obtain ⟨y4, rfl⟩ := g_y4.text_inv
  obtain rfl := i_y4.nil_inv
  exact ⟨y0, y1, y2, y3, y4, rfl⟩
theorem inv_Decision {d : Dv} (h : Has tyDecision d) : ∃ y0 y1 y2 y3, d = .struc [.int y0, .text y1, .int y2, .text y3] := by
  have h_y := h
  obtain ⟨Ly, rfl, i_y⟩ := h_y.struc_inv
  obtain ⟨Dy0, Ly0, rfl, g_y0, i_y0⟩ := i_y.cons_inv
  obtain ⟨y0, rfl⟩ := g_y0.int_inv
  obtain ⟨Dy1, Ly1, rfl, g_y1, i_y1⟩ := i_y0.cons_inv
  obtain ⟨y1, rfl⟩ := g_y1.text_inv
  obtain ⟨Dy2, Ly2, rfl, g_y2, i_y2⟩ := i_y1.cons_inv
  obtain ⟨y2, rfl⟩ := g_y2.int_inv
  obtain ⟨Dy3, Ly3, rfl, g_y3, i_y3⟩ := i_y2.cons_inv
  obtain ⟨y3, rfl⟩ := g_y3.text_inv
  obtain rfl := i_y3.nil_inv
  exact ⟨y0, y1, y2, y3, rfl⟩
theorem inv_Position {d : Dv} (h : Has tyPosition d) : ∃ y0 y1, d = .struc [.text y0, .int y1] := by
  have h_y := h
  obtain ⟨Ly, rfl, i_y⟩ := h_y.struc_inv
  obtain ⟨Dy0, Ly0, rfl, g_y0, i_y0⟩ := i_y.cons_inv
  obtain ⟨y0, rfl⟩ := g_y0.text_inv
  obtain ⟨Dy1, Ly1, rfl, g_y1, i_y1⟩ := i_y0.cons_inv
  obtain ⟨y1, rfl⟩ := g_y1.int_inv
  obtain rfl := i_y1.nil_inv
  exact ⟨y0, y1, rfl⟩
theorem inv_Token {d : Dv} (h : Has tyToken d) : ∃ y0 y1 y2_0 y2_1 y3 y4, d = .struc [.text y0, .text y1, .struc [.text y2_0, .int y2_1], .int y3, .text y4] := by
  have h_y := h
  obtain ⟨Ly, rfl, i_y⟩ := h_y.struc_inv
  obtain ⟨Dy0, Ly0, rfl, g_y0, i_y0⟩ := i_y.cons_inv
  obtain ⟨y0, rfl⟩ := g_y0.text_inv
  obtain ⟨Dy1, Ly1, rfl, g_y1, i_y1⟩ := i_y0.cons_inv
  obtain ⟨y1, rfl⟩ := g_y1.text_inv
  obtain ⟨Dy2, Ly2, rfl, g_y2, i_y2⟩ := i_y1.cons_inv
  have h_y2_ := g_y2
  obtain ⟨Ly2_, rfl, i_y2_⟩ := h_y2_.struc_inv
  obtain ⟨Dy2_0, Ly2_0, rfl, g_y2_0, i_y2_0⟩ := i_y2_.cons_inv
  obtain ⟨y2_0, rfl⟩ := g_y2_0.text_inv
  obtain ⟨Dy2_1, Ly2_1, rfl, g_y2_1, i_y2_1⟩ := i_y2_0.cons_inv
  obtain ⟨y2_1, rfl⟩ := g_y2_1.int_inv
  obtain rfl := i_y2_1.nil_inv
  obtain ⟨Dy3, Ly3, rfl, g_y3, i_y3⟩ := i_y2.cons_inv
  obtain ⟨y3, rfl⟩ := g_y3.int_inv
  obtain ⟨Dy4, Ly4, rfl, g_y4, i_y4⟩ := i_y3.cons_inv
  obtain ⟨y4, rfl⟩ := g_y4.text_inv
  obtain rfl := i_y4.nil_inv
  exact ⟨y0, y1, y2_0, y2_1, y3, y4, rfl⟩
theorem inv_Section {d : Dv} (h : Has tySection d) : ∃ y0 y1a y1c y1l y2a y2c y2l y3a y3c y3l y4, d = .struc [.text y0, .list 5 56 y1a y1c y1l, .list 1 1 y2a y2c y2l, .list 4 48 y3a y3c y3l, .text y4] /\ (∀ x ∈ y1l, Has tyOp x) /\ (∀ x ∈ y2l, Has .bool x) /\ (∀ x ∈ y3l, Has tyDecision x) := by
  have h_y := h
  obtain ⟨Ly, rfl, i_y⟩ := h_y.struc_inv
  obtain ⟨Dy0, Ly0, rfl, g_y0, i_y0⟩ := i_y.cons_inv
  obtain ⟨y0, rfl⟩ := g_y0.text_inv
  obtain ⟨Dy1, Ly1, rfl, g_y1, i_y1⟩ := i_y0.cons_inv
  obtain ⟨y1a, y1c, y1l, rfl, k_y1⟩ := g_y1.list_inv
  obtain ⟨Dy2, Ly2, rfl, g_y2, i_y2⟩ := i_y1.cons_inv
  obtain ⟨y2a, y2c, y2l, rfl, k_y2⟩ := g_y2.list_inv
  obtain ⟨Dy3, Ly3, rfl, g_y3, i_y3⟩ := i_y2.cons_inv
  obtain ⟨y3a, y3c, y3l, rfl, k_y3⟩ := g_y3.list_inv
  obtain ⟨Dy4, Ly4, rfl, g_y4, i_y4⟩ := i_y3.cons_inv
  obtain ⟨y4, rfl⟩ := g_y4.text_inv
  obtain rfl := i_y4.nil_inv
  exact ⟨y0, y1a, y1c, y1l, y2a, y2c, y2l, y3a, y3c, y3l, y4, rfl, k_y1, k_y2, k_y3⟩
theorem inv_Style {d : Dv} (h : Has tyStyle d) : ∃ y0 y1 y2 y3 y4 y5 y6 y7 y8 y9 y10 y11a y11c y11l y12a y12c y12l, d = .struc [.int y0, .int y1, .int y2, .int y3, .int y4, .int y5, .int y6, .int y7, .int y8, .int y9, .int y10, .list 1 1 y11a y11c y11l, .list 1 16 y12a y12c y12l] /\ (∀ x ∈ y11l, Has .bool x) /\ (∀ x ∈ y12l, Has .text x) := by
  have h_y := h
  obtain ⟨Ly, rfl, i_y⟩ := h_y.struc_inv
  obtain ⟨Dy0, Ly0, rfl, g_y0, i_y0⟩ := i_y.cons_inv
  obtain ⟨y0, rfl⟩ := g_y0.int_inv
  obtain ⟨Dy1, Ly1, rfl, g_y1, i_y1⟩ := i_y0.cons_inv
  obtain ⟨y1, rfl⟩ := g_y1.int_inv
  obtain ⟨Dy2, Ly2, rfl, g_y2, i_y2⟩ := i_y1.cons_inv
  obtain ⟨y2, rfl⟩ := g_y2.int_inv
  obtain ⟨Dy3, Ly3, rfl, g_y3, i_y3⟩ := i_y2.cons_inv
  obtain ⟨y3, rfl⟩ := g_y3.int_inv
  obtain ⟨Dy4, Ly4, rfl, g_y4, i_y4⟩ := i_y3.cons_inv
  obtain ⟨y4, rfl⟩ := g_y4.int_inv
  obtain ⟨Dy5, Ly5, rfl, g_y5, i_y5⟩ := i_y4.cons_inv
  obtain ⟨y5, rfl⟩ := g_y5.int_inv
  obtain ⟨Dy6, Ly6, rfl, g_y6, i_y6⟩ := i_y5.cons_inv
  obtain ⟨y6, rfl⟩ := g_y6.int_inv
  obtain ⟨Dy7, Ly7, rfl, g_y7, i_y7⟩ := i_y6.cons_inv
  obtain ⟨y7, rfl⟩ := g_y7.int_inv
  obtain ⟨Dy8, Ly8, rfl, g_y8, i_y8⟩ := i_y7.cons_inv
  obtain ⟨y8, rfl⟩ := g_y8.int_inv
  obtain ⟨Dy9, Ly9, rfl, g_y9, i_y9⟩ := i_y8.cons_inv
  obtain ⟨y9, rfl⟩ := g_y9.int_inv
  obtain ⟨Dy10, Ly10, rfl, g_y10, i_y10⟩ := i_y9.cons_inv
  obtain ⟨y10, rfl⟩ := g_y10.int_inv
  obtain ⟨Dy11, Ly11, rfl, g_y11, i_y11⟩ := i_y10.cons_inv
  obtain ⟨y11a, y11c, y11l, rfl, k_y11⟩ := g_y11.list_inv
  obtain ⟨Dy12, Ly12, rfl, g_y12, i_y12⟩ := i_y11.cons_inv
  obtain ⟨y12a, y12c, y12l, rfl, k_y12⟩ := g_y12.list_inv
  obtain rfl := i_y12.nil_inv
  exact ⟨y0, y1, y2, y3, y4, y5, y6, y7, y8, y9, y10, y11a, y11c, y11l, y12a, y12c, y12l, rfl, k_y11, k_y12⟩
theorem inv_Edition {d : Dv} (h : Has tyEdition d) : ∃ y0 y1a y1c y1l y2a y2c y2l y3_0 y3_1 y3_2 y3_3 y4a y4c y4l y5a y5c y5l y6a y6c y6l y7 y8a y8c y8l y9_0 y9_1 y9_2 y9_3 y9_4 y9_5 y9_6 y9_7 y9_8 y9_9 y9_10 y9_11a y9_11c y9_11l y9_12a y9_12c y9_12l, d = .struc [.text y0, .list 2 40 y1a y1c y1l, .list 2 32 y2a y2c y2l, .struc [.int y3_0, .int y3_1, .int y3_2, .int y3_3], .list 5 72 y4a y4c y4l, .list 2 40 y5a y5c y5l, .list 2 40 y6a y6c y6l, .int y7, .list 5 104 y8a y8c y8l, .struc [.int y9_0, .int y9_1, .int y9_2, .int y9_3, .int y9_4, .int y9_5, .int y9_6, .int y9_7, .int y9_8, .int y9_9, .int y9_10, .list 1 1 y9_11a y9_11c y9_11l, .list 1 16 y9_12a y9_12c y9_12l]] /\ (∀ x ∈ y1l, Has tyWitness x) /\ (∀ x ∈ y2l, Has tyRewrite x) /\ (∀ x ∈ y4l, Has tyRule x) /\ (∀ x ∈ y5l, Has tyGroup x) /\ (∀ x ∈ y6l, Has tyPattern x) /\ (∀ x ∈ y8l, Has tySection x) /\ (∀ x ∈ y9_11l, Has .bool x) /\ (∀ x ∈ y9_12l, Has .text x) := by
  have h_y := h
  obtain ⟨Ly, rfl, i_y⟩ := h_y.struc_inv
  obtain ⟨Dy0, Ly0, rfl, g_y0, i_y0⟩ := i_y.cons_inv
  obtain ⟨y0, rfl⟩ := g_y0.text_inv
  obtain ⟨Dy1, Ly1, rfl, g_y1, i_y1⟩ := i_y0.cons_inv
  obtain ⟨y1a, y1c, y1l, rfl, k_y1⟩ := g_y1.list_inv
  obtain ⟨Dy2, Ly2, rfl, g_y2, i_y2⟩ := i_y1.cons_inv
  obtain ⟨y2a, y2c, y2l, rfl, k_y2⟩ := g_y2.list_inv
  obtain ⟨Dy3, Ly3, rfl, g_y3, i_y3⟩ := i_y2.cons_inv
  have h_y3_ := g_y3
  obtain ⟨Ly3_, rfl, i_y3_⟩ := h_y3_.struc_inv
  obtain ⟨Dy3_0, Ly3_0, rfl, g_y3_0, i_y3_0⟩ := i_y3_.cons_inv
  obtain ⟨y3_0, rfl⟩ := g_y3_0.int_inv
  obtain ⟨Dy3_1, Ly3_1, rfl, g_y3_1, i_y3_1⟩ := i_y3_0.cons_inv
  obtain ⟨y3_1, rfl⟩ := g_y3_1.int_inv
  obtain ⟨Dy3_2, Ly3_2, rfl, g_y3_2, i_y3_2⟩ := i_y3_1.cons_inv
  obtain ⟨y3_2, rfl⟩ := g_y3_2.int_inv
  obtain ⟨Dy3_3, Ly3_3, rfl, g_y3_3, i_y3_3⟩ := i_y3_2.cons_inv
  obtain ⟨y3_3, rfl⟩ := g_y3_3.int_inv
  obtain rfl := i_y3_3.nil_inv
  obtain ⟨Dy4, Ly4, rfl, g_y4, i_y4⟩ := i_y3.cons_inv
  obtain ⟨y4a, y4c, y4l, rfl, k_y4⟩ := g_y4.list_inv
  obtain ⟨Dy5, Ly5, rfl, g_y5, i_y5⟩ := i_y4.cons_inv
  obtain ⟨y5a, y5c, y5l, rfl, k_y5⟩ := g_y5.list_inv
  obtain ⟨Dy6, Ly6, rfl, g_y6, i_y6⟩ := i_y5.cons_inv
  obtain ⟨y6a, y6c, y6l, rfl, k_y6⟩ := g_y6.list_inv
  obtain ⟨Dy7, Ly7, rfl, g_y7, i_y7⟩ := i_y6.cons_inv
  obtain ⟨y7, rfl⟩ := g_y7.int_inv
  obtain ⟨Dy8, Ly8, rfl, g_y8, i_y8⟩ := i_y7.cons_inv
  obtain ⟨y8a, y8c, y8l, rfl, k_y8⟩ := g_y8.list_inv
  obtain ⟨Dy9, Ly9, rfl, g_y9, i_y9⟩ := i_y8.cons_inv
  have h_y9_ := g_y9
  obtain ⟨Ly9_, rfl, i_y9_⟩ := h_y9_.struc_inv
  obtain ⟨Dy9_0, Ly9_0, rfl, g_y9_0, i_y9_0⟩ := i_y9_.cons_inv
  obtain ⟨y9_0, rfl⟩ := g_y9_0.int_inv
  obtain ⟨Dy9_1, Ly9_1, rfl, g_y9_1, i_y9_1⟩ := i_y9_0.cons_inv
  obtain ⟨y9_1, rfl⟩ := g_y9_1.int_inv
  obtain ⟨Dy9_2, Ly9_2, rfl, g_y9_2, i_y9_2⟩ := i_y9_1.cons_inv
  obtain ⟨y9_2, rfl⟩ := g_y9_2.int_inv
  obtain ⟨Dy9_3, Ly9_3, rfl, g_y9_3, i_y9_3⟩ := i_y9_2.cons_inv
  obtain ⟨y9_3, rfl⟩ := g_y9_3.int_inv
  obtain ⟨Dy9_4, Ly9_4, rfl, g_y9_4, i_y9_4⟩ := i_y9_3.cons_inv
  obtain ⟨y9_4, rfl⟩ := g_y9_4.int_inv
  obtain ⟨Dy9_5, Ly9_5, rfl, g_y9_5, i_y9_5⟩ := i_y9_4.cons_inv
  obtain ⟨y9_5, rfl⟩ := g_y9_5.int_inv
  obtain ⟨Dy9_6, Ly9_6, rfl, g_y9_6, i_y9_6⟩ := i_y9_5.cons_inv
  obtain ⟨y9_6, rfl⟩ := g_y9_6.int_inv
  obtain ⟨Dy9_7, Ly9_7, rfl, g_y9_7, i_y9_7⟩ := i_y9_6.cons_inv
  obtain ⟨y9_7, rfl⟩ := g_y9_7.int_inv
  obtain ⟨Dy9_8, Ly9_8, rfl, g_y9_8, i_y9_8⟩ := i_y9_7.cons_inv
  obtain ⟨y9_8, rfl⟩ := g_y9_8.int_inv
  obtain ⟨Dy9_9, Ly9_9, rfl, g_y9_9, i_y9_9⟩ := i_y9_8.cons_inv
  obtain ⟨y9_9, rfl⟩ := g_y9_9.int_inv
  obtain ⟨Dy9_10, Ly9_10, rfl, g_y9_10, i_y9_10⟩ := i_y9_9.cons_inv
  obtain ⟨y9_10, rfl⟩ := g_y9_10.int_inv
  obtain ⟨Dy9_11, Ly9_11, rfl, g_y9_11, i_y9_11⟩ := i_y9_10.cons_inv
  obtain ⟨y9_11a, y9_11c, y9_11l, rfl, k_y9_11⟩ := g_y9_11.list_inv
  obtain ⟨Dy9_12, Ly9_12, rfl, g_y9_12, i_y9_12⟩ := i_y9_11.cons_inv
  obtain ⟨y9_12a, y9_12c, y9_12l, rfl, k_y9_12⟩ := g_y9_12.list_inv
  obtain rfl := i_y9_12.nil_inv
  obtain rfl := i_y9.nil_inv
  exact ⟨y0, y1a, y1c, y1l, y2a, y2c, y2l, y3_0, y3_1, y3_2, y3_3, y4a, y4c, y4l, y5a, y5c, y5l, y6a, y6c, y6l, y7, y8a, y8c, y8l, y9_0, y9_1, y9_2, y9_3, y9_4, y9_5, y9_6, y9_7, y9_8, y9_9, y9_10, y9_11a, y9_11c, y9_11l, y9_12a, y9_12c, y9_12l, rfl, k_y1, k_y2, k_y4, k_y5, k_y6, k_y8, k_y9_11, k_y9_12⟩
theorem inv_Input {d : Dv} (h : Has tyInput d) : ∃ y0 y1a y1c y1l y2a y2c y2l y3_0 y3_1 y3_2 y3_3 y4a y4c y4l y5a y5c y5l y6a y6c y6l y7 y8a y8c y8l y9a y9c y9l y10a y10c y10l y11 y12_0 y12_1 y12_2 y12_3 y12_4 y12_5 y12_6 y12_7 y12_8 y12_9 y12_10 y12_11a y12_11c y12_11l y12_12a y12_12c y12_12l, d = .struc [.text y0, .list 1 16 y1a y1c y1l, .list 1 24 y2a y2c y2l, .struc [.int y3_0, .int y3_1, .int y3_2, .int y3_3], .list 5 72 y4a y4c y4l, .list 2 40 y5a y5c y5l, .list 2 40 y6a y6c y6l, .int y7, .list 5 56 y8a y8c y8l, .list 1 1 y9a y9c y9l, .list 4 48 y10a y10c y10l, .text y11, .struc [.int y12_0, .int y12_1, .int y12_2, .int y12_3, .int y12_4, .int y12_5, .int y12_6, .int y12_7, .int y12_8, .int y12_9, .int y12_10, .list 1 1 y12_11a y12_11c y12_11l, .list 1 16 y12_12a y12_12c y12_12l]] /\ (∀ x ∈ y1l, Has .text x) /\ (∀ x ∈ y2l, Has (.list 6 80 tyToken) x) /\ (∀ x ∈ y4l, Has tyRule x) /\ (∀ x ∈ y5l, Has tyGroup x) /\ (∀ x ∈ y6l, Has tyPattern x) /\ (∀ x ∈ y8l, Has tyOp x) /\ (∀ x ∈ y9l, Has .bool x) /\ (∀ x ∈ y10l, Has tyDecision x) /\ (∀ x ∈ y12_11l, Has .bool x) /\ (∀ x ∈ y12_12l, Has .text x) := by
  have h_y := h
  obtain ⟨Ly, rfl, i_y⟩ := h_y.struc_inv
  obtain ⟨Dy0, Ly0, rfl, g_y0, i_y0⟩ := i_y.cons_inv
  obtain ⟨y0, rfl⟩ := g_y0.text_inv
  obtain ⟨Dy1, Ly1, rfl, g_y1, i_y1⟩ := i_y0.cons_inv
  obtain ⟨y1a, y1c, y1l, rfl, k_y1⟩ := g_y1.list_inv
  obtain ⟨Dy2, Ly2, rfl, g_y2, i_y2⟩ := i_y1.cons_inv
  obtain ⟨y2a, y2c, y2l, rfl, k_y2⟩ := g_y2.list_inv
  obtain ⟨Dy3, Ly3, rfl, g_y3, i_y3⟩ := i_y2.cons_inv
  have h_y3_ := g_y3
  obtain ⟨Ly3_, rfl, i_y3_⟩ := h_y3_.struc_inv
  obtain ⟨Dy3_0, Ly3_0, rfl, g_y3_0, i_y3_0⟩ := i_y3_.cons_inv
  obtain ⟨y3_0, rfl⟩ := g_y3_0.int_inv
  obtain ⟨Dy3_1, Ly3_1, rfl, g_y3_1, i_y3_1⟩ := i_y3_0.cons_inv
  obtain ⟨y3_1, rfl⟩ := g_y3_1.int_inv
  obtain ⟨Dy3_2, Ly3_2, rfl, g_y3_2, i_y3_2⟩ := i_y3_1.cons_inv
  obtain ⟨y3_2, rfl⟩ := g_y3_2.int_inv
  obtain ⟨Dy3_3, Ly3_3, rfl, g_y3_3, i_y3_3⟩ := i_y3_2.cons_inv
  obtain ⟨y3_3, rfl⟩ := g_y3_3.int_inv
  obtain rfl := i_y3_3.nil_inv
  obtain ⟨Dy4, Ly4, rfl, g_y4, i_y4⟩ := i_y3.cons_inv
  obtain ⟨y4a, y4c, y4l, rfl, k_y4⟩ := g_y4.list_inv
  obtain ⟨Dy5, Ly5, rfl, g_y5, i_y5⟩ := i_y4.cons_inv
  obtain ⟨y5a, y5c, y5l, rfl, k_y5⟩ := g_y5.list_inv
  obtain ⟨Dy6, Ly6, rfl, g_y6, i_y6⟩ := i_y5.cons_inv
  obtain ⟨y6a, y6c, y6l, rfl, k_y6⟩ := g_y6.list_inv
  obtain ⟨Dy7, Ly7, rfl, g_y7, i_y7⟩ := i_y6.cons_inv
  obtain ⟨y7, rfl⟩ := g_y7.int_inv
  obtain ⟨Dy8, Ly8, rfl, g_y8, i_y8⟩ := i_y7.cons_inv
  obtain ⟨y8a, y8c, y8l, rfl, k_y8⟩ := g_y8.list_inv
  obtain ⟨Dy9, Ly9, rfl, g_y9, i_y9⟩ := i_y8.cons_inv
  obtain ⟨y9a, y9c, y9l, rfl, k_y9⟩ := g_y9.list_inv
  obtain ⟨Dy10, Ly10, rfl, g_y10, i_y10⟩ := i_y9.cons_inv
  obtain ⟨y10a, y10c, y10l, rfl, k_y10⟩ := g_y10.list_inv
  obtain ⟨Dy11, Ly11, rfl, g_y11, i_y11⟩ := i_y10.cons_inv
  obtain ⟨y11, rfl⟩ := g_y11.text_inv
  obtain ⟨Dy12, Ly12, rfl, g_y12, i_y12⟩ := i_y11.cons_inv
  have h_y12_ := g_y12
  obtain ⟨Ly12_, rfl, i_y12_⟩ := h_y12_.struc_inv
  obtain ⟨Dy12_0, Ly12_0, rfl, g_y12_0, i_y12_0⟩ := i_y12_.cons_inv
  obtain ⟨y12_0, rfl⟩ := g_y12_0.int_inv
  obtain ⟨Dy12_1, Ly12_1, rfl, g_y12_1, i_y12_1⟩ := i_y12_0.cons_inv
  obtain ⟨y12_1, rfl⟩ := g_y12_1.int_inv
  obtain ⟨Dy12_2, Ly12_2, rfl, g_y12_2, i_y12_2⟩ := i_y12_1.cons_inv
  obtain ⟨y12_2, rfl⟩ := g_y12_2.int_inv
  obtain ⟨Dy12_3, Ly12_3, rfl, g_y12_3, i_y12_3⟩ := i_y12_2.cons_inv
  obtain ⟨y12_3, rfl⟩ := g_y12_3.int_inv
  obtain ⟨Dy12_4, Ly12_4, rfl, g_y12_4, i_y12_4⟩ := i_y12_3.cons_inv
  obtain ⟨y12_4, rfl⟩ := g_y12_4.int_inv
  obtain ⟨Dy12_5, Ly12_5, rfl, g_y12_5, i_y12_5⟩ := i_y12_4.cons_inv
  obtain ⟨y12_5, rfl⟩ := g_y12_5.int_inv
  obtain ⟨Dy12_6, Ly12_6, rfl, g_y12_6, i_y12_6⟩ := i_y12_5.cons_inv
  obtain ⟨y12_6, rfl⟩ := g_y12_6.int_inv
  obtain ⟨Dy12_7, Ly12_7, rfl, g_y12_7, i_y12_7⟩ := i_y12_6.cons_inv
  obtain ⟨y12_7, rfl⟩ := g_y12_7.int_inv
  obtain ⟨Dy12_8, Ly12_8, rfl, g_y12_8, i_y12_8⟩ := i_y12_7.cons_inv
  obtain ⟨y12_8, rfl⟩ := g_y12_8.int_inv
  obtain ⟨Dy12_9, Ly12_9, rfl, g_y12_9, i_y12_9⟩ := i_y12_8.cons_inv
  obtain ⟨y12_9, rfl⟩ := g_y12_9.int_inv
  obtain ⟨Dy12_10, Ly12_10, rfl, g_y12_10, i_y12_10⟩ := i_y12_9.cons_inv
  obtain ⟨y12_10, rfl⟩ := g_y12_10.int_inv
  obtain ⟨Dy12_11, Ly12_11, rfl, g_y12_11, i_y12_11⟩ := i_y12_10.cons_inv
  obtain ⟨y12_11a, y12_11c, y12_11l, rfl, k_y12_11⟩ := g_y12_11.list_inv
  obtain ⟨Dy12_12, Ly12_12, rfl, g_y12_12, i_y12_12⟩ := i_y12_11.cons_inv
  obtain ⟨y12_12a, y12_12c, y12_12l, rfl, k_y12_12⟩ := g_y12_12.list_inv
  obtain rfl := i_y12_12.nil_inv
  obtain rfl := i_y12.nil_inv
  exact ⟨y0, y1a, y1c, y1l, y2a, y2c, y2l, y3_0, y3_1, y3_2, y3_3, y4a, y4c, y4l, y5a, y5c, y5l, y6a, y6c, y6l, y7, y8a, y8c, y8l, y9a, y9c, y9l, y10a, y10c, y10l, y11, y12_0, y12_1, y12_2, y12_3, y12_4, y12_5, y12_6, y12_7, y12_8, y12_9, y12_10, y12_11a, y12_11c, y12_11l, y12_12a, y12_12c, y12_12l, rfl, k_y1, k_y2, k_y4, k_y5, k_y6, k_y8, k_y9, k_y10, k_y12_11, k_y12_12⟩
end Go.Proofs.YtlbcmeebcfalpaaGreatDoor
namespace Go.Proofs.YtlbcmeebcfalpaaGreatDoor
open Go

section
variable {P : Program} {ops : Array Oper} {md : Region.Mode} {X : Type} {Wf : X -> World} {Q : Exit -> Act -> World -> Prop}

end
end Go.Proofs.YtlbcmeebcfalpaaGreatDoor

/- A region that draws its order: reads and others by turns; where several others are ready, one way for each. -/
namespace Go.Proofs.YtlbcmeebcfalpaaGreatDoor
open Go

section
variable {P : Program} {ops : Array Oper} {md : Region.Mode} {X : Type} {Wf : X -> World} {Q : Exit -> Act -> World -> Prop}

/-- A tree of orders: what only reads; or one of two that are ready; or the one that is. -/
inductive Tree
  | fin : Tree
  | read : Nat -> Tree -> Tree
  | act : Nat -> Tree -> Tree
  | two : Nat -> Tree -> Nat -> Tree -> Tree
def Tree.len : Tree -> Nat
  | .fin => 0
  | .read _ t => t.len + 1
  | .act _ t => t.len + 1
  | .two _ t _ _ => t.len + 1
def treeB (md : Region.Mode) (ops : Array Oper) (n g : Nat) : Tree -> Array Bool -> Bool
  | .fin, done => Region.seqB md ops g n done
  | .read k t, done => decide (k < n) && decide (k < ops.size) && (Region.ready md ops done).contains k && Region.free md ops done k && treeB md ops n g t (done.setIfInBounds k true)
  | .act k t, done => decide (k < n) && decide (k < ops.size) && decide (Region.ready md ops done = [k]) && treeB md ops n g t (done.setIfInBounds k true)
  | .two i t j u, done => decide (i < n) && decide (j < n) && decide (i < ops.size) && decide (j < ops.size) && decide (t.len = u.len) && decide (Region.ready md ops done = [i, j]) && treeB md ops n g t (done.setIfInBounds i true) && treeB md ops n g u (done.setIfInBounds j true)
def wpTree (P : Program) (l : List Oper) (Q : Exit -> Act -> World -> Prop) (Wf : X -> World) (T : Act -> World -> Prop) : Tree -> Act -> World -> Prop
  | .fin, a, w => T a w
  | .read k t, a, w => ∀ o, l[k]? = some o -> rOp P l.toArray Wf o a (fun a' => wpTree P l Q Wf T t a' w)
  | .act k t, a, w => ∀ o, l[k]? = some o -> wpList P l.toArray (Exit.then (fun a' w' => (∃ x, w' = Wf x) /\ wpTree P l Q Wf T t a' w') Q) [o] a w
  | .two i t j u, a, w => (∀ o, l[i]? = some o -> wpList P l.toArray (Exit.then (fun a' w' => (∃ x, w' = Wf x) /\ wpTree P l Q Wf T t a' w') Q) [o] a w) /\
      ∀ o, l[j]? = some o -> wpList P l.toArray (Exit.then (fun a' w' => (∃ x, w' = Wf x) /\ wpTree P l Q Wf T u a' w') Q) [o] a w
theorem wpTree_fin {l : List Oper} {T : Act -> World -> Prop} {a : Act} {w : World} (h : T a w) : wpTree P l Q Wf T .fin a w := h
theorem wpTree_read {l : List Oper} {T : Act -> World -> Prop} {k : Nat} {t : Tree} {a : Act} {w : World} (o : Oper) (ho : l[k]? = some o) (h : ∀ K : Act -> Prop, (∀ a, wpTree P l Q Wf T t a w -> K a) -> rOp P l.toArray Wf o a K) : wpTree P l Q Wf T (.read k t) a w := by
  intro o' h'
  rw [ho] at h'; cases h'
  exact h _ (fun _ h => h)
theorem wpTree_act {l : List Oper} {T : Act -> World -> Prop} {k : Nat} {t : Tree} {a : Act} {w : World} (o : Oper) (ho : l[k]? = some o) (h : wpList P l.toArray (Exit.then (fun a' w' => (∃ x, w' = Wf x) /\ wpTree P l Q Wf T t a' w') Q) [o] a w) : wpTree P l Q Wf T (.act k t) a w := by
  intro o' h'
  rw [ho] at h'; cases h'
  exact h
theorem headH_tree {n g : Nat} {T : Act -> World -> Prop} {l : List Oper} (hl : ops = l.toArray) (hsel : Region.noSelect ops = true)
    (hs : Region.sinkB md ops n = true) (hc : Region.chainB md ops n = true) (hn : n < ops.size)
    (hQ : ∀ c a d v w, Q (.panic c) (Act.put a d v) w -> Q (.panic c) a w) : ∀ (t : Tree) (done : Array Bool) (a : Act) (w : World), HeadInv md ops n done -> treeB md ops n g t done = true ->
    (∃ x, w = Wf x) -> wpTree P l Q Wf T t a w -> headH P md ops Q Wf n (fun done' a' w' => Region.seqB md ops g n done' = true /\ T a' w') t.len done a w
  | .fin, done, a, w, _, hB, _, h => ⟨hB, h⟩
  | .read k t, done, a, w, inv, hB, hS, h => by
    simp only [treeB, Bool.and_eq_true, decide_eq_true_eq, List.contains_iff_mem] at hB
    obtain ⟨⟨⟨⟨h1, hkl⟩, h2⟩, h3⟩, h4⟩ := hB
    obtain ⟨o, ho'⟩ : ∃ o, ops[k]? = some o := ⟨_, Array.getElem?_eq_getElem hkl⟩
    have ho : l[k]? = some o := by rw [hl] at ho'; simpa using ho'
    replace h := h o ho
    rw [<- hl] at h
    unfold rOp at h
    have hL : ∀ done a w, (fun (done' : Array Bool) a' w' => Region.seqB md ops g n done' = true /\ T a' w') done a w -> ∀ j ∈ Region.ready md ops done, n <= j := fun done a w hL j hj => seqB_ready hL.1 j hj
    by_cases hw : Region.wanted o (yielded ops a.tmps) = true
    · rw [if_pos hw] at h
      obtain ⟨v, hv, hK⟩ := h
      refine headH_first (v := v) ho' hsel hs hc hn h1 hL hQ t.len done a w inv (Region.free_spec ho' h3) h2 (.inl ⟨hw, ?_⟩) hS ?_
      · rintro w' ⟨x, rfl⟩; exact hv x
      · exact headH_tree hl hsel hs hc hn hQ t _ _ w (inv.set h2 h1) h4 hS hK
    · rw [if_neg hw] at h
      refine headH_first (v := undef) ho' hsel hs hc hn h1 hL hQ t.len done a w inv (Region.free_spec ho' h3) h2 (.inr ⟨by simpa using hw, rfl⟩) hS ?_
      exact headH_tree hl hsel hs hc hn hQ t _ _ w (inv.set h2 h1) h4 hS h
  | .act k t, done, a, w, inv, hB, hS, h => by
    simp only [treeB, Bool.and_eq_true, decide_eq_true_eq] at hB
    obtain ⟨⟨⟨h1, hkl⟩, h2⟩, h3⟩ := hB
    obtain ⟨o, ho'⟩ : ∃ o, ops[k]? = some o := ⟨_, Array.getElem?_eq_getElem hkl⟩
    have ho : l[k]? = some o := by rw [hl] at ho'; simpa using ho'
    replace h := h o ho
    rw [<- hl] at h
    refine ⟨by rw [h2]; simp, fun i hi => ?_⟩
    have hi0 := hi
    rw [h2] at hi
    have e : i = k := by simpa using hi
    subst e
    exact ⟨h1, wpOp_mono (fun a' w' h' => ⟨h'.1, headH_tree hl hsel hs hc hn hQ t _ a' w' (inv.set hi0 h1) h3 h'.1 h'.2⟩) (wpOp_of_list ho' h)⟩
  | .two i t j u, done, a, w, inv, hB, hS, h => by
    simp only [treeB, Bool.and_eq_true, decide_eq_true_eq] at hB
    obtain ⟨⟨⟨⟨⟨⟨⟨h1, h1'⟩, hil⟩, hjl⟩, hlen⟩, h2⟩, h3⟩, h4⟩ := hB
    obtain ⟨oi, hoi'⟩ : ∃ o, ops[i]? = some o := ⟨_, Array.getElem?_eq_getElem hil⟩
    obtain ⟨oj, hoj'⟩ : ∃ o, ops[j]? = some o := ⟨_, Array.getElem?_eq_getElem hjl⟩
    have hoi : l[i]? = some oi := by rw [hl] at hoi'; simpa using hoi'
    have hoj : l[j]? = some oj := by rw [hl] at hoj'; simpa using hoj'
    have ha := h.1 oi hoi
    have hb := h.2 oj hoj
    rw [<- hl] at ha hb
    refine ⟨by rw [h2]; simp, fun k hk => ?_⟩
    have hk0 := hk
    rw [h2] at hk
    simp only [List.mem_cons, List.not_mem_nil, or_false] at hk
    rcases hk with rfl | rfl
    · exact ⟨h1, wpOp_mono (fun a' w' h' => ⟨h'.1, headH_tree hl hsel hs hc hn hQ t _ a' w' (inv.set hk0 h1) h3 h'.1 h'.2⟩) (wpOp_of_list hoi' ha)⟩
    · refine ⟨h1', wpOp_mono (fun a' w' h' => ⟨h'.1, ?_⟩) (wpOp_of_list hoj' hb)⟩
      show headH _ _ _ _ _ _ _ t.len _ _ _
      rw [hlen]
      exact headH_tree hl hsel hs hc hn hQ u _ a' w' (inv.set hk0 h1') h4 h'.1 h'.2

def treeFormB (l : List Oper) (n : Nat) (t : Tree) : Bool :=
  Region.noSelect l.toArray && decide (n < l.length) && Region.sinkB .any l.toArray n && Region.chainB .any l.toArray n && decide (t.len = n) && treeB .any l.toArray n (l.length - n) t (Array.replicate l.length false)
theorem wpAny_tree {a : Act} {w : World} {l : List Oper} (n : Nat) (t : Tree) (hB : treeFormB l n t = true)
    (hQ : ∀ c a d v w, Q (.panic c) (Act.put a d v) w -> Q (.panic c) a w) (hS : ∃ x, w = Wf x)
    (h : wpTree P l Q Wf (wpList P l.toArray Q (l.drop n)) t a w) :
    wpAny P .any l.toArray Q l.toArray.size (Array.replicate l.toArray.size false) a w := by
  simp only [treeFormB, Bool.and_eq_true, decide_eq_true_eq] at hB
  obtain ⟨⟨⟨⟨⟨hsel, hn⟩, hs⟩, hc⟩, hlen⟩, hr⟩ := hB
  have inv0 : HeadInv .any l.toArray n (Array.replicate l.length false) :=
    ⟨by simp, fun j oj _ hl => (by rw [getD_replicate_false] at hl; cases hl), fun t _ ht => getD_in (by simpa using ht) (getD_replicate_false _ _)⟩
  have H := headH_tree (P := P) (Q := Q) (Wf := Wf) (g := l.length - n) (T := wpList P l.toArray Q (l.drop n)) rfl hsel hs hc (by simpa using hn) hQ t (Array.replicate l.length false) a w inv0 hr hS h
  have K := headH_sound (g := l.length - n) (fun done a' w' hL => by
    have := wpAny_of_seq (P := P) (md := .any) (Q' := Q) (l.drop n) n done a' w' (fun j => by simp [List.getElem?_drop]) (by simpa using hL.1) hL.2
    simpa using this) _ _ _ _ H
  rw [hlen, show n + (l.length - n) = l.length by omega] at K
  simpa using K
theorem wp_region_tree {id : Nat} {a : Act} {w : World} {l : List Oper} (n : Nat) (t : Tree) (hm : P.follows .mixedOrders = true) (hB : treeFormB l n t = true)
    (hQ : ∀ c a d v w, Q (.panic c) (Act.put a d v) w -> Q (.panic c) a w) (hS : ∃ x, w.drew = Wf x)
    (h : wpTree P l Q Wf (wpList P l.toArray Q (l.drop n)) t a w.drew) : (Code.region id l.toArray true).wp P Q a w :=
  wp_region_any hm (wpAny_tree n t hB hQ hS h)
end
end Go.Proofs.YtlbcmeebcfalpaaGreatDoor
