/- Joined: ERCk, EAll. -/
import Derived.Test.YtbdgmgddliploaaGreatDoorJ13
import Derived.Test.YtbdgmgddliploaaGreatDoorJ21
import Derived.Test.YtbdgmgddliploaaGreatDoorJ16
import Derived.Test.YtbdgmgddliploaaGreatDoorJ02
set_option linter.unusedVariables false
set_option linter.unusedSimpArgs false
set_option maxRecDepth 100000
set_option maxHeartbeats 16000000
namespace Go.Proofs.YtbdgmgddliploaaGreatDoor
open Go.RowKit

theorem rck_early (S : Nat -> Prop) (v : CV) (x : Col) (o : Op) (w : World) (h : RdC S w v x) (hm : Sml x) (hq : x.err ≠ 0 \/ (o.kind < 1 \/ 4 < o.kind) \/ ((o.other ≠ 0 /\ o.kind ≠ 3) \/ (o.text.size ≠ 0 /\ o.kind ≠ 4))) :
    Calls Tryz.prog 19 #[v.val, o.val] w fun e w' => e = .returned (.int .i64 (opErr x o)) /\ Below w.heap.size w w' := by
  have HQ : Hid ((x.err ≠ 0 /\ opErr x o = 1) \/ (x.err = 0 /\ (o.kind < 1 \/ 4 < o.kind) /\ opErr x o = 8) \/ (x.err = 0 /\ ¬ (o.kind < 1 \/ 4 < o.kind) /\ ((o.other ≠ 0 /\ o.kind ≠ 3) \/ (o.text.size ≠ 0 /\ o.kind ≠ 4)) /\ opErr x o = 1)) := by
    show _ \/ _ \/ _
    by_cases h1 : x.err = 0
    · by_cases h2 : o.kind < 1 \/ 4 < o.kind
      · exact .inr (.inl ⟨h1, h2, opErr_8 h1 h2⟩)
      · have h3 := (hq.resolve_left (by simp [h1])).resolve_left h2
        exact .inr (.inr ⟨h1, h2, h3, opErr_a h1 h2 h3⟩)
    · exact .inl ⟨h1, opErr_1 h1⟩
  have HC : Hid (∀ W, Below w.heap.size w W -> Calls Tryz.prog 50 #[v.val] W fun e w' => e = .returned (.int .i64 x.err) /\ Below W.heap.size W w') := fun W hb => check_ref S v x W (h.below hb) hm
  generalize opErr x o = E at *
  generalize x.err = XE at *
  clear h hm hq
  obtain ⟨sec, sa, sn, sc, ta, tn, tc, ca, cn, cc⟩ := v
  obtain ⟨ok, og, ot, oo, ox⟩ := o
  dsimp only at *
  change Calls _ _ #[.agg #[.string sec, .slice sa sn sc, .slice ta tn tc, .slice ca cn cc], .agg #[.int .i64 ok, .string og, .int .i64 ot, .int .i64 oo, .string ox]] _ _
  change Hid (∀ W, _ -> Calls _ _ #[.agg #[.string sec, .slice sa sn sc, .slice ta tn tc, .slice ca cn cc]] _ _) at HC
  obtain ⟨hb0, hC, hO⟩ := box2 w #[.string sec, .slice sa sn sc, .slice ta tn tc, .slice ca cn cc] #[.int .i64 ok, .string og, .int .i64 ot, .int .i64 oo, .string ox] 26 28
  have c0 := hC 0 _ rfl
  have c1 := hC 1 _ rfl
  have c2 := hC 2 _ rfl
  have c3 := hC 3 _ rfl
  have o0 := hO 0 _ rfl
  have o1 := hO 1 _ rfl
  have o2 := hO 2 _ rfl
  have o3 := hO 3 _ rfl
  have o4 := hO 4 _ rfl
  have HCC := hiq (HC.out _ hb0)
  clear hC hO
  go_enter Tryz.func19, Tryz.ntmps19
  go_wp2_with fail
  generalize (w.alloc (.cells #[.string sec, .slice sa sn sc, .slice ta tn tc, .slice ca cn cc] 26)).alloc (.cells #[.int .i64 ok, .string og, .int .i64 ot, .int .i64 oo, .string ox] 28) = W1 at *
  refine HCC.out.mono ?_
  rintro e W2 ⟨rfl, hb2⟩
  have hb3 := hb0.trans (hb2.mono hb0.size)
  replace c0 := clq hb2 c0; replace c1 := clq hb2 c1; replace c2 := clq hb2 c2; replace c3 := clq hb2 c3; replace o0 := clq hb2 o0; replace o1 := clq hb2 o1; replace o2 := clq hb2 o2; replace o3 := clq hb2 o3; replace o4 := clq hb2 o4
  clear HCC hb0 hb2
  rcases HQ.out with ⟨h1, hr⟩ | ⟨h1, h2, hr⟩ | ⟨h1, h2, h3, hr⟩
  · have t0 : ((XE : Int) != 0) = true := by simp [h1]
    have HR : Hid (E = 1) := hr
    clear HQ hr h1
    go_wp2
    go_ret
    exact ⟨ret_int HR.out.symm, hb3⟩
  · subst h1
    have HR : Hid (E = 8) := hr
    have t1 : ((ok : Int) != 1) = true := by simp; omega
    have t2 : ((ok : Int) != 2) = true := by simp; omega
    have t3 : ((ok : Int) != 3) = true := by simp; omega
    have t4 : ((ok : Int) != 4) = true := by simp; omega
    clear HQ hr h2
    go_wp2
    go_ret
    exact ⟨ret_int HR.out.symm, hb3⟩
  · subst h1
    have HR : Hid (E = 1) := hr
    have h4 : ok = 1 \/ ok = 2 \/ ok = 3 \/ ok = 4 := by omega
    clear HQ hr h2
    by_cases a1 : oo = 0
    · subst a1
      have hx : ox.toList.isEmpty = false := isEmpty_no (by rcases h3 with ⟨q, _⟩ | ⟨q, _⟩ <;> first | exact absurd rfl q | exact q)
      have h5 : ok ≠ 4 := by rcases h3 with ⟨q, _⟩ | ⟨_, q⟩ <;> first | exact absurd rfl q | exact q
      clear h3
      rcases h4 with rfl | rfl | rfl | rfl
      all_goals first | exact absurd rfl h5 | skip
      all_goals (go_wp2; go_ret; exact ⟨ret_int HR.out.symm, hb3⟩)
    · have t5 : ((oo : Int) != 0) = true := by simpa using a1
      rcases h4 with rfl | rfl | rfl | rfl
      · clear h3
        go_wp2
        go_ret
        exact ⟨ret_int HR.out.symm, hb3⟩
      · clear h3
        go_wp2
        go_ret
        exact ⟨ret_int HR.out.symm, hb3⟩
      · have hx : ox.toList.isEmpty = false := isEmpty_no (by rcases h3 with ⟨_, q⟩ | ⟨q, _⟩ <;> first | exact absurd rfl q | exact q)
        clear h3
        go_wp2
        go_ret
        exact ⟨ret_int HR.out.symm, hb3⟩
      · clear h3
        go_wp2
        go_ret
        exact ⟨ret_int HR.out.symm, hb3⟩
end Go.Proofs.YtbdgmgddliploaaGreatDoor
namespace Go.Proofs.YtbdgmgddliploaaGreatDoor
open Go.RowKit Go.Shelf
attribute [local go_sem] Oper.semAt_some

theorem abides_alloc {β : Type} {B : Nat} {J : β -> World -> Prop} (h : AbidesFrom B J) {s : β} {W : World} (hJ : J s W) (o : Obj) : J s (W.alloc o) :=
  h s W _ none hJ (World.grownBy_alloc W o none) (fun r e => by cases e)
theorem abides_below {β : Type} {B : Nat} {J : β -> World -> Prop} (h : AbidesFrom B J) {s : β} {W W' : World} (hJ : J s W) (hb : Below W.heap.size W W') : J s W' :=
  h s W _ none hJ ⟨hb.os, hb.tape, hb.output, hb.size, fun k hk _ => hb.block k hk⟩ (fun r e => by cases e)
theorem var_keepS {P : Program} {S : Nat -> Prop} {w w' : World} (hk : KeepS S w w') {name : String} (hS : ∀ g, P.globalNamed name = some g -> S g) {x : Array Value} (h : w.var? P name = some x) : w'.var? P name = some x := by
  unfold World.var? at h ⊢
  cases hg : P.globalNamed name with
  | none => rw [hg] at h; cases h
  | some g =>
    rw [hg] at h
    simp only [Option.bind_some] at h ⊢
    cases ho : w.heap[g]? with
    | none => rw [ho] at h; cases h
    | some o =>
      rw [ho] at h
      cases o with
      | cells cs t fr => rw [hk.2 g cs t fr (hS g hg) ho]; exact h
      | _ => cases h
theorem var_lt {P : Program} {w : World} {name : String} {x : Array Value} (h : w.var? P name = some x) : ∀ g, P.globalNamed name = some g -> g < w.heap.size := by
  intro g hg
  unfold World.var? at h
  rw [hg] at h
  simp only [Option.bind_some] at h
  cases ho : w.heap[g]? with
  | none => rw [ho] at h; cases h
  | some o => exact (Array.getElem?_eq_some_iff.1 ho).1
/-- What is kept of the library's variables. -/
theorem env_keeps {w0 : World} (h0 : Env w0) {S : Nat -> Prop} (hS : ∀ b, b < w0.heap.size -> S b) : ∀ A B, KeepS S A B -> Env A -> Env B := by
  rintro A B hk ⟨h1, ⟨t, p, h2⟩, ⟨t', p', h3⟩⟩
  obtain ⟨k1, ⟨_, _, k2⟩, ⟨_, _, k3⟩⟩ := h0
  exact ⟨var_keepS hk (fun g hg => hS g (var_lt k1 g hg)) h1, ⟨t, p, var_keepS hk (fun g hg => hS g (var_lt k2 g hg)) h2⟩, ⟨t', p', var_keepS hk (fun g hg => hS g (var_lt k3 g hg)) h3⟩⟩
theorem lit_at {W : World} {b k : Nat} {z : Op} (h : W.heap[b]? = some (.cells #[.int .i64 1, .string ⟨#[]⟩, .int .i64 0, .int .i64 0, .string ⟨#[]⟩, .int .i64 2, .string ⟨#[]⟩, .int .i64 0, .int .i64 0, .string ⟨#[]⟩, .int .i64 3, .string ⟨#[]⟩, .int .i64 0, .int .i64 (-1), .string ⟨#[]⟩, .int .i64 3, .string ⟨#[]⟩, .int .i64 0, .int .i64 1, .string ⟨#[]⟩] 28 (0, 0))) (hz : fourZ[k]? = some z) : OpAt W b (k * 5) z := by
  have hk : k < 4 := (List.getElem?_eq_some_iff.1 hz).1
  match k, hk with
  | 0, _ => cases hz; refine ⟨?_, ?_, ?_, ?_, ?_⟩ <;> (rw [Lib.cell_of_heap h]; rfl)
  | 1, _ => cases hz; refine ⟨?_, ?_, ?_, ?_, ?_⟩ <;> (rw [Lib.cell_of_heap h]; rfl)
  | 2, _ => cases hz; refine ⟨?_, ?_, ?_, ?_, ?_⟩ <;> (rw [Lib.cell_of_heap h]; rfl)
  | 3, _ => cases hz; refine ⟨?_, ?_, ?_, ?_, ?_⟩ <;> (rw [Lib.cell_of_heap h]; rfl)
/-- What a loop's body may have turned: its own blocks, as they are known in each world. -/
def KpO (Ow : World -> Nat -> Prop) (A B : World) : Prop :=
  A.heap.size <= B.heap.size /\ (∀ b cs t fr, ¬ Ow A b -> A.heap[b]? = some (.cells cs t fr) -> B.heap[b]? = some (.cells cs t fr)) /\ (∀ b, Ow B b -> Ow A b \/ A.heap.size <= b) /\ ((∀ b, Ow A b -> b < A.heap.size) -> ∀ b, Ow B b -> b < B.heap.size)
namespace KpO
variable {Ow : World -> Nat -> Prop} {A B C : World}
theorem refl (Ow : World -> Nat -> Prop) (A : World) : KpO Ow A A := ⟨Nat.le_refl _, fun _ _ _ _ _ h => h, fun _ h => .inl h, fun h => h⟩
theorem trans (h : KpO Ow A B) (k : KpO Ow B C) : KpO Ow A C := by
  refine ⟨Nat.le_trans h.1 k.1, fun b cs t fr hb ha => ?_, fun b hb => ?_, fun hn => k.2.2.2 (h.2.2.2 hn)⟩
  · refine k.2.1 b cs t fr (fun hB => ?_) (h.2.1 b cs t fr hb ha)
    rcases h.2.2.1 b hB with q | q
    · exact hb q
    · have := (Array.getElem?_eq_some_iff.1 ha).1; omega
  · rcases k.2.2.1 b hb with q | q
    · exact h.2.2.1 b q
    · exact .inr (Nat.le_trans h.1 q)
theorem keepS (h : KpO Ow A B) : KeepS (fun b => ¬ Ow A b) A B := ⟨h.1, h.2.1⟩
theorem below (hst : ∀ b, Ow B b -> Ow A b) (hb : Below A.heap.size A B) : KpO Ow A B :=
  ⟨hb.size, fun b cs t fr _ ha => by rw [hb.block b (Array.getElem?_eq_some_iff.1 ha).1]; exact ha, fun b h => .inl (hst b h), fun hn b h => Nat.lt_of_lt_of_le (hn b (hst b h)) hb.size⟩
end KpO
theorem eall_stops (m : Nat) (_hm : 1 <= m) (Ow : World -> Nat -> Prop) (bx : Nat) (v : CV) (x : Col) (w : World) (hx : w.heap[bx]? = some (.cells v.arr 26 (0, 0))) (hr : RdC (fun b => ¬ Ow w b) w v x) (hnd : ∀ b, Ow w b -> b < w.heap.size) (hst : ∀ A B, w.heap.size <= A.heap.size -> Below A.heap.size A B -> ∀ b, Ow B b ↔ Ow A b) (hbx : ¬ Ow w bx)
    (hKE : ∀ B, KeepS (fun b => ¬ Ow w b) w B -> Env B) (hsm : Sml x) (hv : x.err = 0) :
    SeqStopsK Fence.wide m Tryz.prog 93 #[.pointer (some ⟨bx, 0, none⟩)] (fun o : AOp x => #[o.1.val]) (KpO Ow) (fun ys => ys = allL x) (fun pre => pre <+: allL x) (allL x).length w := fun lo J Jx W0 hW hJ _ hY h0 => by
  have hh := (err_iff.1 hv).1
  have hW1 : ∀ b, Ow W0 b ↔ Ow w b := hst w W0 (Nat.le_refl _) hW
  have hkw : KpO Ow w W0 := .below (fun b h => (hW1 b).1 h) hW
  -- what is known of every world that keeps what is not the body's
  have HK : Hid (∀ W, KpO Ow W0 W -> W.heap[bx]? = some (.cells v.arr 26 (0, 0)) /\ RdC (fun b => ¬ Ow w b) W v x /\ Env W) := fun W hk =>
    ⟨(hkw.trans hk).keepS.2 _ _ _ _ hbx hx, hr.keep (hkw.trans hk).keepS, hKE _ (hkw.trans hk).keepS⟩
  have HST : Hid (∀ A B, W0.heap.size <= A.heap.size -> Below A.heap.size A B -> KpO Ow A B) := fun A B h1 h2 => .below (fun b h => (hst A B (Nat.le_trans hW.size h1) h2 b).1 h) h2
  have HSO : Hid (∀ A B, W0.heap.size <= A.heap.size -> Below A.heap.size A B -> ∀ b, Ow B b -> Ow A b) := fun A B h1 h2 b h => (hst A B (Nat.le_trans hW.size h1) h2 b).1 h
  have HND : Hid (∀ b, Ow W0 b -> b < W0.heap.size) := fun b h => Nat.lt_of_lt_of_le (hnd b ((hW1 b).1 h)) hW.size
  have HCK : Hid (∀ W, KpO Ow W0 W -> ∀ o : Op, o.ok -> o.text.size <= 1000000 -> CallsIn Fence.wide (m - 1) Tryz.prog 18 #[v.val, o.val] W fun e w' => e = .returned (.int .i64 (opErr x o)) /\ Below W.heap.size W w') := fun W hk o ho ht =>
    callsIn_wide.2 (echeck_any _ v x o W (HK.out W hk).2.1 hsm (HK.out W hk).2.2 ho ht)
  have HY := hiq hY
  have HJ := hiq hJ
  have HJ0 : Hid (J ((allL x).take (preI x 0).length) W0) := by
    show J _ _
    have : (preI x 0).length = 0 := rfl
    rw [this, List.take_zero]; exact h0
  have hsn : Hid (v.sn = x.sigla.length /\ x.toks.length = x.sigla.length) := ⟨hr.2.2.1.len, hh.len⟩
  have htl : Hid (∀ i, (x.tks i).length <= 1024) := fun i => by
    by_cases hi : i < x.toks.length
    · exact (hh.toks _ (tks_mem hi)).1
    · unfold Col.tks; rw [List.getElem?_eq_none (by omega)]; simp
  clear hY hJ hr hKE hsm hv hh hx hW1 hkw h0 hnd hst hbx hW
  obtain ⟨W, rfl⟩ : ∃ W, W = W0 := ⟨_, rfl⟩
  obtain ⟨sec, sa, sn, sc, ta, tn, tc, ca, cn, cc⟩ := v
  change Hid (∀ W' : World, _ -> W'.heap[bx]? = some (.cells #[.string sec, .slice sa sn sc, .slice ta tn tc, .slice ca cn cc] 26 (0, 0)) /\ _) at HK
  change Hid (∀ W' : World, _ -> ∀ o : Op, _ -> _ -> CallsIn _ _ _ _ #[.agg #[.string sec, .slice sa sn sc, .slice ta tn tc, .slice ca cn cc], o.val] W' _) at HCK
  change Hid (sn = x.sigla.length /\ _) at hsn
  obtain ⟨g1, g2, -⟩ := HK.out _ (KpO.refl _ _)
  obtain ⟨b0, b1, b2, b3, -⟩ := box_cells4 g1
  have hsb := g2.2.2.1.bound
  have htb := g2.2.2.2.1.bound
  dsimp only at hsb htb
  clear g1 g2
  refine callsIn_of_wp Tryz.func93 rfl trivial ?_ rfl
  simp only [Tryz.ntmps93, List.size_toArray, List.length_cons, List.length_nil, Nat.reduceAdd, Nat.reduceSub, Array.replicate_succ, Array.replicate_zero, List.push_toArray, List.append_toArray, List.nil_append, List.cons_append]
  gi_wp2
  gi_loopw [11] (fun i wr => ∃ k : Nat, i = .int .i64 k /\ k <= sn /\ KpO Ow W wr /\ Hid (J ((allL x).take (preI x k).length) wr)) (fun i _ => sn - (intOf i).toNat)
  case atStart => exact ⟨0, rfl, Nat.zero_le _, KpO.refl _ _, HJ0.out⟩
  case round =>
    clear HJ0 b0 b1 b2 b3
    obtain ⟨i, rfl, hi, hk, hJi⟩ := hrel
    by_cases hil : i < sn
    · obtain ⟨g1, g2, -⟩ := HK.out _ hk
      obtain ⟨b0, b1, b2, b3, -⟩ := box_cells4 g1
      obtain ⟨sg, bs, os, hsg, hsm, esa, -, -, hsz, ds⟩ := g2.2.2.1.str hil
      obtain ⟨tk, bt, ot, at', nt, ct, htk, -, eta, -, -, hrt, dt⟩ := g2.2.2.2.1.row (j := i) (by have := g2.2.2.2.1.len; have := hsn.out; dsimp only at *; omega)
      dsimp only at esa eta ds dt
      subst esa
      subst eta
      have hsgl : sgl x i = sg := by unfold sgl; rw [hsg]; rfl
      have htkl : x.tks i = tk := by unfold Col.tks; rw [htk]; rfl
      have hntl : nt = (x.tks i).length := by rw [htkl]; exact hrt.len
      have hnt : nt <= 1024 := by rw [hntl]; exact htl.out i
      have hitn : i < tn := by have := g2.2.2.2.1.len; have := hsn.out; dsimp only at *; omega
      have HS := hiq (And.intro hsgl (And.intro hntl hsz))
      have hJt : Hid (J ((allL x).take (preT x i 0).length) wr) := by
        show J _ _
        have : preT x i 0 = preI x i := by simp [preT]
        rw [this]; exact hJi.out
      clear g1 g2 hsg hsm htk hrt hsgl htkl hntl hJi
      gi_wp2
      obtain ⟨wo, rfl⟩ : ∃ wo : World, wo = wr := ⟨_, rfl⟩
      gi_loopw [22] (fun j wr => ∃ t : Nat, j = .int .i64 t /\ t <= nt /\ KpO Ow W wr /\ Hid (J ((allL x).take (preT x i t).length) wr)) (fun j _ => nt - (intOf j).toNat)
      case atStart => exact ⟨0, rfl, Nat.zero_le _, hk, hJt.out⟩
      case round =>
        clear hJt hk b0 b1 b2 b3 ds dt
        obtain ⟨t, rfl, ht, hk, hJt⟩ := hrel
        by_cases htl2 : t < nt
        · have hbl : Below wr.heap.size wr (wr.alloc (.cells #[.int .i64 1, .string ⟨#[]⟩, .int .i64 0, .int .i64 0, .string ⟨#[]⟩, .int .i64 2, .string ⟨#[]⟩, .int .i64 0, .int .i64 0, .string ⟨#[]⟩, .int .i64 3, .string ⟨#[]⟩, .int .i64 0, .int .i64 (-1), .string ⟨#[]⟩, .int .i64 3, .string ⟨#[]⟩, .int .i64 0, .int .i64 1, .string ⟨#[]⟩] 28)) := (Below.refl _ _).alloc (Nat.le_refl _) _
          have glit := World.alloc_heap_new wr (.cells #[.int .i64 1, .string ⟨#[]⟩, .int .i64 0, .int .i64 0, .string ⟨#[]⟩, .int .i64 2, .string ⟨#[]⟩, .int .i64 0, .int .i64 0, .string ⟨#[]⟩, .int .i64 3, .string ⟨#[]⟩, .int .i64 0, .int .i64 (-1), .string ⟨#[]⟩, .int .i64 3, .string ⟨#[]⟩, .int .i64 0, .int .i64 1, .string ⟨#[]⟩] 28)
          have hkl : KpO Ow W (wr.alloc (.cells #[.int .i64 1, .string ⟨#[]⟩, .int .i64 0, .int .i64 0, .string ⟨#[]⟩, .int .i64 2, .string ⟨#[]⟩, .int .i64 0, .int .i64 0, .string ⟨#[]⟩, .int .i64 3, .string ⟨#[]⟩, .int .i64 0, .int .i64 (-1), .string ⟨#[]⟩, .int .i64 3, .string ⟨#[]⟩, .int .i64 0, .int .i64 1, .string ⟨#[]⟩] 28)) := hk.trans (HST.out _ _ hk.1 hbl)
          have hJk : Hid (J ((allL x).take (preK x i t 0).length) (wr.alloc (.cells #[.int .i64 1, .string ⟨#[]⟩, .int .i64 0, .int .i64 0, .string ⟨#[]⟩, .int .i64 2, .string ⟨#[]⟩, .int .i64 0, .int .i64 0, .string ⟨#[]⟩, .int .i64 3, .string ⟨#[]⟩, .int .i64 0, .int .i64 (-1), .string ⟨#[]⟩, .int .i64 3, .string ⟨#[]⟩, .int .i64 0, .int .i64 1, .string ⟨#[]⟩] 28))) := by
            show J _ _
            rw [preK_zero]; exact abides_alloc HJ.out hJt.out _
          have hnG : ¬ Ow (wr.alloc (.cells #[.int .i64 1, .string ⟨#[]⟩, .int .i64 0, .int .i64 0, .string ⟨#[]⟩, .int .i64 2, .string ⟨#[]⟩, .int .i64 0, .int .i64 0, .string ⟨#[]⟩, .int .i64 3, .string ⟨#[]⟩, .int .i64 0, .int .i64 (-1), .string ⟨#[]⟩, .int .i64 3, .string ⟨#[]⟩, .int .i64 0, .int .i64 1, .string ⟨#[]⟩] 28)) wr.heap.size := fun h => by have := hk.2.2.2 HND.out _ (HSO.out _ _ hk.1 hbl _ h); omega
          have hwl : W.heap.size <= wr.heap.size := hk.1
          clear hbl hJt hk
          gi_wp2
          generalize hwl2 : wr.alloc (.cells #[.int .i64 1, .string ⟨#[]⟩, .int .i64 0, .int .i64 0, .string ⟨#[]⟩, .int .i64 2, .string ⟨#[]⟩, .int .i64 0, .int .i64 0, .string ⟨#[]⟩, .int .i64 3, .string ⟨#[]⟩, .int .i64 0, .int .i64 (-1), .string ⟨#[]⟩, .int .i64 3, .string ⟨#[]⟩, .int .i64 0, .int .i64 1, .string ⟨#[]⟩] 28) = wi at *
          clear hwl2
          obtain ⟨wt, rfl⟩ : ∃ wt : World, wt = wr := ⟨_, rfl⟩
          gi_loopw [31] (fun j wr => ∃ k : Nat, j = .int .i64 k /\ k <= 4 /\ KpO Ow wi wr /\ Hid (J ((allL x).take (preK x i t k).length) wr)) (fun j _ => 4 - (intOf j).toNat)
          case atStart => exact ⟨0, rfl, by omega, KpO.refl _ _, hJk.out⟩
          case round =>
            clear hJk
            obtain ⟨k, rfl, hk4, hkk, hJk⟩ := hrel
            by_cases hkl4 : k < 4
            · obtain ⟨z, hz, zs, zt, zx, hfo⟩ := fourZ_get hkl4 sg t
              obtain ⟨y0, y1, y2, y3, y4⟩ := lit_at (hkk.2.1 _ _ _ _ hnG glit) hz
              rw [zs] at y1
              rw [zt] at y2
              rw [zx] at y4 hfo
              rw [<- HS.out.1] at hfo
              have hnx := preK_next hfo
              have hpk := preK_pre (k := k + 1) (x := x) (i := i) (t := t) (by have := hsn.out.1; omega) (by rw [<- HS.out.2.1]; exact htl2)
              rw [HS.out.1] at hfo hnx
              have hzk : I64 z.kind /\ I64 z.other := by
                have := List.mem_of_getElem? hz
                simp only [fourZ, List.mem_cons, List.not_mem_nil, or_false] at this
                rcases this with rfl | rfl | rfl | rfl <;> exact ⟨⟨by decide, by decide⟩, by decide, by decide⟩
              obtain ⟨zk, hzk1⟩ : ∃ zk, zk = z.kind := ⟨_, rfl⟩
              obtain ⟨zo, hzo1⟩ : ∃ zo, zo = z.other := ⟨_, rfl⟩
              rw [<- hzk1] at y0 hnx hzk
              rw [<- hzo1] at y3 hnx hzk
              have hbb : Below wr.heap.size wr (wr.alloc (.cells #[.int .i64 zk, .string sg, .int .i64 (t : Int), .int .i64 zo, .string ⟨#[]⟩] 28)) := (Below.refl _ _).alloc (Nat.le_refl _) _
              have gbox := World.alloc_heap_new wr (.cells #[.int .i64 zk, .string sg, .int .i64 (t : Int), .int .i64 zo, .string ⟨#[]⟩] 28)
              have hkb : KpO Ow W (wr.alloc (.cells #[.int .i64 zk, .string sg, .int .i64 (t : Int), .int .i64 zo, .string ⟨#[]⟩] 28)) := (hkl.trans hkk).trans (HST.out _ _ (hkl.trans hkk).1 hbb)
              have hJb : Hid (J ((allL x).take (preK x i t k).length) (wr.alloc (.cells #[.int .i64 zk, .string sg, .int .i64 (t : Int), .int .i64 zo, .string ⟨#[]⟩] 28))) := abides_alloc HJ.out hJk.out _
              have HCKo := hiq (HCK.out _ hkb ⟨zk, sg, (t : Int), zo, ⟨#[]⟩⟩ ⟨hzk.1, HS.out.2.2, (show I64 (t : Int) from ⟨by omega, by omega⟩), hzk.2, by show 0 <= _; omega⟩ (by show 0 <= _; omega))
              have HNX := hiq hnx
              have HPK := hiq hpk
              obtain ⟨g1, -, -⟩ := HK.out _ hkb
              obtain ⟨b0, b1, b2, b3, -⟩ := box_cells4 g1
              have hkw : KpO Ow wi (wr.alloc (.cells #[.int .i64 zk, .string sg, .int .i64 (t : Int), .int .i64 zo, .string ⟨#[]⟩] 28)) := hkk.trans (HST.out _ _ (hkl.trans hkk).1 hbb)
              clear hJk hz zs zt zx hfo hnx hpk hzk hzk1 hzo1 g1 hbb
              gi_wp2_with fail
              generalize wr.alloc (.cells #[.int .i64 zk, .string sg, .int .i64 (t : Int), .int .i64 zo, .string ⟨#[]⟩] 28) = wb at *
              refine ⟨trivial, ?_⟩
              refine HCKo.out.mono ?_
              rintro e w3 ⟨rfl, hb3⟩
              have gb3 := (hb3.block _ (Array.getElem?_eq_some_iff.1 gbox).1).trans gbox
              have hJ3 : Hid (J ((allL x).take (preK x i t k).length) w3) := abides_below HJ.out hJb.out hb3
              have hk3 : KpO Ow wi w3 := hkw.trans (HST.out _ _ hkb.1 hb3)
              clear hJb hkw y0 y1 y2 y3 y4 b0 b1 b2 b3 hkb HCKo hb3 gbox
              by_cases hop : opErr x ⟨zk, sg, (t : Int), zo, ⟨#[]⟩⟩ = 0
              · rw [hop]
                have hnx : preK x i t (k + 1) = preK x i t k ++ [⟨zk, sg, (t : Int), zo, ⟨#[]⟩⟩] := by rw [HNX.out, if_pos hop]
                have hpre := HPK.out
                rw [hnx] at hpre
                obtain ⟨y, hy1, hy2, hy3⟩ := allL_get hpre
                obtain ⟨fn, tmps, assign, body, hyy, hR⟩ := HY.out _ y w3 hJ3.out (by rw [List.length_take]; omega)
                have hnext : Hid ((allL x).take (preK x i t k).length ++ [y] = (allL x).take (preK x i t (k + 1)).length) := by
                  show _ = _
                  rw [hnx, List.length_append, List.length_singleton, List.take_add_one, hy2]; rfl
                have HRR := hiq hR
                rw [hy1] at hyy
                dsimp only [Op.val] at hyy
                obtain ⟨e0, e1, e2, e3, e4⟩ := box_cells5 gb3
                clear hR hnx hpre hy1 hy2 hy3 hop HNX HPK gb3 hJ3
                gi_wp2_with fail
                refine HRR.out.mono ?_
                rintro e W4 (⟨rfl, hJ4, hk4'⟩ | ⟨rfl, hJx4⟩)
                · have hJ5 : Hid (J ((allL x).take (preK x i t (k + 1)).length) W4) := by show J _ _; rw [<- hnext.out]; exact hJ4
                  have hk5 := hk3.trans hk4'
                  clear hJ4 hk4' e0 e1 e2 e3 e4
                  gi_wp2
                  go_roundw
                  case rel => exact ⟨k + 1, by go_num, by omega, hk5, hJ5.out⟩
                  case measure => simp [intOf]; omega
                · have hJ5 : Hid (Jx ((allL x).take (preK x i t (k + 1)).length) W4) := by show Jx _ _; rw [<- hnext.out]; exact hJx4
                  clear hJx4 e0 e1 e2 e3 e4
                  gi_wp2
                  refine bodyPost_ret (results_none rfl _ _ _) rfl ?_
                  exact ⟨⟨_, rfl⟩, .inr ⟨_, List.take_prefix _ _, hJ5.out⟩⟩
              · have t0 : ((opErr x ⟨zk, sg, (t : Int), zo, ⟨#[]⟩⟩ : Int) == 0) = false := by simpa using hop
                have hJ5 : Hid (J ((allL x).take (preK x i t (k + 1)).length) w3) := by show J _ _; rw [HNX.out, if_neg hop]; exact hJ3.out
                obtain ⟨e0, e1, e2, e3, e4⟩ := box_cells5 gb3
                generalize opErr x ⟨zk, sg, (t : Int), zo, ⟨#[]⟩⟩ = E at *
                clear hop HNX HPK gb3 hJ3
                gi_wp2
                refine ⟨(fun f h => by cases h), ?_⟩
                gi_wp2
                go_roundw
                case rel => exact ⟨k + 1, by go_num, by omega, hk3, hJ5.out⟩
                case measure => simp [intOf]; omega
            · obtain rfl : k = 4 := by omega
              have hJ5 : Hid (J ((allL x).take (preT x i (t + 1)).length) wr) := by show J _ _; rw [<- preK_end]; exact hJk.out
              have hk5 := hkl.trans hkk
              clear hJk
              gi_wp2
              go_roundw
              case rel => exact ⟨t + 1, by go_num, by omega, hk5, hJ5.out⟩
              case measure => simp [intOf]; omega
        · obtain rfl : nt = t := by omega
          have hJ5 : Hid (J ((allL x).take (preI x (i + 1)).length) wr) := by show J _ _; rw [<- preT_end, <- HS.out.2.1]; exact hJt.out
          clear hJt
          gi_wp2
          go_roundw
          case rel => exact ⟨i + 1, by go_num, by omega, hk, hJ5.out⟩
          case measure => simp [intOf]; omega
    · obtain rfl : sn = i := by omega
      have hJ5 : Hid (J (allL x) wr) := by
        have e : (allL x).take (preI x sn).length = allL x := by
          rw [hsn.out.1, preI_all, <- allL_len, List.take_length]
        show J _ _; rw [<- e]; exact hJi.out
      clear hJi
      gi_wp2
      go_end0
      exact ⟨⟨_, rfl⟩, .inl ⟨_, rfl, hJ5.out⟩⟩
end Go.Proofs.YtbdgmgddliploaaGreatDoor
