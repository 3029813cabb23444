/- hands.walk: the iterator over all nodes, for bodies with blocks of their own. -/
import Derived.Test.YtbjanlmnmeegnaaDoorTWl
import Derived.Test.YtbjanlmnmeegnaaDoorEPut
import Derived.RangeFuncNested
import Derived.RangeFuncBound
import Derived.RangeFuncCalls
import Derived.RangeFuncLeaves
import Derived.Shelf.Abstract
import Derived.OwnWalkIn
import Derived.TacticsInMore
import Derived.LoopNIn
import Derived.LoopIn
set_option linter.unusedVariables false
set_option linter.unusedSimpArgs false
namespace Go.Proofs.YtbjanlmnmeegnaaDoor
open Go.RowKit Go.Shelf
attribute [local go_sem] Oper.semAt_some

/-- What a loop's body may have turned: its own blocks, as they are known in each world. -/
def KpO (Ow : World → Nat → Prop) (A B : World) : Prop :=
  A.heap.size ≤ B.heap.size ∧ (∀ b cs t fr, ¬ Ow A b → A.heap[b]? = some (.cells cs t fr) → B.heap[b]? = some (.cells cs t fr)) ∧ (∀ b, Ow B b → Ow A b ∨ A.heap.size ≤ b) ∧ ((∀ b, Ow A b → b < A.heap.size) → ∀ b, Ow B b → b < B.heap.size)
namespace KpO
variable {Ow : World → Nat → Prop} {A B C : World}
theorem refl (Ow : World → Nat → Prop) (A : World) : KpO Ow A A := ⟨Nat.le_refl _, fun _ _ _ _ _ h => h, fun _ h => .inl h, fun h => h⟩
theorem trans (h : KpO Ow A B) (k : KpO Ow B C) : KpO Ow A C := by
  refine ⟨Nat.le_trans h.1 k.1, fun b cs t fr hb ha => ?_, fun b hb => ?_, fun hn => k.2.2.2 (h.2.2.2 hn)⟩
  · refine k.2.1 b cs t fr (fun hB => ?_) (h.2.1 b cs t fr hb ha)
    rcases h.2.2.1 b hB with q | q
    · exact hb q
    · have := (Array.getElem?_eq_some_iff.1 ha).1; omega
  · rcases k.2.2.1 b hb with q | q
    · exact h.2.2.1 b q
    · exact .inr (Nat.le_trans h.1 q)
theorem keepS (h : KpO Ow A B) : KeepS (fun b => ¬ Ow A b) A B := ⟨h.1, h.2.1⟩
theorem below (hst : ∀ b, Ow B b → Ow A b) (hb : Below A.heap.size A B) : KpO Ow A B :=
  ⟨hb.size, fun b cs t fr _ ha => by rw [hb.block b (Array.getElem?_eq_some_iff.1 ha).1]; exact ha, fun b h => .inl (hst b h), fun hn b h => Nat.lt_of_lt_of_le (hn b (hst b h)) hb.size⟩
theorem up (h : KpO Ow A B) {b : Nat} (h1 : ¬ Ow A b) (h2 : b < A.heap.size) : ¬ Ow B b := fun h3 => by
  rcases h.2.2.1 b h3 with q | q
  · exact h1 q
  · omega
end KpO
theorem Vals.kp {Ow : World → Nat → Prop} {A B : World} {a : Option Addr} {n c : Nat} {l : List Vl} (h : Vals (fun b => ¬ Ow A b) A a n c l) (k : KpO Ow A B) : Vals (fun b => ¬ Ow B b) B a n c l :=
  ((h.mono (S' := fun b => ¬ Ow A b ∧ b < A.heap.size) (fun b p q => ⟨p, q⟩)).keep (k.keepS.mono (fun b h => h.1))).mono (fun b h _ => k.up h.1 h.2)
/-- What the iterator is told. -/
structure YlO (L : List Vl) (Ow : World → Nat → Prop) (l B0 : Nat) (J Jx : List (ElW L) → World → Prop) : Prop where
  abj : AbidesFrom B0 J
  abx : AbidesFrom B0 Jx
  st : ∀ A B, B0 ≤ A.heap.size → Below A.heap.size A B → ∀ b, Ow B b ↔ Ow A b
  yield_ : ∀ (k : Nat) (pre : List (ElW L)) (x : ElW L) (W1 : World), J pre W1 → pre.length < (elsW L).length → YieldAt Fence.wide k Tryd.prog l (wkEnc L x) W1 fun e W' =>
    (e = .returned (.bool true) ∧ J (pre ++ [x]) W' ∧ KpO Ow W1 W') ∨ (e = .returned (.bool false) ∧ Jx (pre ++ [x]) W')
/-- How a walk ends. -/
def EndO (L : List Vl) (Ow : World → Nat → Prop) (J Jx : List (ElW L) → World → Prop) (post : List Vl) (W : World) (e : Ending) (W' : World) : Prop :=
  (e = .returned (.bool true) ∧ (∃ N', L.drop N' = post ∧ J ((elsW L).take N') W') ∧ KpO Ow W W') ∨ (e = .returned (.bool false) ∧ ∃ n', Jx ((elsW L).take n') W')
def WalkO (L : List Vl) (Ow : World → Nat → Prop) (l0 B0 : Nat) (J Jx : List (ElW L) → World → Prop) (by_ bw f : Nat) : Prop :=
  ∀ (vs : List Vl) (a : Option Addr) (n c N m : Nat) (post : List Vl) (W : World), cntL (vs.map Vl.er) ≤ f → L.drop N = visL vs ++ post →
    Vals (fun b => ¬ Ow W b) W a n c vs → (∀ b, Ow W b → b < W.heap.size) → ¬ Ow W by_ → ¬ Ow W bw → W.cell? ⟨by_, 0, none⟩ = some (.func (.yield l0) #[] #[]) → W.cell? ⟨bw, 0, none⟩ = some (.func (.func 50) #[] #[.pointer (some ⟨by_, 0, none⟩), .pointer (some ⟨bw, 0, none⟩)]) → B0 ≤ W.heap.size → J ((elsW L).take N) W →
    CallsIn Fence.wide m Tryd.prog 50 #[.slice a n c, .pointer (some ⟨by_, 0, none⟩), .pointer (some ⟨bw, 0, none⟩)] W (EndO L Ow J Jx post W)
set_option maxRecDepth 100000 in
set_option maxHeartbeats 4000000 in
theorem walkO_step {L : List Vl} {Ow : World → Nat → Prop} {l0 B0 : Nat} {J Jx : List (ElW L) → World → Prop} (hY : YlO L Ow l0 B0 J Jx) (by_ bw : Nat) (f : Nat) (IH : ∀ f', f = f' + 1 → WalkO L Ow l0 B0 J Jx by_ bw f') : WalkO L Ow l0 B0 J Jx by_ bw f := by
    intro vs a n c N m post w h17 hdr hv hnd hGy hGw hcy hcw hB0 hJ
    have HY := Lib.hid hY
    have HIH := Lib.hid IH
    clear IH
    have HGY := Lib.hid hGy
    have HGW := Lib.hid hGw
    have HND := Lib.hid hnd
    clear hnd
    have HV := Lib.hid hv
    have hnb := hv.2.2.1
    have H17 := Lib.hid h17
    have HCY := Lib.hid hcy
    have HCW := Lib.hid hcw
    have HJ0 := Lib.hid hJ
    have HDR : Hid (L.drop N = visL (vs.drop 0) ++ post) := hdr
    clear hY hGy hGw hv h17 hcy hcw hJ hdr
    refine callsIn_of_wp Tryd.func50 rfl trivial ?_ rfl
    simp only [Tryd.ntmps50, List.size_toArray, List.length_cons, List.length_nil, Nat.reduceAdd, Nat.reduceSub, Array.replicate_succ, Array.replicate_zero, List.push_toArray, List.append_toArray, List.nil_append, List.cons_append]
    gi_wp2
    gi_loopw [9] (fun p wr => ∃ (j N : Nat), p = .int .i64 (j : Int) ∧ j ≤ n ∧ Hid (L.drop N = visL (vs.drop j) ++ post) ∧ Hid (J ((elsW L).take N) wr) ∧ Hid (KpO Ow w wr)) (fun p _ => n - (intOf p).toNat)
    case atStart => exact ⟨0, N, rfl, Nat.zero_le _, HDR.out, HJ0.out, KpO.refl _ _⟩
    case round =>
      clear HDR HJ0
      obtain ⟨j, N, rfl, hj, hdr, hJ, hK⟩ := hrel
      by_cases hjl : j < n
      · obtain ⟨v, bb, off, hu, -, ea, hSb, hbl, hat, hrv⟩ := (HV.out.kp hK.out).get hjl
        subst ea
        have hsp : vs.drop j = v :: vs.drop (j + 1) := by
          rw [List.drop_eq_getElem_cons (by rw [← HV.out.1]; exact hjl), (List.getElem?_eq_some_iff.1 hu).2]
        have hdr1 : L.drop N = v :: (visL v.items ++ (visL (vs.drop (j + 1)) ++ post)) := by
          rw [hdr.out, hsp, visL, visN_eq, List.cons_append, List.cons_append, List.append_assoc]
        have HCN : Hid (cntL (v.items.map Vl.er) + 1 ≤ f) := by
          have q := cnt_mem (List.mem_map_of_mem (f := Vl.er) (List.mem_of_getElem? hu))
          rw [er_kind v, cntN] at q
          have := H17.out
          show _ ≤ _; omega
        obtain ⟨hn0, hdr2⟩ := drop_consP hdr1
        obtain ⟨x, hx, hx1⟩ := elsW_at hn0
        have hNl : N < (elsW L).length := (List.getElem?_eq_some_iff.1 hx).1
        have hw1 := hK.out.1
        have hb1 : Below wr.heap.size wr (wr.alloc (.cells v.cells 37)) := (Below.refl _ _).alloc (Nat.le_refl _) _
        have hJ1 := abides_allocP HY.out.abj hJ.out (.cells v.cells 37)
        obtain ⟨fn, tmps, assign, body, hy, hR⟩ := HY.out.yield_ (m - 1) _ x _ hJ1 (by rw [List.length_take]; omega)
        change (Instr.yield l0 #[.agg #[.int .i64 x.1.kind, .string x.1.text, .int .i64 x.1.num, x.1.sl]]).run _ _ = _ at hy
        rw [hx1] at hy
        rw [take_elsW hx] at hR
        have HRV := Lib.hid (rd_iff.1 hrv).2.2.2
        have cy := cell_later hb1 (hK.out.keepS.cell (a := ⟨by_, 0, none⟩) HGY.out HCY.out)
        have cw := cell_later hb1 (hK.out.keepS.cell (a := ⟨bw, 0, none⟩) HGW.out HCW.out)
        have hbx := World.alloc_heap_new wr (.cells v.cells 37)
        have HDR2 := Lib.hid hdr2
        obtain ⟨e0, e1, e2, e3⟩ := hat
        obtain ⟨k, nn, t, ax, cx, lx⟩ := v
        dsimp only [Vl.val, Vl.cells, Vl.kind, Vl.num, Vl.text, Vl.sl, Vl.addr, Vl.items, Vl.cap] at e0 e1 e2 e3 hy HRV HDR2 HCN hbx hb1 hR cy cw
        change Below _ wr (wr.alloc (.cells #[.int .i64 k, .string t, .int .i64 nn, .slice ax lx.length cx] 37)) at hb1
        change ((wr.alloc (.cells #[.int .i64 k, .string t, .int .i64 nn, .slice ax lx.length cx] 37))).heap[wr.heap.size]? = some (.cells #[.int .i64 k, .string t, .int .i64 nn, .slice ax lx.length cx] 37 (0, 0)) at hbx
        change (Instr.yield l0 #[.agg #[.int .i64 k, .string t, .int .i64 nn, .slice ax lx.length cx]]).run Tryd.prog (wr.alloc (.cells #[.int .i64 k, .string t, .int .i64 nn, .slice ax lx.length cx] 37)) = _ at hy
        obtain ⟨x0, x1, x2, x3, -⟩ := box_cells4 hbx
        have HRR := Lib.hid hR
        have HB1 := Lib.hid hb1
        have hbyl : by_ < w.heap.size := World.block_lt_of_cell? _ _ HCY.out
        have hbwl : bw < w.heap.size := World.block_lt_of_cell? _ _ HCW.out
        have HST : Hid (∀ b, Ow (wr.alloc (.cells #[.int .i64 k, .string t, .int .i64 nn, .slice ax lx.length cx] 37)) b ↔ Ow wr b) := HY.out.st _ _ (by omega) hb1
        have HKU : Hid (KpO Ow wr (wr.alloc (.cells #[.int .i64 k, .string t, .int .i64 nn, .slice ax lx.length cx] 37))) := KpO.below (fun b h => (HST.out b).1 h) hb1
        have HNB : Hid (¬ Ow (wr.alloc (.cells #[.int .i64 k, .string t, .int .i64 nn, .slice ax lx.length cx] 37)) wr.heap.size) := fun h => by have := hK.out.2.2.2 HND.out _ ((HST.out _).1 h); omega
        have HNY : Hid (¬ Ow (wr.alloc (.cells #[.int .i64 k, .string t, .int .i64 nn, .slice ax lx.length cx] 37)) by_) := HKU.out.up (hK.out.up HGY.out hbyl) (by omega)
        have HNW : Hid (¬ Ow (wr.alloc (.cells #[.int .i64 k, .string t, .int .i64 nn, .slice ax lx.length cx] 37)) bw) := HKU.out.up (hK.out.up HGW.out hbwl) (by omega)
        have HBX := Lib.hid hbx
        clear hJ hx hx1 hn0 hdr hdr1 hdr2 hJ1 hR hb1 hbx hu hsp hrv hSb hbl
        gi_wp2
        refine ⟨(fun h => by cases h), ?_⟩
        generalize (wr.alloc (.cells #[.int .i64 k, .string t, .int .i64 nn, .slice ax lx.length cx] 37)) = U1 at *
        refine HRR.out.mono ?_
        rintro e U2 (⟨rfl, hJ2, hk2⟩ | ⟨rfl, hJx2⟩)
        · have x3b := hk2.keepS.cell (a := ⟨wr.heap.size, 3, none⟩) HNB.out x3
          have cy2 := hk2.keepS.cell (a := ⟨by_, 0, none⟩) HNY.out cy
          have cw2 := hk2.keepS.cell (a := ⟨bw, 0, none⟩) HNW.out cw
          have HRV2 := Lib.hid ((HRV.out.kp HKU.out).kp hk2)
          have HJ2 := Lib.hid hJ2
          have HK2 : Hid (KpO Ow w U2) := (hK.out.trans HKU.out).trans hk2
          have hu2 := HK2.out.1
          clear x0 x1 x2 x3 cy cw hy hJ2 hk2 HRR HRV hK HB1 HBX HST HKU HNB HNY HNW
          obtain ⟨f, rfl⟩ : ∃ f', f = f' + 1 := ⟨f - 1, by have := HCN.out; omega⟩
          have HF := fun m' => HIH.out f rfl lx ax lx.length cx (N + 1) m' _ U2 (by have := HCN.out; omega) HDR2.out HRV2.out (HK2.out.2.2.2 HND.out) (HK2.out.up HGY.out hbyl) (HK2.out.up HGW.out hbwl) cy2 cw2 (by omega) HJ2.out
          have HFF := Lib.hid HF
          clear HF HJ2
          gi_wp2_with (fail)
          refine ⟨trivial, (fun h => by cases h), ?_⟩
          refine (HFF.out _).mono ?_
          rintro e U3 (⟨rfl, ⟨N3, hN3, hJ3⟩, hk3⟩ | ⟨rfl, nx, hJx3⟩)
          · have HN3 := Lib.hid hN3
            have HJ3 := Lib.hid hJ3
            have HK3 := Lib.hid (HK2.out.trans hk3)
            clear hN3 hJ3 hk3 HFF
            gi_wp2
            go_roundw
            case rel => exact ⟨j + 1, N3, by go_num, by omega, HN3.out, HJ3.out, HK3.out⟩
            case measure => simp [intOf]; omega
          · have HJ3 := Lib.hid hJx3
            clear hJx3 HFF
            gi_wp2
            go_ret
            exact .inr ⟨rfl, nx, HJ3.out⟩
        · have HJX2 := Lib.hid hJx2
          clear hJx2 HRR hy
          gi_wp2
          all_goals first
            | (have hq : ∃ b, some undef = some (Value.bool b) := ⟨_, by assumption⟩
               obtain ⟨b, hq⟩ := hq
               cases hq
               done)
            | (with_reducible refine And.intro (fun f h => by cases h) ?_
               gi_wp2
               go_ret
               exact .inr ⟨rfl, _, HJX2.out⟩)
      · obtain rfl : j = n := by omega
        have HE : Hid (L.drop N = post) := by
          have := hdr.out
          have h0 : vs.drop j = [] := List.drop_of_length_le (by rw [← HV.out.1]; exact Nat.le_refl _)
          rw [h0] at this
          exact this
        clear hdr
        gi_wp2
        go_ret
        exact .inl ⟨rfl, ⟨N, HE.out, hJ.out⟩, hK.out⟩
theorem walkO_in {L : List Vl} {Ow : World → Nat → Prop} {l0 B0 : Nat} {J Jx : List (ElW L) → World → Prop} (hY : YlO L Ow l0 B0 J Jx) (by_ bw : Nat) : ∀ f, WalkO L Ow l0 B0 J Jx by_ bw f
  | 0 => walkO_step hY by_ bw 0 (fun f' e => by cases e)
  | f + 1 => walkO_step hY by_ bw (f + 1) (fun f' e => by cases e; exact walkO_in hY by_ bw f)
end Go.Proofs.YtbjanlmnmeegnaaDoor
