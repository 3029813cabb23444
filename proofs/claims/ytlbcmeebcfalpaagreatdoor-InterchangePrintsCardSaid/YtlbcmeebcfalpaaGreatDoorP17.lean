/- Joined: CAppS, CMea, CChk. -/
import Derived.Test.YtlbcmeebcfalpaaGreatDoorP01
import Derived.Test.YtlbcmeebcfalpaaGreatDoorP02
set_option linter.unusedVariables false
set_option linter.unusedSimpArgs false
set_option maxRecDepth 100000
set_option maxHeartbeats 16000000
namespace Go.Proofs.YtlbcmeebcfalpaaGreatDoor
open Go.RowKit Go.Shelf

theorem run_append_str_at {P : Program} (w : World) (base : Nat) (t u ty e : TypeId) (i : TypeInfo) (ht : P.underlying t = some (.slice e)) (hu : P.underlying u = some .string) (hi : P.info? e = some i) (hz : i.zero = some (.int .u8 0))
    (hsize : i.size = 1) (hby : i.bytes = 1) (v : Value) (n : Nat) (xs : List Value) (hown : w.ownsRow base e 1 v n xs) (s : ByteArray)
    (h63 : n + s.size <= maxLen) (hbytes : n + s.size <= 140737488355328) (hbase : base <= w.heap.size) :
    ∃ v' w', (Builtin.append_ #[t, u] ty #[v, .string s]).run P w = .ok v' w' /\ w'.ownsRow base e 1 v' (n + s.size) (xs ++ Lib.strCells s) /\ w.grownBy w' v.ownBlock /\ (v'.ownBlock = v.ownBlock \/ v'.ownBlock = some w.heap.size) := by
  obtain ⟨v', w', hr, h1, h2, h3⟩ := Lib.run_append_own_string (P := P) w base t u ty e i ht hu hi hz hsize hby v n xs hown s h63 hbytes hbase
  refine ⟨v', w', hr, h1, h2, ?_⟩
  have hxl : xs.length = n := by simpa using hown.1
  have hsmall : n + s.size <= 9223372036854775807 := by simp only [maxLen] at h63; omega
  rcases hown.2 with ⟨rfl, rfl⟩ | ⟨g, cap, cur, rfl, hbg, hg, hnc, hcm, hcs, htake⟩
  · by_cases hm : s.size = 0
    · left; rw [h3.2 ⟨rfl, hm⟩]
    · have hr2 := run_append_nil_string (P := P) w t u ty e i (.int .u8 0) ht hu hi hz s (by omega) (by omega) (by rw [hby]; omega)
      rw [hr] at hr2
      injection hr2 with e1 _
      right; rw [e1]; rfl
  · by_cases hroom : n + s.size <= cap
    · have hcs' : cur.size = cap := by simpa using hcs
      have hr2 := Lib.run_append_room_string (P := P) w t u ty e i ht hu hi hsize g n cap cur hg s hroom (by omega)
      rw [hr] at hr2
      injection hr2 with e1 _
      left; rw [e1]; rfl
    · have holds : ∀ j u, xs[j]? = some u -> w.cell? ((⟨g, 0, none⟩ : Addr).add j) = some u := hown.cells (g := g) rfl
      have hr2 := Lib.run_append_grow_string (P := P) w t u ty e i (.int .u8 0) ht hu hi hz ⟨g, 0, none⟩ n cap xs (by rw [hsize]; simpa using hxl) holds s (by omega) (by omega) (by rw [hby]; exact growslice_fits (by omega) (by omega))
      rw [hr] at hr2
      injection hr2 with e1 _
      right; rw [e1]; rfl
section
variable {ops : Array Oper} {rest : List Oper} {o : Oper} {act : Act} {Q : Exit -> Act -> World -> Prop} {w w0 : World} {B : Nat} {a : Option Addr} {n cap : Nat} {l : List UInt8} {s : ByteArray}
theorem wpList_appStrAt (hgd : o.guard = none) (os ox : Operand) (ho : o.op = .call { callee := .builtin .append, args := #[os, ox], argTypes := #[183, 9] })
    (hs : act.eval os = .slice a n cap) (hx : act.eval ox = .string s) (hown : OwnY w B a n cap l) (hn : n + s.size <= 140737488355328) (hB : B <= w.heap.size) (hb : Below B w0 w)
    (h : ∀ a' c' w', OwnY w' B a' (n + s.size) c' (l ++ s.data.toList) -> Below B w0 w' -> w.grownBy w' (Value.slice a n cap).ownBlock -> ((Value.slice a' (n + s.size) c').ownBlock = (Value.slice a n cap).ownBlock \/ (Value.slice a' (n + s.size) c').ownBlock = some w.heap.size) -> wpList Tryz.prog ops Q rest (act.put o.dst (.slice a' (n + s.size) c')) w') :
    wpList Tryz.prog ops Q (o :: rest) act w := by
  obtain ⟨i0, hi, hz0, hz1, hz2⟩ := info_parts Tryz.infoByte
  have hlt := hown.lt
  refine wpList_plain hgd fun K hK => ?_
  obtain ⟨v', w', hr, h1, h2, h4⟩ := run_append_str_at (P := Tryz.prog) w B 183 9 o.type 5 i0 Tryz.underlying183 Tryz.underlying9 hi hz0 hz1 hz2 _ _ _ hown.2 s (by unfold maxLen; omega) hn hB
  obtain ⟨a', c', rfl⟩ : ∃ a' c', v' = .slice a' (n + s.size) c' := by
    rcases h1.2 with ⟨rfl, h0⟩ | ⟨g, cap', cur, rfl, _⟩
    · exact ⟨none, 0, by rw [h0]⟩
    · exact ⟨_, _, rfl⟩
  unfold Oper.wp execOp
  simp only [ho, resolve, invoke, builtin, Sem.run_bind, Sem.run_pure, Result.andThen_ok, List.map_toArray, List.map_cons, List.map_nil, hs, hx, hr]
  have hc : Lib.byteCells (l ++ s.data.toList) = Lib.byteCells l ++ Lib.strCells s := by
    rw [Lib.byteCells, List.map_append]; rfl
  exact hK _ _ (h a' c' w' ⟨by rw [List.length_append, <- hown.1]; simp, by rw [hc]; exact h1⟩ (hb.grown h2 hB (fun j hj => (hlt j hj).1)) h2 h4)
end
/-- Blocks that are not the slice's own. -/
abbrev Oth (a : Option Addr) (n cap : Nat) : Nat -> Prop := fun b => (Value.slice a n cap).ownBlock ≠ some b
/-- From (a n cap, w) to (a' n' cap', w') only the slice's own row was turned. -/
structure Grew (B : Nat) (a : Option Addr) (n cap : Nat) (w : World) (a' : Option Addr) (n' cap' : Nat) (w' : World) : Prop where
  below : Below B w w'
  keep : KeepS (Oth a n cap) w w'
  own : ∀ q, (Value.slice a' n' cap').ownBlock = some q -> (Value.slice a n cap).ownBlock = some q \/ w.heap.size <= q
namespace Grew
variable {B : Nat} {a a' a'' : Option Addr} {n cap n' cap' n'' cap'' : Nat} {w w' w'' : World}
theorem refl (B : Nat) (a : Option Addr) (n cap : Nat) (w : World) : Grew B a n cap w a n cap w := ⟨Below.refl _ _, KeepS.refl _ _, fun _ h => .inl h⟩
theorem trans (h : Grew B a n cap w a' n' cap' w') (k : Grew B a' n' cap' w' a'' n'' cap'' w'') : Grew B a n cap w a'' n'' cap'' w'' := by
  refine ⟨h.below.trans k.below, ⟨Nat.le_trans h.keep.1 k.keep.1, fun b cs t fr hs hb => k.keep.2 b cs t fr (fun e => ?_) (h.keep.2 b cs t fr hs hb)⟩, fun q hq => ?_⟩
  · have hlt := (Array.getElem?_eq_some_iff.1 hb).1
    rcases h.own b e with h1 | h1
    · exact hs h1
    · omega
  · rcases k.own q hq with h1 | h1
    · exact h.own q h1
    · right; exact Nat.le_trans h.keep.1 h1
theorem of_below (hb : Below w.heap.size w w') (hB : B <= w.heap.size) : Grew B a n cap w a n cap w' := ⟨hb.mono hB, .below hb, fun _ h => .inl h⟩
theorem of_grown (hb : Below B w w') (hg : w.grownBy w' (Value.slice a n cap).ownBlock) (hat : (Value.slice a' n' cap').ownBlock = (Value.slice a n cap).ownBlock \/ (Value.slice a' n' cap').ownBlock = some w.heap.size) : Grew B a n cap w a' n' cap' w' :=
  ⟨hb, .grown hg (fun r e hs => hs e), fun q hq => by
    rcases hat with e | e
    · left; rw [<- e]; exact hq
    · right; rw [e] at hq; cases hq; exact Nat.le_refl _⟩
end Grew
end Go.Proofs.YtlbcmeebcfalpaaGreatDoor
namespace Go.Proofs.YtlbcmeebcfalpaaGreatDoor
open Go.RowKit

def mgot (o : Option Int) : Int := o.getD 0
def mbad (o : Option Int) : Bool := o.isNone
/-- One item more. -/
def mstep (n : Nat) (most : Int) (s : Option Int) (u : V) : Option Int := s.bind fun size => (measR n (most - size) u).bind fun k => some (size + k)
theorem measR_succ (n : Nat) (most : Int) (v : V) : measR (n + 1) most v = if most < 1 then none else if v.kind = 3 then v.items.foldl (mstep n most) (some 1) else some 1 := rfl
theorem measR_le {n : Nat} {most : Int} {v : V} {k : Int} (h : measR n most v = some k) : 1 <= k /\ k <= most := by
  rw [measR_eq] at h
  cases hc : cntD n v with
  | none => rw [hc] at h; cases h
  | some c =>
    rw [hc] at h
    have := cntD_pos n v c hc
    simp only at h
    split at h
    · cases h; omega
    · cases h
theorem mstep_none (n : Nat) (most : Int) : ∀ l : List V, l.foldl (mstep n most) none = none
  | [] => rfl
  | _ :: l => mstep_none n most l
theorem measure_ref : ∀ (n : Nat) (S : Nat -> Prop) (v : Vl) (w : World) (most : Int), n <= 64 -> -65536 <= most -> most <= 65536 -> Rd S w v ->
    Calls Tryz.prog 74 #[v.val, .int .i64 n, .int .i64 most] w fun e w' => e = .returned (.tuple #[.int .i64 (mgot (measR n most v.er)), .bool (mbad (measR n most v.er))]) /\ Below w.heap.size w w'
  | 0, S, .mk k nn t a c l, w, most, _, _, _, h => by
    change Calls _ _ #[.agg #[.int .i64 k, .int .i64 nn, .string t, .slice a l.length c], _, _] _ _
    go_enter Tryz.func74, Tryz.ntmps74
    go_wp2
    go_ret2
    exact ⟨rfl, (Below.refl _ _).alloc (Nat.le_refl _) _⟩
  | n + 1, S, .mk k nn t a c l, w, most, hn, hm0, hm1, h => by
    have IH := hiq (measure_ref n)
    have hB := boxed S w _ h
    have hE : Hid (measR (n + 1) most (Vl.mk k nn t a c l).er = if most < 1 then none else if k = 3 then (l.map Vl.er).foldl (mstep n most) (some 1) else some 1) := by show _ = _; rw [measR_succ, Vl.er_items, Vl.er_kind]; rfl
    have hL := hB.rd.vals.2.2.1
    have hBE := hB.below
    have hlt := hB.lt
    change l.length * 56 <= _ at hL
    change Boxed S w (w.alloc (.cells #[.int .i64 k, .int .i64 nn, .string t, .slice a l.length c] 24)) _ _ at hB
    change Below _ w (w.alloc (.cells #[.int .i64 k, .int .i64 nn, .string t, .slice a l.length c] 24)) at hBE
    change w.heap.size <= (w.alloc (.cells #[.int .i64 k, .int .i64 nn, .string t, .slice a l.length c] 24)).heap.size at hlt
    change Calls _ _ #[.agg #[.int .i64 k, .int .i64 nn, .string t, .slice a l.length c], _, _] _ _
    obtain ⟨N, hN⟩ : ∃ N : Nat, N = n + 1 := ⟨_, rfl⟩
    rw [<- hN]
    rw [<- hN] at hE
    have HN1 : Hid ((n : Int) = (N : Int) - 1) := by show _ = _; omega
    have hNlo : 1 <= N := by omega
    have hNhi : N <= 64 := by omega
    have hnn : n <= 64 := by omega
    clear hN
    generalize hM : measR N most (Vl.mk k nn t a c l).er = M at *
    clear hM
    by_cases hm : most < 1
    · have HX : Hid (M = none) := by show _ = _; rw [hE.out, if_pos hm]
      go_enter Tryz.func74, Tryz.ntmps74
      go_wp2
      go_ret2
      exact ⟨by rw [HX.out]; rfl, hBE⟩
    · have hm' : 1 <= most := by omega
      have dm : decide (most < 1) = false := by simp; omega
      by_cases hk : k = 3
      · subst hk
        have HX : Hid (M = (l.map Vl.er).foldl (mstep n most) (some 1)) := by show _ = _; rw [hE.out, if_neg hm, if_pos rfl]
        clear hE hm
        go_enter Tryz.func74, Tryz.ntmps74
        go_wp2
        generalize w.alloc (.cells #[.int .i64 3, .int .i64 nn, .string t, .slice a l.length c] 24) = W1 at *
        go_loopw [9, 8] (fun i s wr => ∃ (j : Nat) (x : Int), i = .int .i64 j /\ s = .int .i64 x /\ j <= l.length /\ Hid (((l.map Vl.er).take j).foldl (mstep n most) (some 1) = some x) /\ 1 <= x /\ x <= most /\ Below W1.heap.size W1 wr) (fun i _ _ => l.length - (intOf i).toNat)
        case atStart => exact ⟨0, 1, rfl, rfl, Nat.zero_le _, rfl, by omega, by omega, Below.refl _ _⟩
        case round =>
          obtain ⟨j, x, rfl, rfl, hj, hx, hx1, hx2, hb⟩ := hrel
          have hBr := hB.later hb
          obtain ⟨k1, -, -, k4⟩ := hBr.at_
          change wr.cell? ⟨w.heap.size, 3, none⟩ = some (.slice a l.length c) at k4
          change wr.cell? ⟨w.heap.size, 0, none⟩ = some (.int .i64 3) at k1
          by_cases hlj : j < l.length
          · obtain ⟨u, bb, off, hu, -, ea, -, -, ⟨c1, c2, c3, c4⟩, hru⟩ := hBr.rd.vals.get hlj
            change a = _ at ea
            change l[j]? = _ at hu
            subst ea
            have hst : ((l.map Vl.er).take (j + 1)).foldl (mstep n most) (some 1) = (measR n (most - x) u.er).bind fun k => some (x + k) := by
              rw [take_er hu, List.foldl_append, hx.out]; rfl
            have HF := IH.out S u wr (most - x) hnn (by omega) (by omega) hru
            rw [HN1.out] at HF
            have sw : IntKind.i64.wrap (most - x) = most - x := IntWalk.i64_in _ (by omega)
            cases hl : measR n (most - x) u.er with
            | none =>
              rw [hl] at HF hst
              have hfin : Hid (M = none) := by
                show _ = _
                rw [HX.out, <- List.take_append_drop (j + 1) (l.map Vl.er), List.foldl_append, hst]
                exact mstep_none _ _ _
              replace HF := hiq HF
              obtain ⟨uk, un, ut, ua, uc, ul⟩ := u
              dsimp only [Vl.kind, Vl.num, Vl.text, Vl.sl, Vl.addr, Vl.items, Vl.cap] at c1 c2 c3 c4
              dsimp only [Vl.val, Vl.cells, Vl.kind, Vl.num, Vl.text, Vl.sl, Vl.addr, Vl.items, Vl.cap, mgot, mbad, Option.getD, Option.isNone] at HF
              clear hx hru hu hl hst
              go_wp2_with (go_at_call 74; refine HF.out.mono ?_; rintro e w' ⟨rfl, hb'⟩)
              go_ret2
              exact ⟨by rw [hfin.out]; rfl, hBE.trans ((hb.trans (hb'.mono hb.size)).mono hlt)⟩
            | some y =>
              obtain ⟨y1, y2⟩ := measR_le hl
              rw [hl] at HF hst
              have hst2 : Hid (((l.map Vl.er).take (j + 1)).foldl (mstep n most) (some 1) = some (x + y)) := hst
              replace HF := hiq HF
              obtain ⟨uk, un, ut, ua, uc, ul⟩ := u
              dsimp only [Vl.kind, Vl.num, Vl.text, Vl.sl, Vl.addr, Vl.items, Vl.cap] at c1 c2 c3 c4
              dsimp only [Vl.val, Vl.cells, Vl.kind, Vl.num, Vl.text, Vl.sl, Vl.addr, Vl.items, Vl.cap, mgot, mbad, Option.getD, Option.isNone] at HF
              have sw2 : IntKind.i64.wrap (x + y) = x + y := IntWalk.i64_in _ (by omega)
              clear hx hru hu hl hst
              go_wp2_with (go_at_call 74; refine HF.out.mono ?_; rintro e w' ⟨rfl, hb'⟩)
              go_roundw
              case rel => exact ⟨j + 1, x + y, by go_num, rfl, by omega, hst2.out, by omega, by omega, hb.trans (hb'.mono hb.size)⟩
              case measure => simp [intOf]; omega
          · obtain rfl : j = l.length := by omega
            have hfin : Hid (M = some x) := by
              show _ = _
              rw [HX.out, <- hx.out, List.take_of_length_le (by simp)]
            clear hx
            go_wp2
            go_ret2
            exact ⟨by rw [hfin.out]; rfl, hBE.trans (hb.mono hlt)⟩
      · have HX : Hid (M = some 1) := by show _ = _; rw [hE.out, if_neg hm, if_neg hk]
        have dk : ((k : Int) == 3) = false := by simp; omega
        obtain ⟨-, -, -, k4⟩ := hB.at_
        clear hE hm hk
        go_enter Tryz.func74, Tryz.ntmps74
        go_wp2
        generalize w.alloc (.cells #[.int .i64 k, .int .i64 nn, .string t, .slice a l.length c] 24) = W1 at *
        change W1.cell? ⟨w.heap.size, 3, none⟩ = some (.slice a l.length c) at k4
        obtain ⟨k1, -, -, -⟩ := hB.at_
        change W1.cell? ⟨w.heap.size, 0, none⟩ = some (.int .i64 k) at k1
        go_loopw [9, 8] (fun i s wr => i = .int .i64 0 /\ s = .int .i64 1 /\ wr = W1) (fun i _ _ => 1)
        case atStart => exact ⟨rfl, rfl, rfl⟩
        case round =>
          obtain ⟨rfl, rfl, rfl⟩ := hrel
          by_cases hl0 : 0 < l.length
          · go_wp2
            go_ret2
            exact ⟨by rw [HX.out]; rfl, hBE⟩
          · go_wp2
            go_ret2
            exact ⟨by rw [HX.out]; rfl, hBE⟩
end Go.Proofs.YtlbcmeebcfalpaaGreatDoor
namespace Go.Proofs.YtlbcmeebcfalpaaGreatDoor
open Go.RowKit

theorem firstE_no {l : List Vl} {j : Nat} {u : Vl} (hu : l[j]? = some u) (h : firstE (((l.map Vl.er).take j).map allV) = 0) (h0 : allV u.er = 0) : firstE (((l.map Vl.er).take (j + 1)).map allV) = 0 := by
  rw [take_er hu, List.map_append, firstE_append, h]; simp [firstE, h0]
theorem firstE_yes {l : List Vl} {j : Nat} {u : Vl} (hu : l[j]? = some u) (h : firstE (((l.map Vl.er).take j).map allV) = 0) (h0 : allV u.er ≠ 0) : firstE ((l.map Vl.er).map allV) = allV u.er := by
  rw [<- List.take_append_drop (j + 1) (l.map Vl.er), List.map_append, firstE_append, take_er hu, List.map_append, firstE_append, h]
  simp [firstE, h0]
theorem all_ref (v : Vl) : ∀ (S : Nat -> Prop) (w : World), Rd S w v ->
    Calls Tryz.prog 75 #[v.val] w fun e w' => e = .returned (.int .i64 (allV v.er)) /\ Below w.heap.size w w' := by
  induction v using Vl.ind with
  | h v ih =>
    intro S w h
    obtain ⟨k, nn, t, a, c, l⟩ := v
    change ∀ u ∈ l, _ at ih
    have IH := hiq ih
    clear ih
    have hB := boxed S w _ h
    have hE : Hid (allV (Vl.mk k nn t a c l).er = if singV (Vl.mk k nn t a c l).er ≠ 0 then singV (Vl.mk k nn t a c l).er else firstE ((l.map Vl.er).map allV)) := by show _ = _; rw [allV_eq, Vl.er_items]; rfl
    have F := single_any S (Vl.mk k nn t a c l) _ hB.rd
    have hL := hB.rd.vals.2.2.1
    have hBE := hB.below
    have hlt := hB.lt
    change l.length * 56 <= _ at hL
    change Boxed S w (w.alloc (.cells #[.int .i64 k, .int .i64 nn, .string t, .slice a l.length c] 24)) _ _ at hB
    change Below _ w (w.alloc (.cells #[.int .i64 k, .int .i64 nn, .string t, .slice a l.length c] 24)) at hBE
    change w.heap.size <= (w.alloc (.cells #[.int .i64 k, .int .i64 nn, .string t, .slice a l.length c] 24)).heap.size at hlt
    change Calls _ _ #[.agg #[.int .i64 k, .int .i64 nn, .string t, .slice a l.length c]] (w.alloc (.cells #[.int .i64 k, .int .i64 nn, .string t, .slice a l.length c] 24)) _ at F
    change Calls _ _ #[.agg #[.int .i64 k, .int .i64 nn, .string t, .slice a l.length c]] _ _
    have HF := hiq F
    dsimp only [Vl.val, Vl.cells, Vl.kind, Vl.num, Vl.text, Vl.sl, Vl.addr, Vl.items, Vl.cap] at HF
    clear F
    generalize hM : allV (Vl.mk k nn t a c l).er = M at *
    clear hM
    generalize hG : singV (Vl.mk k nn t a c l).er = G at *
    clear hG
    by_cases hg : G = 0
    · subst hg
      have HX : Hid (M = firstE ((l.map Vl.er).map allV)) := by show _ = _; rw [hE.out, if_neg (by simp)]
      clear hE
      go_enter Tryz.func75, Tryz.ntmps75
      go_wp2_with fail
      generalize w.alloc (.cells #[.int .i64 k, .int .i64 nn, .string t, .slice a l.length c] 24) = W1 at *
      refine HF.out.mono ?_
      rintro e W2 ⟨rfl, hb2⟩
      have hB2 := hB.later hb2
      have hlt2 := hB2.lt
      have hBE2 := hB2.below
      clear HF hb2 hB hBE hlt
      go_wp2
      go_loopw [4] (fun i wr => ∃ (j : Nat), i = .int .i64 j /\ j <= l.length /\ Hid (firstE (((l.map Vl.er).take j).map allV) = 0) /\ Below W2.heap.size W2 wr) (fun i _ => l.length - (intOf i).toNat)
      case atStart => exact ⟨0, rfl, Nat.zero_le _, rfl, Below.refl _ _⟩
      case round =>
        obtain ⟨j, rfl, hj, hx, hb⟩ := hrel
        have hBr := hB2.later hb
        obtain ⟨-, -, -, k4⟩ := hBr.at_
        change wr.cell? ⟨w.heap.size, 3, none⟩ = some (.slice a l.length c) at k4
        by_cases hlj : j < l.length
        · obtain ⟨u, bb, off, hu, hmem, ea, -, -, ⟨c1, c2, c3, c4⟩, hru⟩ := hBr.rd.vals.get hlj
          change a = _ at ea
          change l[j]? = _ at hu
          change u ∈ l at hmem
          subst ea
          have HF := IH.out u hmem S wr hru
          by_cases h0 : allV u.er = 0
          · rw [h0] at HF
            have hst := hiq (firstE_no hu hx.out h0)
            replace HF := hiq HF
            obtain ⟨uk, un, ut, ua, uc, ul⟩ := u
            dsimp only [Vl.kind, Vl.num, Vl.text, Vl.sl, Vl.addr, Vl.items, Vl.cap] at c1 c2 c3 c4
            dsimp only [Vl.val, Vl.cells, Vl.kind, Vl.num, Vl.text, Vl.sl, Vl.addr, Vl.items, Vl.cap] at HF
            clear hx hru hu h0 hmem
            go_wp2_with (go_at_call 75; refine HF.out.mono ?_; rintro e w' ⟨rfl, hb'⟩)
            go_roundw
            case rel => exact ⟨j + 1, by go_num, by omega, hst.out, hb.trans (hb'.mono hb.size)⟩
            case measure => simp [intOf]; omega
          · have hst : Hid (M = allV u.er) := by show _ = _; rw [HX.out, firstE_yes hu hx.out h0]
            generalize allV u.er = Q at *
            have dq : ((Q : Int) != 0) = true := by simp [h0]
            replace HF := hiq HF
            obtain ⟨uk, un, ut, ua, uc, ul⟩ := u
            dsimp only [Vl.kind, Vl.num, Vl.text, Vl.sl, Vl.addr, Vl.items, Vl.cap] at c1 c2 c3 c4
            dsimp only [Vl.val, Vl.cells, Vl.kind, Vl.num, Vl.text, Vl.sl, Vl.addr, Vl.items, Vl.cap] at HF
            clear hx hru hu h0 hmem
            go_wp2_with (go_at_call 75; refine HF.out.mono ?_; rintro e w' ⟨rfl, hb'⟩)
            go_ret
            exact ⟨by rw [hst.out]; rfl, hBE2.trans ((hb.trans (hb'.mono hb.size)).mono hlt2)⟩
        · obtain rfl : j = l.length := by omega
          have hst : Hid (M = 0) := by
            show _ = _
            have := hx.out
            rw [List.take_of_length_le (by simp)] at this
            rw [HX.out, this]
          clear hx
          go_wp2
          go_ret
          exact ⟨by rw [hst.out]; rfl, hBE2.trans (hb.mono hlt2)⟩
    · have HX : Hid (M = G) := by show _ = _; rw [hE.out, if_pos hg]
      have dg : ((G : Int) != 0) = true := by simp [hg]
      clear hE hg
      go_enter Tryz.func75, Tryz.ntmps75
      go_wp2_with fail
      generalize w.alloc (.cells #[.int .i64 k, .int .i64 nn, .string t, .slice a l.length c] 24) = W1 at *
      refine HF.out.mono ?_
      rintro e W2 ⟨rfl, hb2⟩
      go_wp2
      go_ret
      exact ⟨by rw [HX.out]; rfl, hBE.trans (hb2.mono hlt)⟩

theorem check_ref (S : Nat -> Prop) : ∀ (v : Vl) (w : World), Rd S w v ->
    Calls Tryz.prog 34 #[v.val] w fun e w' => e = .returned (.int .i64 (chkV v.er)) /\ Below w.heap.size w w'
  | .mk k nn t a c l, w, h => by
    have hB := boxed S w _ h
    have F := measure_ref 64 S (Vl.mk k nn t a c l) _ 65536 (by omega) (by omega) (by omega) hB.rd
    have hBE := hB.below
    have hlt := hB.lt
    have hE : Hid (chkV (Vl.mk k nn t a c l).er = if measR 64 65536 (Vl.mk k nn t a c l).er = none then 4 else allV (Vl.mk k nn t a c l).er) := rfl
    have A1 : Hid (∀ W, Below (w.alloc (.cells (Vl.mk k nn t a c l).cells 24)).heap.size (w.alloc (.cells (Vl.mk k nn t a c l).cells 24)) W -> Calls Tryz.prog 75 #[.agg #[.int .i64 k, .int .i64 nn, .string t, .slice a l.length c]] W fun e w' => e = .returned (.int .i64 (allV (Vl.mk k nn t a c l).er)) /\ Below W.heap.size W w') := fun W hb => all_ref (Vl.mk k nn t a c l) S W (hB.later hb).rd
    change Hid (∀ W, Below (w.alloc (.cells #[.int .i64 k, .int .i64 nn, .string t, .slice a l.length c] 24)).heap.size (w.alloc (.cells #[.int .i64 k, .int .i64 nn, .string t, .slice a l.length c] 24)) W -> _) at A1
    change Boxed S w (w.alloc (.cells #[.int .i64 k, .int .i64 nn, .string t, .slice a l.length c] 24)) _ _ at hB
    change Below _ w (w.alloc (.cells #[.int .i64 k, .int .i64 nn, .string t, .slice a l.length c] 24)) at hBE
    change w.heap.size <= (w.alloc (.cells #[.int .i64 k, .int .i64 nn, .string t, .slice a l.length c] 24)).heap.size at hlt
    change Calls _ _ #[.agg #[.int .i64 k, .int .i64 nn, .string t, .slice a l.length c], _, _] (w.alloc (.cells #[.int .i64 k, .int .i64 nn, .string t, .slice a l.length c] 24)) _ at F
    change Calls _ _ #[.agg #[.int .i64 k, .int .i64 nn, .string t, .slice a l.length c]] _ _
    generalize measR 64 65536 (Vl.mk k nn t a c l).er = M at *
    generalize allV (Vl.mk k nn t a c l).er = Q at *
    generalize chkV (Vl.mk k nn t a c l).er = R at *
    cases M with
    | none =>
      have HX : Hid (R = 4) := by show _ = _; rw [hE.out, if_pos rfl]
      have HF := hiq F
      dsimp only [mgot, mbad, Option.getD, Option.isNone, Vl.val, Vl.cells, Vl.kind, Vl.num, Vl.text, Vl.sl, Vl.addr, Vl.items, Vl.cap] at HF
      clear F hE
      go_enter Tryz.func34, Tryz.ntmps34
      go_wp2_with fail
      generalize w.alloc (.cells #[.int .i64 k, .int .i64 nn, .string t, .slice a l.length c] 24) = W1 at *
      refine HF.out.mono ?_
      rintro e W2 ⟨rfl, hb2⟩
      go_wp2
      go_ret
      exact ⟨by rw [HX.out]; rfl, hBE.trans (hb2.mono hlt)⟩
    | some y =>
      have HX : Hid (R = Q) := by show _ = _; rw [hE.out, if_neg (by simp)]
      have HF := hiq F
      dsimp only [mgot, mbad, Option.getD, Option.isNone, Vl.val, Vl.cells, Vl.kind, Vl.num, Vl.text, Vl.sl, Vl.addr, Vl.items, Vl.cap] at HF
      clear F hE
      go_enter Tryz.func34, Tryz.ntmps34
      go_wp2_with fail
      generalize w.alloc (.cells #[.int .i64 k, .int .i64 nn, .string t, .slice a l.length c] 24) = W1 at *
      refine HF.out.mono ?_
      rintro e W2 ⟨rfl, hb2⟩
      have hB2 := hB.later hb2
      obtain ⟨c1, c2, c3, c4⟩ := hB2.at_
      change W2.cell? ⟨w.heap.size, 0, none⟩ = some (.int .i64 k) at c1
      change W2.cell? ⟨w.heap.size, 1, none⟩ = some (.int .i64 nn) at c2
      change W2.cell? ⟨w.heap.size, 2, none⟩ = some (.string t) at c3
      change W2.cell? ⟨w.heap.size, 3, none⟩ = some (.slice a l.length c) at c4
      have A2 := hiq (A1.out W2 hb2)
      clear A1 hb2
      go_wp2_with (go_at_call 75; refine A2.out.mono ?_; rintro e W3 ⟨rfl, hb3⟩)
      go_ret
      exact ⟨by rw [HX.out]; rfl, hB2.below.trans (hb3.mono hB2.lt)⟩
end Go.Proofs.YtlbcmeebcfalpaaGreatDoor
