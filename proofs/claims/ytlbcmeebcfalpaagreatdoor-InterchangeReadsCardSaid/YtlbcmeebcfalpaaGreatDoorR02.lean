/- Joined: CRefA, CMea, CChk, CEncR, CNum. -/
import Derived.Test.YtlbcmeebcfalpaaGreatDoorR01
import Derived.Laws.IdiomStrings
import Derived.Lib.BufferRead
set_option linter.unusedVariables false
set_option linter.unusedSimpArgs false
set_option maxRecDepth 100000
set_option maxHeartbeats 16000000
namespace Go.Proofs.YtlbcmeebcfalpaaGreatDoor
open Go.RowKit

/-- What is known behind the boxing of a value. -/
structure Boxed (S : Nat -> Prop) (w W : World) (b : Nat) (v : Vl) : Prop where
  below : Below w.heap.size w W
  lt : w.heap.size <= W.heap.size
  at_ : VAt W b 0 v
  rd : Rd S W v
theorem boxed (S : Nat -> Prop) (w : World) (v : Vl) (h : Rd S w v) : Boxed S w (w.alloc (.cells v.cells 24)) w.heap.size v := by
  have hb : Below w.heap.size w (w.alloc (.cells v.cells 24)) := (Below.refl _ w).alloc (Nat.le_refl _) _
  refine ⟨hb, hb.size, ⟨?_, ?_, ?_, ?_⟩, h.below hb⟩ <;> (rw [World.cell?_alloc_at _ _ _ _ rfl]; rfl)
theorem VAt.later {w w' : World} {b o : Nat} {v : Vl} (h : VAt w b o v) (hb : Below w.heap.size w w') : VAt w' b o v :=
  ⟨clq hb h.1, clq hb h.2.1, clq hb h.2.2.1, clq hb h.2.2.2⟩
theorem Boxed.later {S : Nat -> Prop} {w W W' : World} {b : Nat} {v : Vl} (h : Boxed S w W b v) (hb : Below W.heap.size W W') : Boxed S w W' b v :=
  ⟨h.below.trans (hb.mono h.lt), Nat.le_trans h.lt hb.size, h.at_.later hb, h.rd.below hb⟩
theorem Rd.vals {S : Nat -> Prop} {w : World} {v : Vl} (h : Rd S w v) : Vals S w v.addr v.items.length v.cap v.items := (rd_iff.1 h).2.2.2
theorem take_er {l : List Vl} {j : Nat} {u : Vl} (h : l[j]? = some u) : (l.map Vl.er).take (j + 1) = (l.map Vl.er).take j ++ [u.er] := by
  rw [List.take_add_one, List.getElem?_map, h]; rfl

end Go.Proofs.YtlbcmeebcfalpaaGreatDoor

namespace Go.Proofs.YtlbcmeebcfalpaaGreatDoor
open Go.RowKit

end Go.Proofs.YtlbcmeebcfalpaaGreatDoor

namespace Go.Proofs.YtlbcmeebcfalpaaGreatDoor
open Go.RowKit
theorem toList_nil {t : ByteArray} : t.toList = [] ↔ t.size = 0 := by
  rw [ByteArray.toList_eq]
  constructor
  · intro h; have := congrArg List.length h; simpa using this
  · intro h; exact List.eq_nil_of_length_eq_zero (by simpa using h)
theorem sing_of {k nn : Int} {t : ByteArray} {a : Option Addr} {c : Nat} {l : List Vl} {E : Int} (h : singV (Vl.mk k nn t a c l).er = E) :
    E = if (k = 1 /\ t.toList = [] /\ l.length = 0) \/ (k = 2 /\ nn = 0 /\ l.length = 0) \/ (k = 3 /\ nn = 0 /\ t.toList = []) then (if 1048576 < t.size \/ 4096 < l.length then 4 else 0) else 8 := by
  rw [<- h, singV, Vl.er_kind, Vl.er_num, Vl.er_text, Vl.er_len]
  simp only [toList_nil]
  rfl
theorem single_any (S : Nat -> Prop) : ∀ (v : Vl) (w : World), Rd S w v ->
    Calls Tryz.prog 182 #[v.val] w fun e w' => e = .returned (.int .i64 (singV v.er)) /\ Below w.heap.size w w'
  | .mk k nn t a c l, w, h => by
    have ht := (rd_iff.1 h).2.2.1
    change t.size <= _ at ht
    have hB := boxed S w _ h
    have hL := hB.rd.vals.2.2.1
    have hBE := hiq hB.below
    change l.length * 56 <= _ at hL
    clear hB
    change Calls _ _ #[.agg #[.int .i64 k, .int .i64 nn, .string t, .slice a l.length c]] _ _
    generalize hE : singV (Vl.mk k nn t a c l).er = E
    have HE := hiq hE
    clear hE
    go_enter Tryz.func182, Tryz.ntmps182
    go_wp2
    all_goals
      go_ret
      refine ⟨?_, (Below.refl _ _).alloc (Nat.le_refl _) _⟩
      have hs := sing_of HE.out
      simp only [beq_iff_eq, beq_eq_false_iff_ne, ne_eq, Bool.not_eq_true', Bool.not_eq_false', List.isEmpty_iff, List.isEmpty_eq_false_iff] at *
      rw [hs]
      first
        | (rw [if_pos (by first | (left; exact ⟨by assumption, by assumption, by omega⟩) | (right; left; exact ⟨by assumption, by omega, by omega⟩) | (right; right; exact ⟨by assumption, by omega, by assumption⟩))]; first | (rw [if_pos (by omega)]; rfl) | (rw [if_neg (by omega)]; rfl))
        | (rw [if_neg (by rintro (⟨_, h2, h3⟩ | ⟨_, h2, h3⟩ | ⟨_, h2, h3⟩) <;> first | omega | contradiction)]; rfl)
end Go.Proofs.YtlbcmeebcfalpaaGreatDoor

namespace Go.Proofs.YtlbcmeebcfalpaaGreatDoor
open Go.RowKit
theorem own_valid {k nn : Int} {T : Prop} {n : Nat} (h1 : 1 <= k) (h3 : k <= 3) : ((k = 1 /\ T /\ n = 0) \/ (k = 2 /\ nn = 0 /\ n = 0) \/ (k = 3 /\ nn = 0 /\ T)) ↔ (nn ≠ 0 -> k = 1) /\ (¬ T -> k = 2) /\ (0 < n -> k = 3) := by
  by_cases hT : T <;> by_cases hn : nn = 0 <;> by_cases h0 : 0 < n <;> simp [hT, hn, h0] <;> omega
/-- The fields below j are of their kinds. -/
def OwnR (k : Int) (b1 b2 b3 : Bool) (j : Nat) : Prop := (1 < j -> b1 = true -> k = 1) /\ (2 < j -> b2 = true -> k = 2) /\ (3 < j -> b3 = true -> k = 3)
theorem own_any (S : Nat -> Prop) : ∀ (v : Vl) (w : World), Rd S w v ->
    Calls Tryz.prog 151 #[v.val] w fun e w' => e = .returned (.int .i64 (singV v.er)) /\ Below w.heap.size w w'
  | .mk k nn t a c l, w, h => by
    have ht := (rd_iff.1 h).2.2.1
    change t.size <= _ at ht
    have hB := boxed S w _ h
    have hL := hB.rd.vals.2.2.1
    have hBE := hiq hB.below
    change l.length * 56 <= _ at hL
    clear hB
    change Calls _ _ #[.agg #[.int .i64 k, .int .i64 nn, .string t, .slice a l.length c]] _ _
    generalize hE : singV (Vl.mk k nn t a c l).er = E
    have HE := hiq hE
    clear hE
    have hs := sing_of HE.out
    by_cases hk1 : k < 1
    · rw [if_neg (by omega)] at hs
      have HS := hiq hs
      clear hs
      go_enter Tryz.func151, Tryz.ntmps151
      go_wp2
      go_ret
      exact ⟨by rw [HS.out]; rfl, ((Below.refl _ _).alloc (Nat.le_refl _) _).alloc (by simp) _⟩
    · by_cases hk3 : 3 < k
      · rw [if_neg (by omega)] at hs
        have HS := hiq hs
        have dk1 : decide (k < 1) = false := by simp; omega
        clear hs
        go_enter Tryz.func151, Tryz.ntmps151
        go_wp2
        go_ret
        exact ⟨by rw [HS.out]; rfl, ((Below.refl _ _).alloc (Nat.le_refl _) _).alloc (by simp) _⟩
      · have hk1' : 1 <= k := by omega
        have hk3' : k <= 3 := by omega
        have dk1 : decide (k < 1) = false := by simp; omega
        have dk3 : decide (3 < k) = false := by simp; omega
        have HS := hiq hs
        clear hs hk1 hk3
        go_enter Tryz.func151, Tryz.ntmps151
        go_wp2
        generalize hb1 : (nn != 0) = b1
        generalize hb2 : (!t.toList.isEmpty) = b2
        generalize hb3 : decide (0 < l.length) = b3
        have HB1 := hiq hb1
        have HB2 := hiq hb2
        have HB3 := hiq hb3
        clear hb1 hb2 hb3
        have i0 : ∀ W, (Instr.index 281 (.agg #[.bool false, .bool b1, .bool b2, .bool b3]) (.int .i64 0)).run Tryz.prog W = .ok (.bool false) W := fun _ => by kernel_rfl
        have i1 : ∀ W, (Instr.index 281 (.agg #[.bool false, .bool b1, .bool b2, .bool b3]) (.int .i64 1)).run Tryz.prog W = .ok (.bool b1) W := fun _ => by kernel_rfl
        have i2 : ∀ W, (Instr.index 281 (.agg #[.bool false, .bool b1, .bool b2, .bool b3]) (.int .i64 2)).run Tryz.prog W = .ok (.bool b2) W := fun _ => by kernel_rfl
        have i3 : ∀ W, (Instr.index 281 (.agg #[.bool false, .bool b1, .bool b2, .bool b3]) (.int .i64 3)).run Tryz.prog W = .ok (.bool b3) W := fun _ => by kernel_rfl
        have hfin : Hid ((b1 = true -> k = 1) -> (b2 = true -> k = 2) -> (b3 = true -> k = 3) -> E = if 1048576 < t.size \/ 4096 < l.length then 4 else 0) := fun h1 h2 h3 => by
          rw [HS.out, if_pos]
          rw [<- HB1.out] at h1
          rw [<- HB2.out] at h2
          rw [<- HB3.out] at h3
          simp only [bne_iff_ne, Bool.not_eq_true', List.isEmpty_eq_false_iff, decide_eq_true_eq] at h1 h2 h3
          exact (own_valid hk1' hk3').2 ⟨h1, h2, h3⟩
        have hbad : Hid ((b1 = true /\ k ≠ 1) \/ (b2 = true /\ k ≠ 2) \/ (b3 = true /\ k ≠ 3) -> E = 8) := fun h => by
          rw [HS.out, if_neg]
          rw [<- HB1.out, <- HB2.out, <- HB3.out] at h
          simp only [bne_iff_ne, Bool.not_eq_true', List.isEmpty_eq_false_iff, decide_eq_true_eq] at h
          intro hv
          obtain ⟨g1, g2, g3⟩ := (own_valid hk1' hk3').1 hv
          rcases h with ⟨a1, a2⟩ | ⟨a1, a2⟩ | ⟨a1, a2⟩
          · exact a2 (g1 a1)
          · exact a2 (g2 a1)
          · exact a2 (g3 a1)
        go_loopw [26] (fun i wr => ∃ (j : Nat), i = .int .i64 j /\ j <= 4 /\ OwnR k b1 b2 b3 j /\ wr = (w.alloc (.cells #[.int .i64 k, .int .i64 nn, .string t, .slice a l.length c] 24)).alloc (.cells #[.bool false, .bool b1, .bool b2, .bool b3] 281)) (fun i _ => 4 - (intOf i).toNat)
        case atStart => exact ⟨0, rfl, by omega, ⟨fun h => by omega, fun h => by omega, fun h => by omega⟩, rfl⟩
        case round =>
          obtain ⟨j, rfl, hj, hx, rfl⟩ := hrel
          rcases (show j = 0 \/ j = 1 \/ j = 2 \/ j = 3 \/ j = 4 by omega) with rfl | rfl | rfl | rfl | rfl
          · have hn : OwnR k b1 b2 b3 1 := ⟨fun h => by omega, fun h => by omega, fun h => by omega⟩
            go_wp2
            go_roundw
            case rel => exact ⟨1, rfl, by omega, hn, trivial⟩
            case measure => simp [intOf]
          · cases b1 with
            | false =>
              have hn : OwnR k false b2 b3 2 := ⟨(fun _ h => by cases h), fun h => by omega, fun h => by omega⟩
              go_wp2
              go_roundw
              case rel => exact ⟨2, rfl, by omega, hn, trivial⟩
              case measure => simp [intOf]
            | true =>
              by_cases e : k = 1
              · have hn : OwnR k true b2 b3 2 := ⟨fun _ _ => e, fun h => by omega, fun h => by omega⟩
                have dn : ((1 : Int) != k) = false := by simp [e]
                clear e
                go_wp2
                go_roundw
                case rel => exact ⟨2, rfl, by omega, hn, trivial⟩
                case measure => simp [intOf]
              · have dn : ((1 : Int) != k) = true := by simp; omega
                have HX : Hid (E = 8) := hbad.out (.inl ⟨rfl, e⟩)
                clear e
                go_wp2
                go_ret
                exact ⟨by rw [HX.out]; rfl, ((Below.refl _ _).alloc (Nat.le_refl _) _).alloc (by simp) _⟩
          · have h1 := hx.1 (by omega)
            have H1 := hiq h1
            clear h1
            cases b2 with
            | false =>
              have hn : OwnR k b1 false b3 3 := ⟨fun _ => H1.out, (fun _ h => by cases h), fun h => by omega⟩
              go_wp2
              go_roundw
              case rel => exact ⟨3, rfl, by omega, hn, trivial⟩
              case measure => simp [intOf]
            | true =>
              by_cases e : k = 2
              · have hn : OwnR k b1 true b3 3 := ⟨fun _ => H1.out, fun _ _ => e, fun h => by omega⟩
                have dn : ((2 : Int) != k) = false := by simp [e]
                clear e
                go_wp2
                go_roundw
                case rel => exact ⟨3, rfl, by omega, hn, trivial⟩
                case measure => simp [intOf]
              · have dn : ((2 : Int) != k) = true := by simp; omega
                have HX : Hid (E = 8) := hbad.out (.inr (.inl ⟨rfl, e⟩))
                clear e
                go_wp2
                go_ret
                exact ⟨by rw [HX.out]; rfl, ((Below.refl _ _).alloc (Nat.le_refl _) _).alloc (by simp) _⟩
          · have h1 := hx.1 (by omega)
            have h2 := hx.2.1 (by omega)
            have H1 := hiq h1
            have H2 := hiq h2
            clear h1 h2
            cases b3 with
            | false =>
              have hn : OwnR k b1 b2 false 4 := ⟨fun _ => H1.out, fun _ => H2.out, (fun _ h => by cases h)⟩
              go_wp2
              go_roundw
              case rel => exact ⟨4, rfl, by omega, hn, trivial⟩
              case measure => simp [intOf]
            | true =>
              by_cases e : k = 3
              · have hn : OwnR k b1 b2 true 4 := ⟨fun _ => H1.out, fun _ => H2.out, fun _ _ => e⟩
                have dn : ((3 : Int) != k) = false := by simp [e]
                clear e
                go_wp2
                go_roundw
                case rel => exact ⟨4, rfl, by omega, hn, trivial⟩
                case measure => simp [intOf]
              · have dn : ((3 : Int) != k) = true := by simp; omega
                have HX : Hid (E = 8) := hbad.out (.inr (.inr ⟨rfl, e⟩))
                clear e
                go_wp2
                go_ret
                exact ⟨by rw [HX.out]; rfl, ((Below.refl _ _).alloc (Nat.le_refl _) _).alloc (by simp) _⟩
          · have HX : Hid (E = if 1048576 < t.size \/ 4096 < l.length then 4 else 0) := hfin.out (hx.1 (by omega)) (hx.2.1 (by omega)) (hx.2.2 (by omega))
            go_wp2
            all_goals
              go_ret
              exact ⟨by rw [HX.out]; first | (rw [if_pos (by omega)]; rfl) | (rw [if_neg (by omega)]; rfl), ((Below.refl _ _).alloc (Nat.le_refl _) _).alloc (by simp) _⟩
end Go.Proofs.YtlbcmeebcfalpaaGreatDoor
namespace Go.Proofs.YtlbcmeebcfalpaaGreatDoor
open Go.RowKit

def mgot (o : Option Int) : Int := o.getD 0
def mbad (o : Option Int) : Bool := o.isNone
/-- One item more. -/
def mstep (n : Nat) (most : Int) (s : Option Int) (u : V) : Option Int := s.bind fun size => (measR n (most - size) u).bind fun k => some (size + k)
theorem measR_succ (n : Nat) (most : Int) (v : V) : measR (n + 1) most v = if most < 1 then none else if v.kind = 3 then v.items.foldl (mstep n most) (some 1) else some 1 := rfl
theorem measR_le {n : Nat} {most : Int} {v : V} {k : Int} (h : measR n most v = some k) : 1 <= k /\ k <= most := by
  rw [measR_eq] at h
  cases hc : cntD n v with
  | none => rw [hc] at h; cases h
  | some c =>
    rw [hc] at h
    have := cntD_pos n v c hc
    simp only at h
    split at h
    · cases h; omega
    · cases h
theorem mstep_none (n : Nat) (most : Int) : ∀ l : List V, l.foldl (mstep n most) none = none
  | [] => rfl
  | _ :: l => mstep_none n most l
theorem measure_ref : ∀ (n : Nat) (S : Nat -> Prop) (v : Vl) (w : World) (most : Int), n <= 64 -> -65536 <= most -> most <= 65536 -> Rd S w v ->
    Calls Tryz.prog 74 #[v.val, .int .i64 n, .int .i64 most] w fun e w' => e = .returned (.tuple #[.int .i64 (mgot (measR n most v.er)), .bool (mbad (measR n most v.er))]) /\ Below w.heap.size w w'
  | 0, S, .mk k nn t a c l, w, most, _, _, _, h => by
    change Calls _ _ #[.agg #[.int .i64 k, .int .i64 nn, .string t, .slice a l.length c], _, _] _ _
    go_enter Tryz.func74, Tryz.ntmps74
    go_wp2
    go_ret2
    exact ⟨rfl, (Below.refl _ _).alloc (Nat.le_refl _) _⟩
  | n + 1, S, .mk k nn t a c l, w, most, hn, hm0, hm1, h => by
    have IH := hiq (measure_ref n)
    have hB := boxed S w _ h
    have hE : Hid (measR (n + 1) most (Vl.mk k nn t a c l).er = if most < 1 then none else if k = 3 then (l.map Vl.er).foldl (mstep n most) (some 1) else some 1) := by show _ = _; rw [measR_succ, Vl.er_items, Vl.er_kind]; rfl
    have hL := hB.rd.vals.2.2.1
    have hBE := hB.below
    have hlt := hB.lt
    change l.length * 56 <= _ at hL
    change Boxed S w (w.alloc (.cells #[.int .i64 k, .int .i64 nn, .string t, .slice a l.length c] 24)) _ _ at hB
    change Below _ w (w.alloc (.cells #[.int .i64 k, .int .i64 nn, .string t, .slice a l.length c] 24)) at hBE
    change w.heap.size <= (w.alloc (.cells #[.int .i64 k, .int .i64 nn, .string t, .slice a l.length c] 24)).heap.size at hlt
    change Calls _ _ #[.agg #[.int .i64 k, .int .i64 nn, .string t, .slice a l.length c], _, _] _ _
    obtain ⟨N, hN⟩ : ∃ N : Nat, N = n + 1 := ⟨_, rfl⟩
    rw [<- hN]
    rw [<- hN] at hE
    have HN1 : Hid ((n : Int) = (N : Int) - 1) := by show _ = _; omega
    have hNlo : 1 <= N := by omega
    have hNhi : N <= 64 := by omega
    have hnn : n <= 64 := by omega
    clear hN
    generalize hM : measR N most (Vl.mk k nn t a c l).er = M at *
    clear hM
    by_cases hm : most < 1
    · have HX : Hid (M = none) := by show _ = _; rw [hE.out, if_pos hm]
      go_enter Tryz.func74, Tryz.ntmps74
      go_wp2
      go_ret2
      exact ⟨by rw [HX.out]; rfl, hBE⟩
    · have hm' : 1 <= most := by omega
      have dm : decide (most < 1) = false := by simp; omega
      by_cases hk : k = 3
      · subst hk
        have HX : Hid (M = (l.map Vl.er).foldl (mstep n most) (some 1)) := by show _ = _; rw [hE.out, if_neg hm, if_pos rfl]
        clear hE hm
        go_enter Tryz.func74, Tryz.ntmps74
        go_wp2
        generalize w.alloc (.cells #[.int .i64 3, .int .i64 nn, .string t, .slice a l.length c] 24) = W1 at *
        go_loopw [9, 8] (fun i s wr => ∃ (j : Nat) (x : Int), i = .int .i64 j /\ s = .int .i64 x /\ j <= l.length /\ Hid (((l.map Vl.er).take j).foldl (mstep n most) (some 1) = some x) /\ 1 <= x /\ x <= most /\ Below W1.heap.size W1 wr) (fun i _ _ => l.length - (intOf i).toNat)
        case atStart => exact ⟨0, 1, rfl, rfl, Nat.zero_le _, rfl, by omega, by omega, Below.refl _ _⟩
        case round =>
          obtain ⟨j, x, rfl, rfl, hj, hx, hx1, hx2, hb⟩ := hrel
          have hBr := hB.later hb
          obtain ⟨k1, -, -, k4⟩ := hBr.at_
          change wr.cell? ⟨w.heap.size, 3, none⟩ = some (.slice a l.length c) at k4
          change wr.cell? ⟨w.heap.size, 0, none⟩ = some (.int .i64 3) at k1
          by_cases hlj : j < l.length
          · obtain ⟨u, bb, off, hu, -, ea, -, -, ⟨c1, c2, c3, c4⟩, hru⟩ := hBr.rd.vals.get hlj
            change a = _ at ea
            change l[j]? = _ at hu
            subst ea
            have hst : ((l.map Vl.er).take (j + 1)).foldl (mstep n most) (some 1) = (measR n (most - x) u.er).bind fun k => some (x + k) := by
              rw [take_er hu, List.foldl_append, hx.out]; rfl
            have HF := IH.out S u wr (most - x) hnn (by omega) (by omega) hru
            rw [HN1.out] at HF
            have sw : IntKind.i64.wrap (most - x) = most - x := IntWalk.i64_in _ (by omega)
            cases hl : measR n (most - x) u.er with
            | none =>
              rw [hl] at HF hst
              have hfin : Hid (M = none) := by
                show _ = _
                rw [HX.out, <- List.take_append_drop (j + 1) (l.map Vl.er), List.foldl_append, hst]
                exact mstep_none _ _ _
              replace HF := hiq HF
              obtain ⟨uk, un, ut, ua, uc, ul⟩ := u
              dsimp only [Vl.kind, Vl.num, Vl.text, Vl.sl, Vl.addr, Vl.items, Vl.cap] at c1 c2 c3 c4
              dsimp only [Vl.val, Vl.cells, Vl.kind, Vl.num, Vl.text, Vl.sl, Vl.addr, Vl.items, Vl.cap, mgot, mbad, Option.getD, Option.isNone] at HF
              clear hx hru hu hl hst
              go_wp2_with (go_at_call 74; refine HF.out.mono ?_; rintro e w' ⟨rfl, hb'⟩)
              go_ret2
              exact ⟨by rw [hfin.out]; rfl, hBE.trans ((hb.trans (hb'.mono hb.size)).mono hlt)⟩
            | some y =>
              obtain ⟨y1, y2⟩ := measR_le hl
              rw [hl] at HF hst
              have hst2 : Hid (((l.map Vl.er).take (j + 1)).foldl (mstep n most) (some 1) = some (x + y)) := hst
              replace HF := hiq HF
              obtain ⟨uk, un, ut, ua, uc, ul⟩ := u
              dsimp only [Vl.kind, Vl.num, Vl.text, Vl.sl, Vl.addr, Vl.items, Vl.cap] at c1 c2 c3 c4
              dsimp only [Vl.val, Vl.cells, Vl.kind, Vl.num, Vl.text, Vl.sl, Vl.addr, Vl.items, Vl.cap, mgot, mbad, Option.getD, Option.isNone] at HF
              have sw2 : IntKind.i64.wrap (x + y) = x + y := IntWalk.i64_in _ (by omega)
              clear hx hru hu hl hst
              go_wp2_with (go_at_call 74; refine HF.out.mono ?_; rintro e w' ⟨rfl, hb'⟩)
              go_roundw
              case rel => exact ⟨j + 1, x + y, by go_num, rfl, by omega, hst2.out, by omega, by omega, hb.trans (hb'.mono hb.size)⟩
              case measure => simp [intOf]; omega
          · obtain rfl : j = l.length := by omega
            have hfin : Hid (M = some x) := by
              show _ = _
              rw [HX.out, <- hx.out, List.take_of_length_le (by simp)]
            clear hx
            go_wp2
            go_ret2
            exact ⟨by rw [hfin.out]; rfl, hBE.trans (hb.mono hlt)⟩
      · have HX : Hid (M = some 1) := by show _ = _; rw [hE.out, if_neg hm, if_neg hk]
        have dk : ((k : Int) == 3) = false := by simp; omega
        obtain ⟨-, -, -, k4⟩ := hB.at_
        clear hE hm hk
        go_enter Tryz.func74, Tryz.ntmps74
        go_wp2
        generalize w.alloc (.cells #[.int .i64 k, .int .i64 nn, .string t, .slice a l.length c] 24) = W1 at *
        change W1.cell? ⟨w.heap.size, 3, none⟩ = some (.slice a l.length c) at k4
        obtain ⟨k1, -, -, -⟩ := hB.at_
        change W1.cell? ⟨w.heap.size, 0, none⟩ = some (.int .i64 k) at k1
        go_loopw [9, 8] (fun i s wr => i = .int .i64 0 /\ s = .int .i64 1 /\ wr = W1) (fun i _ _ => 1)
        case atStart => exact ⟨rfl, rfl, rfl⟩
        case round =>
          obtain ⟨rfl, rfl, rfl⟩ := hrel
          by_cases hl0 : 0 < l.length
          · go_wp2
            go_ret2
            exact ⟨by rw [HX.out]; rfl, hBE⟩
          · go_wp2
            go_ret2
            exact ⟨by rw [HX.out]; rfl, hBE⟩
end Go.Proofs.YtlbcmeebcfalpaaGreatDoor
namespace Go.Proofs.YtlbcmeebcfalpaaGreatDoor
open Go.RowKit

theorem firstE_no {l : List Vl} {j : Nat} {u : Vl} (hu : l[j]? = some u) (h : firstE (((l.map Vl.er).take j).map allV) = 0) (h0 : allV u.er = 0) : firstE (((l.map Vl.er).take (j + 1)).map allV) = 0 := by
  rw [take_er hu, List.map_append, firstE_append, h]; simp [firstE, h0]
theorem firstE_yes {l : List Vl} {j : Nat} {u : Vl} (hu : l[j]? = some u) (h : firstE (((l.map Vl.er).take j).map allV) = 0) (h0 : allV u.er ≠ 0) : firstE ((l.map Vl.er).map allV) = allV u.er := by
  rw [<- List.take_append_drop (j + 1) (l.map Vl.er), List.map_append, firstE_append, take_er hu, List.map_append, firstE_append, h]
  simp [firstE, h0]
theorem all_ref (v : Vl) : ∀ (S : Nat -> Prop) (w : World), Rd S w v ->
    Calls Tryz.prog 75 #[v.val] w fun e w' => e = .returned (.int .i64 (allV v.er)) /\ Below w.heap.size w w' := by
  induction v using Vl.ind with
  | h v ih =>
    intro S w h
    obtain ⟨k, nn, t, a, c, l⟩ := v
    change ∀ u ∈ l, _ at ih
    have IH := hiq ih
    clear ih
    have hB := boxed S w _ h
    have hE : Hid (allV (Vl.mk k nn t a c l).er = if singV (Vl.mk k nn t a c l).er ≠ 0 then singV (Vl.mk k nn t a c l).er else firstE ((l.map Vl.er).map allV)) := by show _ = _; rw [allV_eq, Vl.er_items]; rfl
    have F := single_any S (Vl.mk k nn t a c l) _ hB.rd
    have hL := hB.rd.vals.2.2.1
    have hBE := hB.below
    have hlt := hB.lt
    change l.length * 56 <= _ at hL
    change Boxed S w (w.alloc (.cells #[.int .i64 k, .int .i64 nn, .string t, .slice a l.length c] 24)) _ _ at hB
    change Below _ w (w.alloc (.cells #[.int .i64 k, .int .i64 nn, .string t, .slice a l.length c] 24)) at hBE
    change w.heap.size <= (w.alloc (.cells #[.int .i64 k, .int .i64 nn, .string t, .slice a l.length c] 24)).heap.size at hlt
    change Calls _ _ #[.agg #[.int .i64 k, .int .i64 nn, .string t, .slice a l.length c]] (w.alloc (.cells #[.int .i64 k, .int .i64 nn, .string t, .slice a l.length c] 24)) _ at F
    change Calls _ _ #[.agg #[.int .i64 k, .int .i64 nn, .string t, .slice a l.length c]] _ _
    have HF := hiq F
    dsimp only [Vl.val, Vl.cells, Vl.kind, Vl.num, Vl.text, Vl.sl, Vl.addr, Vl.items, Vl.cap] at HF
    clear F
    generalize hM : allV (Vl.mk k nn t a c l).er = M at *
    clear hM
    generalize hG : singV (Vl.mk k nn t a c l).er = G at *
    clear hG
    by_cases hg : G = 0
    · subst hg
      have HX : Hid (M = firstE ((l.map Vl.er).map allV)) := by show _ = _; rw [hE.out, if_neg (by simp)]
      clear hE
      go_enter Tryz.func75, Tryz.ntmps75
      go_wp2_with fail
      generalize w.alloc (.cells #[.int .i64 k, .int .i64 nn, .string t, .slice a l.length c] 24) = W1 at *
      refine HF.out.mono ?_
      rintro e W2 ⟨rfl, hb2⟩
      have hB2 := hB.later hb2
      have hlt2 := hB2.lt
      have hBE2 := hB2.below
      clear HF hb2 hB hBE hlt
      go_wp2
      go_loopw [4] (fun i wr => ∃ (j : Nat), i = .int .i64 j /\ j <= l.length /\ Hid (firstE (((l.map Vl.er).take j).map allV) = 0) /\ Below W2.heap.size W2 wr) (fun i _ => l.length - (intOf i).toNat)
      case atStart => exact ⟨0, rfl, Nat.zero_le _, rfl, Below.refl _ _⟩
      case round =>
        obtain ⟨j, rfl, hj, hx, hb⟩ := hrel
        have hBr := hB2.later hb
        obtain ⟨-, -, -, k4⟩ := hBr.at_
        change wr.cell? ⟨w.heap.size, 3, none⟩ = some (.slice a l.length c) at k4
        by_cases hlj : j < l.length
        · obtain ⟨u, bb, off, hu, hmem, ea, -, -, ⟨c1, c2, c3, c4⟩, hru⟩ := hBr.rd.vals.get hlj
          change a = _ at ea
          change l[j]? = _ at hu
          change u ∈ l at hmem
          subst ea
          have HF := IH.out u hmem S wr hru
          by_cases h0 : allV u.er = 0
          · rw [h0] at HF
            have hst := hiq (firstE_no hu hx.out h0)
            replace HF := hiq HF
            obtain ⟨uk, un, ut, ua, uc, ul⟩ := u
            dsimp only [Vl.kind, Vl.num, Vl.text, Vl.sl, Vl.addr, Vl.items, Vl.cap] at c1 c2 c3 c4
            dsimp only [Vl.val, Vl.cells, Vl.kind, Vl.num, Vl.text, Vl.sl, Vl.addr, Vl.items, Vl.cap] at HF
            clear hx hru hu h0 hmem
            go_wp2_with (go_at_call 75; refine HF.out.mono ?_; rintro e w' ⟨rfl, hb'⟩)
            go_roundw
            case rel => exact ⟨j + 1, by go_num, by omega, hst.out, hb.trans (hb'.mono hb.size)⟩
            case measure => simp [intOf]; omega
          · have hst : Hid (M = allV u.er) := by show _ = _; rw [HX.out, firstE_yes hu hx.out h0]
            generalize allV u.er = Q at *
            have dq : ((Q : Int) != 0) = true := by simp [h0]
            replace HF := hiq HF
            obtain ⟨uk, un, ut, ua, uc, ul⟩ := u
            dsimp only [Vl.kind, Vl.num, Vl.text, Vl.sl, Vl.addr, Vl.items, Vl.cap] at c1 c2 c3 c4
            dsimp only [Vl.val, Vl.cells, Vl.kind, Vl.num, Vl.text, Vl.sl, Vl.addr, Vl.items, Vl.cap] at HF
            clear hx hru hu h0 hmem
            go_wp2_with (go_at_call 75; refine HF.out.mono ?_; rintro e w' ⟨rfl, hb'⟩)
            go_ret
            exact ⟨by rw [hst.out]; rfl, hBE2.trans ((hb.trans (hb'.mono hb.size)).mono hlt2)⟩
        · obtain rfl : j = l.length := by omega
          have hst : Hid (M = 0) := by
            show _ = _
            have := hx.out
            rw [List.take_of_length_le (by simp)] at this
            rw [HX.out, this]
          clear hx
          go_wp2
          go_ret
          exact ⟨by rw [hst.out]; rfl, hBE2.trans (hb.mono hlt2)⟩
    · have HX : Hid (M = G) := by show _ = _; rw [hE.out, if_pos hg]
      have dg : ((G : Int) != 0) = true := by simp [hg]
      clear hE hg
      go_enter Tryz.func75, Tryz.ntmps75
      go_wp2_with fail
      generalize w.alloc (.cells #[.int .i64 k, .int .i64 nn, .string t, .slice a l.length c] 24) = W1 at *
      refine HF.out.mono ?_
      rintro e W2 ⟨rfl, hb2⟩
      go_wp2
      go_ret
      exact ⟨by rw [HX.out]; rfl, hBE.trans (hb2.mono hlt)⟩

theorem check_ref (S : Nat -> Prop) : ∀ (v : Vl) (w : World), Rd S w v ->
    Calls Tryz.prog 34 #[v.val] w fun e w' => e = .returned (.int .i64 (chkV v.er)) /\ Below w.heap.size w w'
  | .mk k nn t a c l, w, h => by
    have hB := boxed S w _ h
    have F := measure_ref 64 S (Vl.mk k nn t a c l) _ 65536 (by omega) (by omega) (by omega) hB.rd
    have hBE := hB.below
    have hlt := hB.lt
    have hE : Hid (chkV (Vl.mk k nn t a c l).er = if measR 64 65536 (Vl.mk k nn t a c l).er = none then 4 else allV (Vl.mk k nn t a c l).er) := rfl
    have A1 : Hid (∀ W, Below (w.alloc (.cells (Vl.mk k nn t a c l).cells 24)).heap.size (w.alloc (.cells (Vl.mk k nn t a c l).cells 24)) W -> Calls Tryz.prog 75 #[.agg #[.int .i64 k, .int .i64 nn, .string t, .slice a l.length c]] W fun e w' => e = .returned (.int .i64 (allV (Vl.mk k nn t a c l).er)) /\ Below W.heap.size W w') := fun W hb => all_ref (Vl.mk k nn t a c l) S W (hB.later hb).rd
    change Hid (∀ W, Below (w.alloc (.cells #[.int .i64 k, .int .i64 nn, .string t, .slice a l.length c] 24)).heap.size (w.alloc (.cells #[.int .i64 k, .int .i64 nn, .string t, .slice a l.length c] 24)) W -> _) at A1
    change Boxed S w (w.alloc (.cells #[.int .i64 k, .int .i64 nn, .string t, .slice a l.length c] 24)) _ _ at hB
    change Below _ w (w.alloc (.cells #[.int .i64 k, .int .i64 nn, .string t, .slice a l.length c] 24)) at hBE
    change w.heap.size <= (w.alloc (.cells #[.int .i64 k, .int .i64 nn, .string t, .slice a l.length c] 24)).heap.size at hlt
    change Calls _ _ #[.agg #[.int .i64 k, .int .i64 nn, .string t, .slice a l.length c], _, _] (w.alloc (.cells #[.int .i64 k, .int .i64 nn, .string t, .slice a l.length c] 24)) _ at F
    change Calls _ _ #[.agg #[.int .i64 k, .int .i64 nn, .string t, .slice a l.length c]] _ _
    generalize measR 64 65536 (Vl.mk k nn t a c l).er = M at *
    generalize allV (Vl.mk k nn t a c l).er = Q at *
    generalize chkV (Vl.mk k nn t a c l).er = R at *
    cases M with
    | none =>
      have HX : Hid (R = 4) := by show _ = _; rw [hE.out, if_pos rfl]
      have HF := hiq F
      dsimp only [mgot, mbad, Option.getD, Option.isNone, Vl.val, Vl.cells, Vl.kind, Vl.num, Vl.text, Vl.sl, Vl.addr, Vl.items, Vl.cap] at HF
      clear F hE
      go_enter Tryz.func34, Tryz.ntmps34
      go_wp2_with fail
      generalize w.alloc (.cells #[.int .i64 k, .int .i64 nn, .string t, .slice a l.length c] 24) = W1 at *
      refine HF.out.mono ?_
      rintro e W2 ⟨rfl, hb2⟩
      go_wp2
      go_ret
      exact ⟨by rw [HX.out]; rfl, hBE.trans (hb2.mono hlt)⟩
    | some y =>
      have HX : Hid (R = Q) := by show _ = _; rw [hE.out, if_neg (by simp)]
      have HF := hiq F
      dsimp only [mgot, mbad, Option.getD, Option.isNone, Vl.val, Vl.cells, Vl.kind, Vl.num, Vl.text, Vl.sl, Vl.addr, Vl.items, Vl.cap] at HF
      clear F hE
      go_enter Tryz.func34, Tryz.ntmps34
      go_wp2_with fail
      generalize w.alloc (.cells #[.int .i64 k, .int .i64 nn, .string t, .slice a l.length c] 24) = W1 at *
      refine HF.out.mono ?_
      rintro e W2 ⟨rfl, hb2⟩
      have hB2 := hB.later hb2
      obtain ⟨c1, c2, c3, c4⟩ := hB2.at_
      change W2.cell? ⟨w.heap.size, 0, none⟩ = some (.int .i64 k) at c1
      change W2.cell? ⟨w.heap.size, 1, none⟩ = some (.int .i64 nn) at c2
      change W2.cell? ⟨w.heap.size, 2, none⟩ = some (.string t) at c3
      change W2.cell? ⟨w.heap.size, 3, none⟩ = some (.slice a l.length c) at c4
      have A2 := hiq (A1.out W2 hb2)
      clear A1 hb2
      go_wp2_with (go_at_call 75; refine A2.out.mono ?_; rintro e W3 ⟨rfl, hb3⟩)
      go_ret
      exact ⟨by rw [HX.out]; rfl, hB2.below.trans (hb3.mono hB2.lt)⟩
end Go.Proofs.YtlbcmeebcfalpaaGreatDoor
namespace Go.Proofs.YtlbcmeebcfalpaaGreatDoor
open Go.RowKit Go.Shelf

/-- The library's variables lie below B. -/
def EnvB (B : Nat) (w : World) : Prop := ∃ w0, Env w0 /\ w0.heap.size <= B /\ Below w0.heap.size w0 w
theorem EnvB.env {B : Nat} {w : World} (h : EnvB B w) : Env w := by obtain ⟨w0, h1, _, h3⟩ := h; exact h1.below h3
theorem EnvB.below {B : Nat} {w w' : World} (h : EnvB B w) (hb : Below B w w') : EnvB B w' := by obtain ⟨w0, h1, h2, h3⟩ := h; exact ⟨w0, h1, h2, h3.trans (hb.mono h2)⟩
theorem EnvB.of {w : World} (h : Env w) : EnvB w.heap.size w := ⟨w, h, Nat.le_refl _, Below.refl _ _⟩
theorem EnvB.mono {B B' : Nat} {w : World} (h : EnvB B w) (hB : B <= B') : EnvB B' w := by obtain ⟨w0, h1, h2, h3⟩ := h; exact ⟨w0, h1, by omega, h3⟩
theorem KeepS.belowB {S : Nat -> Prop} {B : Nat} {w w' : World} (hb : Below B w w') (hw : w.heap.size <= w'.heap.size) (hS : ∀ b, S b -> b < B) : KeepS S w w' :=
  ⟨hw, fun b cs t fr hs h => by rw [hb.block b (hS b hs)]; exact h⟩
theorem cell_lit1 (w : World) (x : Value) (t : TypeId) {k : Nat} (hk : k = w.heap.size) : (w.alloc (.cells #[x] t)).cell? ⟨k, 0, none⟩ = some x := by
  subst hk; simp [World.cell?_alloc_at]

end Go.Proofs.YtlbcmeebcfalpaaGreatDoor

namespace Go.Proofs.YtlbcmeebcfalpaaGreatDoor
open Go.RowKit Go.Shelf

end Go.Proofs.YtlbcmeebcfalpaaGreatDoor

namespace Go.Proofs.YtlbcmeebcfalpaaGreatDoor
open Go.RowKit Go.Shelf

/-- What Encode answers: the string, and the error. -/
def encB (v : V) : List UInt8 := if chkV v = 0 /\ (encV v).length <= 1048576 then encV v else []
def encE (v : V) : Int := if chkV v ≠ 0 then chkV v else if 1048576 < (encV v).length then 4 else 0
theorem chkV_good {v : V} (h : chkV v = 0) : GoodD 64 v := by
  unfold chkV at h
  have hm := measR_eq 64 65536 v
  split at h
  · cases h
  · rename_i hn
    refine ⟨fun e => hn (by rw [hm, e]), h⟩
end Go.Proofs.YtlbcmeebcfalpaaGreatDoor
namespace Go.Proofs.YtlbcmeebcfalpaaGreatDoor
open Go.RowKit

theorem parseUint10_snoc : ∀ (l : List UInt8) (acc a : Nat) (c : UInt8), Lib.parseUint10 acc l = .ok a -> Lib.parseUint10 acc (l ++ [c]) = Lib.parseUint10 a [c]
  | [], acc, a, c, h => by simp only [Lib.parseUint10] at h; injection h with h; subst h; rfl
  | b :: l, acc, a, c, h => by
    rw [Lib.parseUint10] at h
    rw [List.cons_append, Lib.parseUint10]
    split
    · rename_i h1
      rw [if_pos h1] at h
      split
      · rename_i h2; rw [if_pos h2] at h; cases h
      · rename_i h2
        rw [if_neg h2] at h
        split
        · rename_i h3; rw [if_pos h3] at h; cases h
        · rename_i h3; rw [if_neg h3] at h; exact parseUint10_snoc l _ a c h
    · rename_i h1; rw [if_neg h1] at h; cases h
theorem digit_nat {d : Nat} (h : d < 10) : (UInt8.ofNat (48 + d)).toNat = 48 + d := by
  show (48 + d) % 256 = _; omega
theorem parse_dec (u : Nat) : u < 18446744073709551616 -> Lib.parseUint10 0 (Lib.decDigits u) = .ok u := by
  induction u using Nat.strongRecOn with
  | _ u ih =>
    intro hu
    by_cases h : u < 10
    · rw [Lib.decDigits_one h, Lib.parseUint10, digit_nat h, if_pos (by omega), if_neg (by omega), if_neg (by omega), Lib.parseUint10]
      congr 1; omega
    · rw [Lib.decDigits, dif_neg h, parseUint10_snoc _ _ _ _ (ih (u / 10) (by omega) (by omega)), Lib.parseUint10, digit_nat (by omega), if_pos (by omega), if_neg (by omega), if_neg (by omega), Lib.parseUint10]
      congr 1; omega
theorem dec_digits (u : Nat) : ∀ c ∈ Lib.decDigits u, 48 <= c.toNat /\ c.toNat <= 57 := by
  induction u using Nat.strongRecOn with
  | _ u ih =>
    intro c hc
    by_cases h : u < 10
    · rw [Lib.decDigits_one h] at hc
      obtain rfl := List.mem_singleton.1 hc; rw [digit_nat h]; omega
    · rw [Lib.decDigits, dif_neg h] at hc
      rcases List.mem_append.1 hc with hc | hc
      · exact ih (u / 10) (by omega) c hc
      · obtain rfl := List.mem_singleton.1 hc; rw [digit_nat (Nat.mod_lt _ (by omega))]; omega
theorem dec_ne (u : Nat) : Lib.decDigits u ≠ [] := fun h => by
  have := Lib.decDigits_length u
  rw [h] at this
  have := Lib.nDigits_pos u
  simp at *; omega
theorem atoi_itoa (n : Int) (h : I64 n) : Lib.atoiAll (Lib.itoa n) = .ok n := by
  have h1 := h.1
  have h2 := h.2
  unfold Lib.itoa
  split
  · rw [Lib.atoiAll_minus, Lib.parseMag, if_neg (dec_ne _), parse_dec _ (by omega), Lib.signed]
    rw [if_neg (by omega)]
    congr 1; omega
  · have hd := dec_digits n.toNat
    have hp := parse_dec n.toNat (by omega)
    have hn := dec_ne n.toNat
    generalize Lib.decDigits n.toNat = l at *
    cases l with
    | nil => exact absurd rfl hn
    | cons c r =>
      have := hd c (by simp)
      rw [Lib.atoiAll_plain c r (by omega) (by omega), Lib.parseMag, if_neg hn, hp, Lib.signless]
      rw [if_neg (by omega)]
      congr 1; omega
theorem atoiN_itoa (n : Int) (h : I64 n) : atoiN (Lib.itoa n) = n := by rw [atoiN, atoi_itoa n h]
theorem atoiOk_itoa (n : Int) (h : I64 n) : atoiOk (Lib.itoa n) = true := by rw [atoiOk, atoi_itoa n h]
theorem atoiN_i64 (l : List UInt8) : I64 (atoiN l) := by
  unfold atoiN
  rcases h : Lib.atoiAll l with v | _ | _
  · exact Lib.atoiAll_bounds h
  · exact I64.zero
  · simp only [Lib.atoiSat]
    split
    · exact ⟨by decide, by decide⟩
    · exact ⟨by decide, by decide⟩
/-- Where a numeral is its number's own, Atoi reads it. -/
theorem atoiOk_of {l : List UInt8} (h : Lib.itoa (atoiN l) = l) : atoiOk l = true := by
  rw [<- h]; exact atoiOk_itoa _ (atoiN_i64 l)
theorem itoa_bytes (n : Int) : ∀ c ∈ Lib.itoa n, c = 45 \/ (48 <= c.toNat /\ c.toNat <= 57) := by
  intro c hc
  unfold Lib.itoa at hc
  split at hc
  · rcases List.mem_cons.1 hc with rfl | hc
    · exact .inl rfl
    · exact .inr (dec_digits _ c hc)
  · exact .inr (dec_digits _ c hc)
theorem indexByte_at : ∀ (l r : List UInt8) (c : UInt8), c ∉ l -> Lib.indexByte (l ++ c :: r) c = l.length
  | [], r, c, _ => by simp [Lib.indexByte]
  | b :: l, r, c, h => by
    have h1 : (b == c) = false := by
      simp only [beq_eq_false_iff_ne]; intro e; exact h (by simp [e])
    rw [List.cons_append, Lib.indexByte, h1, indexByte_at l r c (fun hm => h (List.mem_cons_of_mem _ hm))]
    have : ((l.length : Int) == -1) = false := by rw [beq_eq_false_iff_ne]; omega
    simp [this]
theorem indexByte_spec : ∀ (l : List UInt8) (c : UInt8), (Lib.indexByte l c = -1 /\ c ∉ l) \/ ∃ i : Nat, Lib.indexByte l c = i /\ i < l.length /\ l[i]? = some c /\ c ∉ l.take i
  | [], c => .inl ⟨rfl, by simp⟩
  | b :: l, c => by
    by_cases h : b = c
    · subst h
      exact .inr ⟨0, by simp [Lib.indexByte], by simp, by simp, by simp⟩
    · have h1 : (b == c) = false := by simp [h]
      rw [Lib.indexByte, h1]
      rcases indexByte_spec l c with ⟨e, hn⟩ | ⟨i, e, hi, hl, hn⟩
      · refine .inl ⟨by rw [e]; rfl, ?_⟩
        simp only [List.mem_cons, not_or]; exact ⟨fun e => h e.symm, hn⟩
      · refine .inr ⟨i + 1, ?_, by simp; omega, by simpa using hl, ?_⟩
        · have : ((i : Int) == -1) = false := by rw [beq_eq_false_iff_ne]; omega
          rw [e, this]; simp
        · rw [List.take_succ_cons]; simp only [List.mem_cons, not_or]; exact ⟨fun e => h e.symm, hn⟩

/-- The number at the head of a string, up to a byte, and the rest. -/
def numP (e : UInt8) (s : List UInt8) : Option (Int × List UInt8) :=
  if Lib.indexByte (s.take 24) e < 0 then none
  else if Lib.itoa (atoiN (s.take (Lib.indexByte (s.take 24) e).toNat)) = s.take (Lib.indexByte (s.take 24) e).toNat then
    some (atoiN (s.take (Lib.indexByte (s.take 24) e).toNat), s.drop ((Lib.indexByte (s.take 24) e).toNat + 1)) else none
theorem numP_iff (e : UInt8) (he : e ≠ 45 /\ (e.toNat < 48 \/ 57 < e.toNat)) (s r : List UInt8) (n : Int) : numP e s = some (n, r) ↔ I64 n /\ s = Lib.itoa n ++ e :: r := by
  have hno : ∀ m, e ∉ Lib.itoa m := fun m hm => by
    rcases itoa_bytes m e hm with h | h
    · exact he.1 h
    · omega
  constructor
  · intro h
    unfold numP at h
    split at h
    · cases h
    · rename_i h0
      rcases indexByte_spec (s.take 24) e with ⟨h1, _⟩ | ⟨i, h1, h2, h3, h4⟩
      · rw [h1] at h0; omega
      · rw [h1] at h
        simp only [Int.toNat_natCast] at h
        split at h
        · rename_i h5
          injection h with h
          injection h with hn hr
          subst hn
          refine ⟨atoiN_i64 _, ?_⟩
          rw [h5, <- hr]
          rw [List.length_take] at h2
          have hi : i < s.length := by omega
          have : s[i]? = some e := by rw [List.getElem?_take_of_lt (by omega)] at h3; exact h3
          have h6 : s.drop i = e :: s.drop (i + 1) := by
            rw [List.drop_eq_getElem_cons hi]
            rw [List.getElem?_eq_getElem hi] at this
            injection this with this
            rw [this]
          rw [<- h6, List.take_append_drop]
        · cases h
  · rintro ⟨hn, rfl⟩
    have hl := Lib.itoa_length_le n hn.1 hn.2
    have h1 : Lib.indexByte ((Lib.itoa n ++ e :: r).take 24) e = (Lib.itoa n).length := by
      rw [List.take_append, List.take_of_length_le (by omega), show 24 - (Lib.itoa n).length = (23 - (Lib.itoa n).length) + 1 by omega, List.take_succ_cons]
      exact indexByte_at _ _ _ (hno n)
    unfold numP
    rw [h1, if_neg (by omega)]
    simp only [Int.toNat_natCast, List.take_left]
    rw [atoiN_itoa n hn, if_pos rfl]
    simp
/-- The integer or the text at the head of a string, and the rest. -/
def scalP (s : List UInt8) : Option (V × List UInt8) :=
  match s with
  | [] => none
  | c :: s =>
    if c = 105 then (numP 59 s).map fun p => (V.mk 1 p.1 ⟨#[]⟩ [], p.2)
    else if c = 115 then
      match numP 58 s with
      | none => none
      | some (n, r) => if n < 0 \/ (r.length : Int) < n then none else some (V.mk 2 0 ⟨(r.take n.toNat).toArray⟩ [], r.drop n.toNat)
    else none
end Go.Proofs.YtlbcmeebcfalpaaGreatDoor
