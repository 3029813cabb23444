/- Joined: CDecP, IVal, IRdL. -/
import Derived.Test.YtlbcmeebcfalpaaGreatDoorP04
import Derived.Test.YtlbcmeebcfalpaaGreatDoorP06
import Derived.Test.YtlbcmeebcfalpaaGreatDoorP21
import Derived.Test.YtlbcmeebcfalpaaGreatDoorP10
import Derived.Deep.WholeRow
set_option linter.unusedVariables false
set_option linter.unusedSimpArgs false
set_option maxRecDepth 100000
set_option maxHeartbeats 16000000
namespace Go.Proofs.YtlbcmeebcfalpaaGreatDoor
open Go.RowKit

theorem decStep_push {top : List V} {below : List (List V)} {r : List UInt8} (h : ¬ (below = [] /\ top.length = 1)) : decStep top below (108 :: r) = .inr ([], top :: below, r) := by
  unfold decStep
  split
  · exact absurd ⟨rfl, rfl⟩ h
  · rename_i h1; cases h1
  · rename_i h1; cases h1; rfl
theorem decStep_list {top b : List V} {bs : List (List V)} {r : List UInt8} : decStep top (b :: bs) (101 :: r) = .inr (b ++ [.mk 3 0 ⟨#[]⟩ top], bs, r) := by
  rcases top with _ | ⟨x, _ | ⟨y, t⟩⟩ <;> rfl
theorem decStep_leaf {top : List V} {below : List (List V)} {s : List UInt8} (h : ¬ (below = [] /\ top.length = 1)) (hs : ∀ c r, s = c :: r -> c ≠ 108 /\ (c = 101 -> below = [])) : decStep top below s = leafStep top below s := by
  cases s with
  | nil =>
    unfold decStep
    split
    · exact absurd ⟨rfl, rfl⟩ h
    · rfl
    · rename_i h1; cases h1
  | cons c r =>
    obtain ⟨h1, h2⟩ := hs c r rfl
    have key : ∀ (t : List V) (b : List (List V)), (c = 101 -> b = []) -> (if c = 108 then .inr ([], t :: b, r) else if c = 101 then (match b with | [] => leafStep t [] (c :: r) | b0 :: bs => .inr (b0 ++ [V.mk 3 0 ⟨#[]⟩ t], bs, r)) else leafStep t b (c :: r)) = leafStep t b (c :: r) := by
      intro t b hb
      rw [if_neg h1]
      by_cases h3 : c = 101
      · rw [if_pos h3, hb h3]
      · rw [if_neg h3]
    rcases top with _ | ⟨x, _ | ⟨y, t⟩⟩ <;> rcases below with _ | ⟨b, bs⟩
    · exact key [] [] h2
    · exact key [] (b :: bs) h2
    · exact absurd ⟨rfl, rfl⟩ h
    · exact key [x] (b :: bs) h2
    · exact key (x :: y :: t) [] h2
    · exact key (x :: y :: t) (b :: bs) h2
/-- The stack without addresses, the innermost list first. -/
def erB (ll : List (List Vl)) : List (List V) := (ll.map fun l => l.map Vl.er).reverse
/-- What the reading has come to. -/
structure DSt (s0 : ByteArray) (W0 : World) (B : Nat) (s : ByteArray) (a : Option Addr) (n c : Nat) (S : Nat -> Prop) (ll : List (List Vl)) (top : List Vl) (w : World) : Prop where
  own : OwnVV S w B a n c (ll ++ [top])
  low : ∀ b, S b -> B <= b
  to : decR (top.map Vl.er) (erB ll) s.data.toList = decR [] [] s0.data.toList
  deep : ll.length + s.size <= s0.size
  long : ∀ l ∈ ll ++ [top], l.length + s.size <= s0.size
  below : Below B W0 w
/-- What Decode answers. -/
def DecPost (s : ByteArray) (w : World) (e : Ending) (w' : World) : Prop := ∃ (S : Nat -> Prop) (v : Vl), e = .returned (.tuple #[v.val, .int .i64 (decode s.data.toList).2]) /\ v.er = (decode s.data.toList).1 /\ Rd S w' v /\ (∀ b, S b -> w.heap.size <= b /\ b < w'.heap.size) /\ Below w.heap.size w w'
theorem rd_zero (S : Nat -> Prop) (w : World) : Rd S w (mkLeaf 0 0 ⟨#[]⟩) := rd_iff.2 ⟨I64.zero, I64.zero, by show 0 <= _; omega, Vals.nil S w⟩
theorem dec_fail {s : ByteArray} {w w' : World} {k : Int} (h : decode s.data.toList = (zeroV, k)) (hb : Below w.heap.size w w') : DecPost s w (.returned (.tuple #[(mkLeaf 0 0 ⟨#[]⟩).val, .int .i64 k])) w' :=
  ⟨fun _ => False, mkLeaf 0 0 ⟨#[]⟩, by rw [h], by rw [h, leaf_er]; rfl, rd_zero _ _, fun _ h => h.elim, hb⟩
def decFin : Option (V × List UInt8) -> V × Int
  | none => (zeroV, 3)
  | some p => if p.2 = [] then (if chkV p.1 = 0 then (p.1, 0) else (zeroV, 4)) else (zeroV, 3)
theorem decode_of {l : List UInt8} {x : Option (V × List UInt8)} (hl : l.length <= 1048576) (h : x = decR [] [] l) : decode l = decFin x := by
  subst h
  rw [decode, if_neg (by omega)]
  cases decR [] [] l <;> rfl
theorem decFin_nil (v : V) : decFin (some (v, [])) = if chkV v = 0 then (v, 0) else (zeroV, 4) := rfl
theorem decFin_rest {v : V} {r : List UInt8} (h : r ≠ []) : decFin (some (v, r)) = (zeroV, 3) := if_neg h
theorem erB_nil {ll : List (List Vl)} : erB ll = [] ↔ ll = [] := by simp [erB]
theorem erB_snoc (ll : List (List Vl)) (l : List Vl) : erB (ll ++ [l]) = l.map Vl.er :: erB ll := by simp [erB]
section
variable {s0 : ByteArray} {W0 w w' : World} {B n c c' : Nat} {s s' : ByteArray} {a a' : Option Addr} {S S' : Nat -> Prop} {ll : List (List Vl)} {top : List Vl}
theorem len_list {s : ByteArray} {l : List UInt8} (h : s.data.toList = l) : s.size = l.length := (Array.length_toList).symm.trans (congrArg List.length h)
theorem DSt.push (h : DSt s0 W0 B s a n c S ll top w) (hA : ¬ (ll = [] /\ top.length = 1)) {r : List UInt8} (hs : s.data.toList = 108 :: r) (hs' : s'.data.toList = r)
    (ho : OwnVV S w' B a' (n + 1) c' ((ll ++ [top]) ++ [[]])) (hb : Below B W0 w') : DSt s0 W0 B s' a' (n + 1) c' S (ll ++ [top]) [] w' := by
  have z1 := len_list hs
  have z2 := len_list hs'
  rw [List.length_cons] at z1
  have hd := h.deep
  refine ⟨ho, h.low, ?_, by rw [List.length_append, List.length_singleton]; omega, fun l hl => ?_, hb⟩
  · rw [<- h.to, hs, hs', decR_step (top.map Vl.er), decStep_push (by rw [erB_nil]; simpa using hA), erB_snoc]; rfl
  · rcases List.mem_append.1 hl with hl | hl
    · have := h.long l hl; omega
    · rw [List.mem_singleton] at hl; subst hl; simp; omega
theorem DSt.leaf (h : DSt s0 W0 B s a n c S ll top w) (hA : ¬ (ll = [] /\ top.length = 1)) (hs : ∀ ch r, s.data.toList = ch :: r -> ch ≠ 108 /\ (ch = 101 -> ll = [])) {k nn : Int} {t : ByteArray}
    (hp : scalP s.data.toList = some (.mk k nn t [], s'.data.toList))
    (ho : OwnVV S w' B a' n c' (ll ++ [top ++ [mkLeaf k nn t]])) (hb : Below B W0 w') : DSt s0 W0 B s' a' n c' S ll (top ++ [mkLeaf k nn t]) w' := by
  have z1 := scalP_lt hp
  rw [Array.length_toList, Array.length_toList] at z1
  change s'.size < s.size at z1
  have hd := h.deep
  refine ⟨ho, h.low, ?_, by omega, fun l hl => ?_, hb⟩
  · rw [<- h.to, decR_step (top.map Vl.er), decStep_leaf (by rw [erB_nil]; simpa using hA) (by rw [erB_nil]; exact hs), leafStep, hp, List.map_append, List.map_singleton, leaf_er]
  · rcases List.mem_append.1 hl with hl | hl
    · have := h.long l (List.mem_append_left _ hl); omega
    · rw [List.mem_singleton] at hl; subst hl
      have := h.long top (by simp)
      rw [List.length_append, List.length_singleton]; omega
theorem DSt.none (h : DSt s0 W0 B s a n c S ll top w) (hA : ¬ (ll = [] /\ top.length = 1)) (hs : ∀ ch r, s.data.toList = ch :: r -> ch ≠ 108 /\ (ch = 101 -> ll = []))
    (hp : scalP s.data.toList = none) (h0 : s0.size <= 1048576) : decode s0.data.toList = (zeroV, 3) := by
  have := h.to
  rw [decR_step (top.map Vl.er), decStep_leaf (by rw [erB_nil]; simpa using hA) (by rw [erB_nil]; exact hs), leafStep, hp] at this
  exact decode_of (x := Option.none) (by rw [Array.length_toList]; exact h0) this
theorem DSt.list {b : List Vl} (h : DSt s0 W0 B s a (n + 1) c S (ll ++ [b]) top w) {r : List UInt8} (hs : s.data.toList = 101 :: r) (hs' : s'.data.toList = r) {al : Option Addr} {cl : Nat}
    (ho : OwnVV S' w' B a' n c' (ll ++ [b ++ [mkList al cl top]])) (hlow : ∀ b, S' b -> B <= b) (hb : Below B W0 w') : DSt s0 W0 B s' a' n c' S' ll (b ++ [mkList al cl top]) w' := by
  have z1 := len_list hs
  have z2 := len_list hs'
  rw [List.length_cons] at z1
  have hd := h.deep
  rw [List.length_append, List.length_singleton] at hd
  refine ⟨ho, hlow, ?_, by omega, fun l hl => ?_, hb⟩
  · rw [<- h.to, hs, hs', decR_step (top.map Vl.er), erB_snoc, decStep_list, List.map_append, List.map_singleton, Vl.er, Vl.erL_map]
  · rcases List.mem_append.1 hl with hl | hl
    · have := h.long l (by simp [hl]); omega
    · rw [List.mem_singleton] at hl; subst hl
      have := h.long b (by simp)
      rw [List.length_append, List.length_singleton]; omega
end
end Go.Proofs.YtlbcmeebcfalpaaGreatDoor
namespace Go.Proofs.YtlbcmeebcfalpaaGreatDoor
open Go.RowKit

theorem rOp_ldL {X : Type} {Wf : X -> World} {ops : Array Oper} {o : Oper} {act : Act} {next : Act -> Prop} {b : Nat} {t : TypeId} {v : Value} (h : ∀ y, LdV b t v (Wf y)) (hgd : o.guard = none) (x : Operand) (ho : o.op = .load t x) (hx : act.eval x = .pointer (some ⟨b, 0, none⟩)) (hk : next (act.put o.dst v)) : rOp Tryz.prog ops Wf o act next := by
  unfold rOp
  rw [if_pos (by simp [Region.wanted, hgd])]
  refine ⟨v, fun y => ?_, hk⟩
  have h' : (loadVar t ⟨b, 0, none⟩).run Tryz.prog (Wf y) = .ok v (Wf y) := h y
  unfold execOp
  simp only [ho, hx, Instr.loadAt, Instr.sureAddr, Sem.run_bind, Sem.run_pure, Result.andThen_ok, h']
theorem sameE_any {d d2 : Dv} (hT : Has tyEdition d) (hT2 : Has tyEdition d2) (hm : Sm d) (hm2 : Sm d2) {S S2 : Nat -> Prop} {w : World} (hr : RdD S w d) (hr2 : RdD S2 w d2) (hS : ∀ b, S b -> b < w.heap.size) (hS2 : ∀ b, S2 b -> b < w.heap.size) : Calls Tryz.prog 18 #[d.val, d2.val] w fun e w' => e = .returned (.bool (sameV d.toV d2.toV)) /\ Below w.heap.size w w' := by
  obtain ⟨hl1, -, ho1, hv1⟩ := LT.len .edi hT
  obtain ⟨hl2, -, ho2, hv2⟩ := LT.len .edi hT2
  have hb1 : Below w.heap.size w ((w.alloc (.cells d.cells.toArray (LT.tid .edi))).alloc (.cells d2.cells.toArray (LT.tid .edi))) := ((Below.refl _ _).alloc (Nat.le_refl _) _).alloc (by simp) _
  have hs1 : ((w.alloc (.cells d.cells.toArray (LT.tid .edi))).alloc (.cells d2.cells.toArray (LT.tid .edi))).heap.size = w.heap.size + 2 := by simp
  have h1 := alloc_heap_some (o := .cells d2.cells.toArray (LT.tid .edi)) (World.alloc_heap_new w (.cells d.cells.toArray (LT.tid .edi)))
  have h2 : ((w.alloc (.cells d.cells.toArray (LT.tid .edi))).alloc (.cells d2.cells.toArray (LT.tid .edi))).heap[w.heap.size + 1]? = some (.cells d2.cells.toArray (LT.tid .edi) (0, 0)) := by
    have := World.alloc_heap_new (w.alloc (.cells d.cells.toArray (LT.tid .edi))) (.cells d2.cells.toArray (LT.tid .edi))
    simpa using this
  have hld : ∀ V, Below ((w.alloc (.cells d.cells.toArray (LT.tid .edi))).alloc (.cells d2.cells.toArray (LT.tid .edi))).heap.size ((w.alloc (.cells d.cells.toArray (LT.tid .edi))).alloc (.cells d2.cells.toArray (LT.tid .edi))) V -> LdV w.heap.size (LT.tid .edi) (.agg d.cells.toArray) V /\ LdV (w.heap.size + 1) (LT.tid .edi) (.agg d2.cells.toArray) V := fun V hV =>
    ⟨LT.ld .edi rfl hl1 ((hV.block _ (by omega)).trans h1), LT.ld .edi rfl hl2 ((hV.block _ (by omega)).trans h2)⟩
  have HW1 := hiq (fun (V : World) (hV : Below ((w.alloc (.cells d.cells.toArray (LT.tid .edi))).alloc (.cells d2.cells.toArray (LT.tid .edi))).heap.size ((w.alloc (.cells d.cells.toArray (LT.tid .edi))).alloc (.cells d2.cells.toArray (LT.tid .edi))) V) => write_of .edi true hT hm (hr.below (hb1.trans (hV.mono hb1.size))) (fun b hb => Nat.lt_of_lt_of_le (hS b hb) (Nat.le_trans hb1.size hV.size)))
  have HW2 := hiq (fun (V : World) (hV : Below ((w.alloc (.cells d.cells.toArray (LT.tid .edi))).alloc (.cells d2.cells.toArray (LT.tid .edi))).heap.size ((w.alloc (.cells d.cells.toArray (LT.tid .edi))).alloc (.cells d2.cells.toArray (LT.tid .edi))) V) => write_of .edi true hT2 hm2 (hr2.below (hb1.trans (hV.mono hb1.size))) (fun b hb => Nat.lt_of_lt_of_le (hS2 b hb) (Nat.le_trans hb1.size hV.size)))
  rw [hv1 rfl] at HW1 ⊢
  rw [hv2 rfl] at HW2 ⊢
  generalize d.cells.toArray = A at *
  generalize d2.cells.toArray = A2 at *
  have HLD := hiq hld
  have HB := hiq hb1
  dsimp only [LT.tid, LT.wf] at HW1 HW2 HLD HB
  clear hld hb1 hs1 h1 h2 hl1 ho1 hv1 hl2 ho2 hv2 hT hT2 hm hm2 hr hr2 hS hS2
  go_enter Tryz.func18, Tryz.ntmps18
  go_wp2_with fail
  generalize World.alloc (World.alloc _ _) _ = W1 at *
  obtain ⟨X, Wf, hX, hS1, hS2⟩ := family (fun V => Below W1.heap.size W1 V) W1 (Below.refl _ _)
  have HS2 := hiq hS2
  have HS1 := hiq hS1
  have hd0 : Below W1.heap.size W1 W1.drew := (Below.refl _ _).drew
  clear hS1 hS2
  refine wp_region_tree (Wf := Wf) 5 (.read 0 (.read 2 (.act 1 (.act 3 (.act 4 .fin))))) (by kernel_rfl) (by kernel_rfl) (fun _ _ d _ _ h => by cases d <;> exact h) (HS2.out _ hd0) ?_
  refine wpTree_read _ rfl (fun K hK => ?_)
  refine rOp_ldL (fun y => (HLD.out _ (HS1.out y)).1) rfl _ rfl rfl (hK _ ?_)
  clear hK K
  refine wpTree_read _ rfl (fun K hK => ?_)
  refine rOp_ldL (fun y => (HLD.out _ (HS1.out y)).2) rfl _ rfl rfl (hK _ ?_)
  clear hK K
  have HM := hiq (HW1.out _ hd0)
  refine wpTree_act _ rfl ?_
  go_wp2_with fail
  refine HM.out.mono ?_
  rintro e V1 ⟨⟨k, nn, t, a, c, l⟩, he, hx1, hr1, hb1⟩
  change e = .returned (.agg #[.int .i64 k, .int .i64 nn, .string t, .slice a l.length c]) at he
  subst he
  have hd1 := hd0.trans (hb1.mono hd0.size)
  have HM2 := hiq (HW2.out _ hd1)
  clear HM
  go_wp2_with fail
  refine ⟨HS2.out _ hd1, wpTree_act _ rfl ?_⟩
  go_wp2_with fail
  refine HM2.out.mono ?_
  rintro e V2 ⟨⟨k2, nn2, t2, a2, c2, l2⟩, he, hx2, hr2, hb2⟩
  change e = .returned (.agg #[.int .i64 k2, .int .i64 nn2, .string t2, .slice a2 l2.length c2]) at he
  subst he
  have hd2 := hd1.trans (hb2.mono hd1.size)
  have HQ := hiq (same_any _ _ _ _ V2 (hr1.below hb2) hr2)
  rw [hx1, hx2] at HQ
  dsimp only [Vl.val, Vl.cells, Vl.kind, Vl.num, Vl.text, Vl.sl, Vl.addr, Vl.items, Vl.cap] at HQ
  clear HM2 hr1 hr2 hb1 hb2 hx1 hx2
  have HD2 := hiq hd2
  clear hd0 hd1 hd2
  go_wp2_with fail
  refine ⟨HS2.out _ HD2.out, wpTree_act _ rfl ?_⟩
  go_wp2_with fail
  refine HQ.out.mono ?_
  rintro e V3 ⟨rfl, hb3⟩
  have hd3 := HD2.out.trans (hb3.mono HD2.out.size)
  go_wp2_with fail
  refine ⟨HS2.out _ hd3, wpTree_fin ?_⟩
  have hz := HB.out.trans (hd3.mono HB.out.size)
  clear hb3 hd3
  go_wp2
  go_ret
  exact ⟨rfl, hz⟩
/-- The value of an edition, or none. -/
def ValP (x : V) (w : World) (e : Ending) (w' : World) : Prop :=
  ∃ v : Vl, e = .returned (.tuple #[v.val, .int .i64 (if chkV x = 0 then 0 else 4)]) /\ v.er = (if chkV x = 0 then x else zeroV) /\ Rd (fun b => w.heap.size <= b) w' v /\ Below w.heap.size w w'
theorem value_any {d : Dv} (hT : Has tyEdition d) (hm : Sm d) {S : Nat -> Prop} {w : World} (hr : RdD S w d) (hS : ∀ b, S b -> b < w.heap.size) : Calls Tryz.prog 20 #[d.val] w (ValP d.toV w) := by
  have hv := (LT.len .edi hT).2.2.2 rfl
  have hb0 : Below w.heap.size w (w.alloc (.cells d.cells.toArray (LT.tid .edi))) := (Below.refl _ _).alloc (Nat.le_refl _) _
  have hb1 : Below w.heap.size w ((w.alloc (.cells d.cells.toArray (LT.tid .edi))).alloc (.cells #[.int .i64 0, .int .i64 0, .string ⟨#[]⟩, .slice none 0 0] 24)) := hb0.alloc hb0.size _
  have hl : LdV w.heap.size (LT.tid .edi) (.agg d.cells.toArray) ((w.alloc (.cells d.cells.toArray (LT.tid .edi))).alloc (.cells #[.int .i64 0, .int .i64 0, .string ⟨#[]⟩, .slice none 0 0] 24)) := LT.ld .edi rfl (LT.len .edi hT).1 (alloc_heap_some (World.alloc_heap_new w _))
  have hbx : ((w.alloc (.cells d.cells.toArray (LT.tid .edi))).alloc (.cells #[.int .i64 0, .int .i64 0, .string ⟨#[]⟩, .slice none 0 0] 24)).heap[w.heap.size + 1]? = some (.cells #[.int .i64 0, .int .i64 0, .string ⟨#[]⟩, .slice none 0 0] 24 (0, 0)) := by
    have := World.alloc_heap_new (w.alloc (.cells d.cells.toArray (LT.tid .edi))) (.cells #[.int .i64 0, .int .i64 0, .string ⟨#[]⟩, .slice none 0 0] 24)
    simpa using this
  have hs1 : ((w.alloc (.cells d.cells.toArray (LT.tid .edi))).alloc (.cells #[.int .i64 0, .int .i64 0, .string ⟨#[]⟩, .slice none 0 0] 24)).heap.size = w.heap.size + 2 := by simp
  have HW := write_of .edi true hT hm (hr.below hb1) (fun b hb => Nat.lt_of_lt_of_le (hS b hb) hb1.size)
  rw [hv] at HW ⊢
  generalize d.cells.toArray = A at *
  have HM := hiq HW
  have HLD := hiq hl
  have HB := hiq hb1
  have HBX := hiq hbx
  have HS1 := hiq hs1
  clear HW hl hb0 hb1 hbx hs1 hm hr hS hT hv
  dsimp only [LT.tid, LT.wf] at HM HLD HB HBX HS1
  go_enter Tryz.func20, Tryz.ntmps20
  go_wp2_with (first | ((with_reducible refine wpList_ldL HLD.out rfl _ rfl ?_ ?_); rfl) | fail)
  refine HM.out.mono ?_
  generalize World.alloc (World.alloc _ _) _ = W1 at *
  rintro e W2 ⟨⟨k, nn, t, a, c, l⟩, he, hx, hrd, hb2⟩
  change e = .returned (.agg #[.int .i64 k, .int .i64 nn, .string t, .slice a l.length c]) at he
  subst he
  have hb3 : Below W2.heap.size W2 (W2.alloc (.cells #[.int .i64 k, .int .i64 nn, .string t, .slice a l.length c] 24)) := (Below.refl _ _).alloc (Nat.le_refl _) _
  have hs3 : (W2.alloc (.cells #[.int .i64 k, .int .i64 nn, .string t, .slice a l.length c] 24)).heap.size = W2.heap.size + 1 := by simp
  have hr3 := hrd.below hb3
  have hbW := HB.out.trans (hb2.mono HB.out.size)
  have hb13 := hb2.trans (hb3.mono hb2.size)
  have hw2 : w.heap.size + 2 <= W2.heap.size := by have := HS1.out; have := hb2.size; omega
  have HQ := hiq (check_any _ (.mk k nn t a c l) _ hr3)
  rw [hx] at HQ
  dsimp only [Vl.val, Vl.cells, Vl.kind, Vl.num, Vl.text, Vl.sl, Vl.addr, Vl.items, Vl.cap] at HQ
  have HX := hiq hx
  have HR3 := hiq hr3
  have HBW := hiq (hbW.trans (hb3.mono hbW.size))
  have HV3 := hiq (World.alloc_heap_new W2 (.cells #[.int .i64 k, .int .i64 nn, .string t, .slice a l.length c] 24))
  have HX3 := hiq ((hb13.block (w.heap.size + 1) (by have := HS1.out; omega)).trans HBX.out)
  have HS3 := hiq hs3
  clear hb2 hb3 hs3 hr3 hbW hb13 hrd hx HM HLD
  go_wp2_with fail
  generalize World.alloc _ _ = W3 at *
  refine HQ.out.mono ?_
  rintro e W4 ⟨rfl, hb4⟩
  have hv4 := (hb4.block W2.heap.size (by have := HS3.out; omega)).trans HV3.out
  have hx4 := (hb4.block (w.heap.size + 1) (by have := HS3.out; omega)).trans HX3.out
  have hr4 := HR3.out.below hb4
  have hb04 := HBW.out.trans (hb4.mono HBW.out.size)
  have hs4 := hb4.size
  obtain ⟨v0, v1, v2, v3, -⟩ := box_cells hv4
  obtain ⟨z0, z1, z2, z3, zf⟩ := box_cells hx4
  obtain ⟨cc, hcc⟩ : ∃ cc, cc = chkV d.toV := ⟨_, rfl⟩
  by_cases h0 : cc = 0
  · have HF : Hid (ValP d.toV w (.returned (.tuple #[.agg #[.int .i64 k, .int .i64 nn, .string t, .slice a l.length c], .int .i64 0])) (put4 W4 (w.heap.size + 1) (.int .i64 k) (.int .i64 nn) (.string t) (.slice a l.length c))) := by
      refine ⟨.mk k nn t a c l, by rw [if_pos (by rw [<- hcc]; exact h0)]; rfl, by rw [if_pos (by rw [<- hcc]; exact h0)]; exact HX.out, ?_, put4_below hb04 (by omega) _ _ _ _⟩
      exact (hr4.keep (put4_keep (b := w.heap.size + 1) (by show ¬ W1.heap.size <= _; have := HS1.out; omega) _ _ _ _)).mono fun b hb _ => by have := HS1.out; omega
    have hzz := put4_at hx4 (.int .i64 k) (.int .i64 nn) (.string t) (.slice a l.length c)
    have HZZ := hiq hzz
    rw [<- hcc, h0]
    clear hv4 hx4 hr4 hb04 hb4 hzz hcc h0
    go_wp2
    obtain ⟨r0, r1, r2, r3, -⟩ := box_cells HZZ.out
    change bodyPost _ _ _ _ _ (put4 W4 (w.heap.size + 1) (.int .i64 k) (.int .i64 nn) (.string t) (.slice a l.length c))
    generalize put4 W4 (w.heap.size + 1) (.int .i64 k) (.int .i64 nn) (.string t) (.slice a l.length c) = WF at *
    exact bodyPost_ret (v := .tuple #[.agg #[.int .i64 k, .int .i64 nn, .string t, .slice a l.length c], .int .i64 0]) (by simp [results, Tryz.results20, go_sem, r0, r1, r2, r3]) rfl HF.out
  · have HF : Hid (ValP d.toV w (.returned (.tuple #[.agg #[.int .i64 0, .int .i64 0, .string ⟨#[]⟩, .slice none 0 0], .int .i64 4])) (put4 W4 (w.heap.size + 1) (.int .i64 0) (.int .i64 0) (.string ⟨#[]⟩) (.slice none 0 0))) :=
      ⟨mkLeaf 0 0 ⟨#[]⟩, by rw [if_neg (by rw [<- hcc]; exact h0)]; rfl, by rw [if_neg (by rw [<- hcc]; exact h0), leaf_er]; rfl, rd_zero _ _, put4_below hb04 (by omega) _ _ _ _⟩
    have hzz := put4_at hx4 (.int .i64 0) (.int .i64 0) (.string ⟨#[]⟩) (.slice none 0 0)
    have HZZ := hiq hzz
    rw [<- hcc]
    have h1 : (cc != 0) = true := by simp [h0]
    clear hv4 hx4 hr4 hb04 hb4 hzz hcc h0
    go_wp2
    obtain ⟨r0, r1, r2, r3, -⟩ := box_cells HZZ.out
    change bodyPost _ _ _ _ _ (put4 W4 (w.heap.size + 1) (.int .i64 0) (.int .i64 0) (.string ⟨#[]⟩) (.slice none 0 0))
    generalize put4 W4 (w.heap.size + 1) (.int .i64 0) (.int .i64 0) (.string ⟨#[]⟩) (.slice none 0 0) = WF at *
    exact bodyPost_ret (v := .tuple #[.agg #[.int .i64 0, .int .i64 0, .string ⟨#[]⟩, .slice none 0 0], .int .i64 4]) (by simp [results, Tryz.results20, go_sem, r0, r1, r2, r3]) rfl HF.out
theorem value_ref {d : Dv} (hT : Has tyEdition d) (hm : Sm d) {S : Nat -> Prop} {w : World} (hr : RdD S w d) (hS : ∀ b, S b -> b < w.heap.size) : Calls Tryz.prog 21 #[d.val] w (ValP d.toV w) := by
  have hv := (LT.len .edi hT).2.2.2 rfl
  have hb0 : Below w.heap.size w (w.alloc (.cells d.cells.toArray (LT.tid .edi))) := (Below.refl _ _).alloc (Nat.le_refl _) _
  have hb1 : Below w.heap.size w ((w.alloc (.cells d.cells.toArray (LT.tid .edi))).alloc (.cells #[.int .i64 0, .int .i64 0, .string ⟨#[]⟩, .slice none 0 0] 24)) := hb0.alloc hb0.size _
  have hl : LdV w.heap.size (LT.tid .edi) (.agg d.cells.toArray) ((w.alloc (.cells d.cells.toArray (LT.tid .edi))).alloc (.cells #[.int .i64 0, .int .i64 0, .string ⟨#[]⟩, .slice none 0 0] 24)) := LT.ld .edi rfl (LT.len .edi hT).1 (alloc_heap_some (World.alloc_heap_new w _))
  have hbx : ((w.alloc (.cells d.cells.toArray (LT.tid .edi))).alloc (.cells #[.int .i64 0, .int .i64 0, .string ⟨#[]⟩, .slice none 0 0] 24)).heap[w.heap.size + 1]? = some (.cells #[.int .i64 0, .int .i64 0, .string ⟨#[]⟩, .slice none 0 0] 24 (0, 0)) := by
    have := World.alloc_heap_new (w.alloc (.cells d.cells.toArray (LT.tid .edi))) (.cells #[.int .i64 0, .int .i64 0, .string ⟨#[]⟩, .slice none 0 0] 24)
    simpa using this
  have hs1 : ((w.alloc (.cells d.cells.toArray (LT.tid .edi))).alloc (.cells #[.int .i64 0, .int .i64 0, .string ⟨#[]⟩, .slice none 0 0] 24)).heap.size = w.heap.size + 2 := by simp
  have HW := write_of .edi false hT hm (hr.below hb1) (fun b hb => Nat.lt_of_lt_of_le (hS b hb) hb1.size)
  rw [hv] at HW ⊢
  generalize d.cells.toArray = A at *
  have HM := hiq HW
  have HLD := hiq hl
  have HB := hiq hb1
  have HBX := hiq hbx
  have HS1 := hiq hs1
  clear HW hl hb0 hb1 hbx hs1 hm hr hS hT hv
  dsimp only [LT.tid, LT.wf] at HM HLD HB HBX HS1
  go_enter Tryz.func21, Tryz.ntmps21
  go_wp2_with (first | ((with_reducible refine wpList_ldL HLD.out rfl _ rfl ?_ ?_); rfl) | fail)
  refine HM.out.mono ?_
  generalize World.alloc (World.alloc _ _) _ = W1 at *
  rintro e W2 ⟨⟨k, nn, t, a, c, l⟩, he, hx, hrd, hb2⟩
  change e = .returned (.agg #[.int .i64 k, .int .i64 nn, .string t, .slice a l.length c]) at he
  subst he
  have hb3 : Below W2.heap.size W2 (W2.alloc (.cells #[.int .i64 k, .int .i64 nn, .string t, .slice a l.length c] 24)) := (Below.refl _ _).alloc (Nat.le_refl _) _
  have hs3 : (W2.alloc (.cells #[.int .i64 k, .int .i64 nn, .string t, .slice a l.length c] 24)).heap.size = W2.heap.size + 1 := by simp
  have hr3 := hrd.below hb3
  have hbW := HB.out.trans (hb2.mono HB.out.size)
  have hb13 := hb2.trans (hb3.mono hb2.size)
  have hw2 : w.heap.size + 2 <= W2.heap.size := by have := HS1.out; have := hb2.size; omega
  have HQ := hiq (check_ref _ (.mk k nn t a c l) _ hr3)
  rw [hx] at HQ
  dsimp only [Vl.val, Vl.cells, Vl.kind, Vl.num, Vl.text, Vl.sl, Vl.addr, Vl.items, Vl.cap] at HQ
  have HX := hiq hx
  have HR3 := hiq hr3
  have HBW := hiq (hbW.trans (hb3.mono hbW.size))
  have HV3 := hiq (World.alloc_heap_new W2 (.cells #[.int .i64 k, .int .i64 nn, .string t, .slice a l.length c] 24))
  have HX3 := hiq ((hb13.block (w.heap.size + 1) (by have := HS1.out; omega)).trans HBX.out)
  have HS3 := hiq hs3
  clear hb2 hb3 hs3 hr3 hbW hb13 hrd hx HM HLD
  go_wp2_with fail
  generalize World.alloc _ _ = W3 at *
  refine HQ.out.mono ?_
  rintro e W4 ⟨rfl, hb4⟩
  have hv4 := (hb4.block W2.heap.size (by have := HS3.out; omega)).trans HV3.out
  have hx4 := (hb4.block (w.heap.size + 1) (by have := HS3.out; omega)).trans HX3.out
  have hr4 := HR3.out.below hb4
  have hb04 := HBW.out.trans (hb4.mono HBW.out.size)
  have hs4 := hb4.size
  obtain ⟨v0, v1, v2, v3, -⟩ := box_cells hv4
  obtain ⟨z0, z1, z2, z3, zf⟩ := box_cells hx4
  obtain ⟨cc, hcc⟩ : ∃ cc, cc = chkV d.toV := ⟨_, rfl⟩
  by_cases h0 : cc = 0
  · have HF : Hid (ValP d.toV w (.returned (.tuple #[.agg #[.int .i64 k, .int .i64 nn, .string t, .slice a l.length c], .int .i64 0])) (put4 W4 (w.heap.size + 1) (.int .i64 k) (.int .i64 nn) (.string t) (.slice a l.length c))) := by
      refine ⟨.mk k nn t a c l, by rw [if_pos (by rw [<- hcc]; exact h0)]; rfl, by rw [if_pos (by rw [<- hcc]; exact h0)]; exact HX.out, ?_, put4_below hb04 (by omega) _ _ _ _⟩
      exact (hr4.keep (put4_keep (b := w.heap.size + 1) (by show ¬ W1.heap.size <= _; have := HS1.out; omega) _ _ _ _)).mono fun b hb _ => by have := HS1.out; omega
    have hzz := put4_at hx4 (.int .i64 k) (.int .i64 nn) (.string t) (.slice a l.length c)
    have HZZ := hiq hzz
    rw [<- hcc, h0]
    clear hv4 hx4 hr4 hb04 hb4 hzz hcc h0
    go_wp2
    obtain ⟨r0, r1, r2, r3, -⟩ := box_cells HZZ.out
    change bodyPost _ _ _ _ _ (put4 W4 (w.heap.size + 1) (.int .i64 k) (.int .i64 nn) (.string t) (.slice a l.length c))
    generalize put4 W4 (w.heap.size + 1) (.int .i64 k) (.int .i64 nn) (.string t) (.slice a l.length c) = WF at *
    exact bodyPost_ret (v := .tuple #[.agg #[.int .i64 k, .int .i64 nn, .string t, .slice a l.length c], .int .i64 0]) (by simp [results, Tryz.results21, go_sem, r0, r1, r2, r3]) rfl HF.out
  · have HF : Hid (ValP d.toV w (.returned (.tuple #[.agg #[.int .i64 0, .int .i64 0, .string ⟨#[]⟩, .slice none 0 0], .int .i64 4])) (put4 W4 (w.heap.size + 1) (.int .i64 0) (.int .i64 0) (.string ⟨#[]⟩) (.slice none 0 0))) :=
      ⟨mkLeaf 0 0 ⟨#[]⟩, by rw [if_neg (by rw [<- hcc]; exact h0)]; rfl, by rw [if_neg (by rw [<- hcc]; exact h0), leaf_er]; rfl, rd_zero _ _, put4_below hb04 (by omega) _ _ _ _⟩
    have hzz := put4_at hx4 (.int .i64 0) (.int .i64 0) (.string ⟨#[]⟩) (.slice none 0 0)
    have HZZ := hiq hzz
    rw [<- hcc]
    have h1 : (cc != 0) = true := by simp [h0]
    clear hv4 hx4 hr4 hb04 hb4 hzz hcc h0
    go_wp2
    obtain ⟨r0, r1, r2, r3, -⟩ := box_cells HZZ.out
    change bodyPost _ _ _ _ _ (put4 W4 (w.heap.size + 1) (.int .i64 0) (.int .i64 0) (.string ⟨#[]⟩) (.slice none 0 0))
    generalize put4 W4 (w.heap.size + 1) (.int .i64 0) (.int .i64 0) (.string ⟨#[]⟩) (.slice none 0 0) = WF at *
    exact bodyPost_ret (v := .tuple #[.agg #[.int .i64 0, .int .i64 0, .string ⟨#[]⟩, .slice none 0 0], .int .i64 4]) (by simp [results, Tryz.results21, go_sem, r0, r1, r2, r3]) rfl HF.out
end Go.Proofs.YtlbcmeebcfalpaaGreatDoor
namespace Go.Proofs.YtlbcmeebcfalpaaGreatDoor
open Go.RowKit

theorem st_any (T : LT) (hL : T.isS = true) (f : Nat) (h : Reads T.ty f T.fi (fun p => #[p, .func (.func T.rd) #[] #[]])) (S : Nat -> Prop) (rb wb : Nat) (a : Option Addr) (n c : Nat) (l : List Vl) (g : Bool) (w : World) (hr : Rdr w rb wb a n c g) (hv : Vals S w a n c l) (hS : ∀ b, S b -> b ≠ rb /\ b ≠ wb) (hG : ∀ u ∈ l, GoodD f u.er) (qb : Nat) (hq : w.heap[qb]? = some (.cells #[.func (.func T.rd) #[] #[]] T.ft (0, 0))) :
    Calls Tryz.prog T.st1 #[.pointer (some ⟨rb, 0, none⟩), .pointer (some ⟨qb, 0, none⟩)] w (RdOne S T.ty rb wb l g w) := by
  have hb1 : Below w.heap.size w (w.alloc (.cells T.zero.toArray T.tid)) := (Below.refl _ _).alloc (Nat.le_refl _) _
  have hlt := hr.lt
  have x0 := cell_box ((hb1.block _ (Array.getElem?_eq_some_iff.1 hq).1).trans hq) 0 rfl
  have HM : Hid (Calls Tryz.prog T.fi #[.pointer (some ⟨rb, 0, none⟩), .func (.func T.rd) #[] #[]] (w.alloc (.cells T.zero.toArray T.tid)) (T.Put S rb wb l g w)) := (h (InS S w) rb wb a n c l g _ (hr.below hb1) ((hv.mono fun b h1 h2 => ⟨h1, h2⟩).below hb1) (fun b hb => hS b hb.1) hG).mono fun e W h => T.put_of (LT.isS_F hL) h hlt hb1 (World.alloc_heap_new w _)
  clear h hr hv hS hG hb1 hq
  cases T
  case' op => go_enter Tryz.func227, Tryz.ntmps227
  case' dec => go_enter Tryz.func230, Tryz.ntmps230
  case' rew => go_enter Tryz.func158, Tryz.ntmps158
  case' grp => go_enter Tryz.func166, Tryz.ntmps166
  case' pat => go_enter Tryz.func170, Tryz.ntmps170
  case' sec => go_enter Tryz.func173, Tryz.ntmps173
  case' rul => go_enter Tryz.func161, Tryz.ntmps161
  case' wit => go_enter Tryz.func153, Tryz.ntmps153
  case' nod => go_enter Tryz.func223, Tryz.ntmps223
  case' exp => go_enter Tryz.func252, Tryz.ntmps252
  case cst => cases hL
  case sty => cases hL
  case edi => cases hL
  case int => cases hL
  case bool => cases hL
  case text => cases hL
  case pos => cases hL
  case tok => cases hL
  case inp => cases hL
  case toks => cases hL
  all_goals
    dsimp only [LT.ty, LT.fi, LT.rd, LT.tid, LT.ft, LT.zero, LT.k] at *
    go_wp2_with fail
    refine HM.out.mono ?_
    generalize w.alloc (.cells _ _) = W1 at *
    intro e W h1
    dsimp only [LT.Put, LT.k, LT.ty] at h1
    clear HM hL
    obtain ⟨d, WF, he, hi, hst, hgt, HF⟩ := h1
    dsimp only [LT.Inv] at hi
    repeat (rcases (hi : ∃ _, _) with ⟨_, hi⟩)
    subst hi
    simp only [StL, LdV, Dv.cells, Dv.cellsL, List.cons_append, List.nil_append, List.append_nil] at he hst hgt
    subst he
    have HF := hiq HF
    have HST := hiq hst
    have HGT := hiq hgt
    clear hst hgt
    go_wp2_with ((with_reducible refine wpList_stL HST.out rfl _ _ _ rfl ?_ ?_ ?_ ?_); rfl; rfl; kernel_rfl)
    exact ret_ldL HGT.out rfl rfl rfl HF.out
/-- What stands behind the reading of a struct's fields: the flag, the stores, the two ends. -/
def LT.Fld (T : LT) (S : Nat -> Prop) (rb wb : Nat) (l : List Vl) (g : Bool) (w W3 : World) (e : Ending) (W5 : World) : Prop :=
  ∃ (d : Dv) (a5 : Option Addr) (n5 c5 : Nat) (g5 : Bool) (WF WG : World), e = .returned (.agg d.cells.toArray) /\ T.Inv d /\ w.heap.size < W5.heap.size /\ wb ≠ w.heap.size /\ rb < W5.heap.size /\ wb < W5.heap.size /\ W3.heap.size < W5.heap.size /\ W5.cell? ⟨W3.heap.size, 0, none⟩ = some (.slice a5 n5 c5) /\ W5.cell? ⟨rb, 1, none⟩ = some (.pointer (some ⟨wb, 0, none⟩)) /\ W5.cell? ⟨wb, 0, none⟩ = some (.bool g5) /\ W5.frozen? ⟨wb, 0, none⟩ = false /\
    StL W5.heap.size d.cells (W5.alloc (.cells T.zero.toArray T.tid)) (W5.alloc (.cells d.cells.toArray T.tid)) /\ LdV W5.heap.size T.tid (.agg d.cells.toArray) (W5.alloc (.cells d.cells.toArray T.tid)) /\ StL w.heap.size d.cells (W5.alloc (.cells d.cells.toArray T.tid)) WF /\ LdV w.heap.size T.tid (.agg d.cells.toArray) WF /\ (n5 = 0 -> RdOne S T.ty rb wb l g w e WF) /\ LdV W5.heap.size T.tid (.agg d.cells.toArray) ((W5.setCell ⟨wb, 0, none⟩ (.bool true)).alloc (.cells d.cells.toArray T.tid)) /\ StL w.heap.size d.cells ((W5.setCell ⟨wb, 0, none⟩ (.bool true)).alloc (.cells d.cells.toArray T.tid)) WG /\ LdV w.heap.size T.tid (.agg d.cells.toArray) WG /\ (0 < n5 -> RdOne S T.ty rb wb l g w e WG)
theorem LT.fld_of (T : LT) (hF : T.isF = true) {S : Nat -> Prop} {f rb wb : Nat} {w W2 W3 W4 W5 : World} {kk nn : Int} {t : ByteArray} {aa : Option Addr} {cc : Nat} {ll l l' : List Vl} {a' : Option Addr} {n' c' : Nat} {g g1 : Bool} {e : Ending} (hx : Nx 3 l g (.mk kk nn t aa cc ll) l' g1) (hI : Inn S f rb wb W3 W4 aa cc ll a' n' c' l' g1) (hG : ∀ u ∈ l, GoodD f u.er)
    (hb2 : Below w.heap.size w W2) (hz2 : W2.heap[w.heap.size]? = some (.cells T.zero.toArray T.tid (0, 0))) (hSw : ∀ b, S b -> b < w.heap.size) (hS : ∀ b, S b -> b ≠ rb /\ b ≠ wb) (hlt : rb < w.heap.size /\ wb < w.heap.size) (hE3 : Exc (Two rb wb) W2 W3) (hb4 : Below W3.heap.size W3 W4) (hm : RdMany (InS S W3) T.ts W3.heap.size wb ll g1 W4 e W5) : T.Fld S rb wb l g w W3 e W5 := by
  obtain ⟨ds, a5, n5, c5, l5, g5, he, hT, hrd, hgot, hr5, hv5, hE5⟩ := hm
  have hz2' := (Array.getElem?_eq_some_iff.1 hz2).1
  have hTy : Has T.ty (.struc ds) := by
    cases T
    case nod => exact .node (.struc hT)
    case exp => exact .expr (.struc hT)
    all_goals first | exact .struc hT | cases hF
  obtain ⟨hl, hl2, h1, hval⟩ := T.len hTy
  have ho5 := (hI.after hE5 hr5).1
  have z3 := hE3.heap (fun hn => by rcases hn with e | e <;> omega) hz2
  have z4 := Exc.heap (N := fun _ => False) (.below hb4) id z3
  have s3 := (Array.getElem?_eq_some_iff.1 z3).1
  have z5 := hE5.heap (fun hn => by rcases hn with e | e <;> omega) z4
  have hne : wb ≠ w.heap.size := by omega
  have fe := fields_end hx hI hG hb2 hz2' hSw hS hlt hE3 hb4 hT hrd hgot hr5 hv5.1 hE5 (.cells (Dv.struc ds).cells.toArray T.tid) (cs := (Dv.struc ds).cells) (by rw [Dv.cells])
  obtain ⟨o0, -, o2, -, -⟩ := hr5.cells
  obtain ⟨-, u1, -, -, u4⟩ := ho5.cells
  have p0 := alloc_heap_some (o := .cells (Dv.struc ds).cells.toArray T.tid) z5
  have p1 := alloc_heap_some (o := .cells (Dv.struc ds).cells.toArray T.tid) ((Below.heap_setCell W5 ⟨wb, 0, none⟩ (.bool true) _ (Ne.symm hne)).trans z5)
  have q0 := World.alloc_heap_new W5 (.cells (Dv.struc ds).cells.toArray T.tid)
  have q1 := World.alloc_heap_new (W5.setCell ⟨wb, 0, none⟩ (.bool true)) (.cells (Dv.struc ds).cells.toArray T.tid)
  rw [show (W5.setCell ⟨wb, 0, none⟩ (.bool true)).heap.size = W5.heap.size by simp [World.setCell]] at q1
  rw [hval (LT.isF_W hF)] at he
  rw [he]
  obtain ⟨i0, ei, ez0, ez1, ez2⟩ := info_parts T.info
  have sn : StL W5.heap.size (Dv.struc ds).cells (W5.alloc (.cells T.zero.toArray T.tid)) (W5.alloc (.cells (Dv.struc ds).cells.toArray T.tid)) := by
    have := run_storeCells_new (P := Tryz.prog) W5 T.tid T.zero.toArray (Dv.struc ds).cells.toArray (by rw [ei]; simp [ez1, hl]) (by simp; omega) (by simpa using h1)
    simpa using this
  exact ⟨.struc ds, a5, n5, c5, g5, _, _, rfl, T.inv hTy, (Array.getElem?_eq_some_iff.1 z5).1, hne, ho5.lt.1, ho5.lt.2, hr5.lt.1, o0, u1, o2, u4, sn, T.ld (LT.isF_W hF) hl q0, run_putL _ 0 _ _ p0 (by simp; omega) h1, T.ld (LT.isF_W hF) hl (putL_at _ (by simp; omega) p0), fun h => T.up hF (fe.2 h), T.ld (LT.isF_W hF) hl q1, run_putL _ 0 _ _ p1 (by simp; omega) h1, T.ld (LT.isF_W hF) hl (putL_at _ (by simp; omega) p1), fun h => T.up hF (fe.1 h)⟩
end Go.Proofs.YtlbcmeebcfalpaaGreatDoor
