/- Joined: IGrt, IAwx, IEdr, CNumR. -/
import Derived.Test.YtlbcmeebcfalpaaGreatDoorR12
import Derived.Test.YtlbcmeebcfalpaaGreatDoorR27
import Derived.Test.YtlbcmeebcfalpaaGreatDoorR25
import Derived.Test.YtlbcmeebcfalpaaGreatDoorR03
import Derived.Test.YtlbcmeebcfalpaaGreatDoorR05
set_option linter.unusedVariables false
set_option linter.unusedSimpArgs false
set_option maxRecDepth 100000
set_option maxHeartbeats 16000000
namespace Go.Proofs.YtlbcmeebcfalpaaGreatDoor
open Go.RowKit

section
variable {ops : Array Oper} {rest : List Oper} {o : Oper} {act : Act} {Q : Exit -> Act -> World -> Prop} {W : World} {b : Nat} {t : TypeId} {v : Value}
/-- A load of a whole struct that a guard lets through. -/
theorem wpList_ldG (h : LdV b t v W) (x : Operand) (ho : o.op = .load t x) (hg : Region.wanted o (yielded ops act.tmps) = true) (hx : act.eval x = .pointer (some ⟨b, 0, none⟩))
    (hk : wpList Tryz.prog ops Q rest (act.put o.dst v) W) : wpList Tryz.prog ops Q (o :: rest) act W := by
  refine wpList_step fun K hK => ?_
  simp only [hg, if_true]
  have h' : (loadVar t ⟨b, 0, none⟩).run Tryz.prog W = .ok v W := h
  unfold Oper.wp execOp
  simp only [ho, hx, Instr.loadAt, Instr.sureAddr, Sem.run_bind, Sem.run_pure, Result.andThen_ok, h']
  exact hK _ _ hk
end
end Go.Proofs.YtlbcmeebcfalpaaGreatDoor
namespace Go.Proofs.YtlbcmeebcfalpaaGreatDoor
open Go.RowKit

theorem one_new {w V : World} (hb : Below w.heap.size w V) : ∃ WF, StL (V.heap.size + 1 + 1) (oneEd V.heap.size (V.heap.size + 1)).cells (((V.alloc (.cells #[.int .i64 1, .string ⟨#[100, 101]⟩, .int .i64 0, .slice none 0 0] 64)).alloc (.cells #[.string ⟨#[65]⟩, .slice (some ⟨V.heap.size, 0, none⟩) 1 1] 66)).alloc (.cells (LT.zero .edi).toArray 40)) WF /\ OneIn w V.heap.size WF := by
  obtain ⟨W1, hW1⟩ : ∃ W1, W1 = V.alloc (.cells #[.int .i64 1, .string ⟨#[100, 101]⟩, .int .i64 0, .slice none 0 0] 64) := ⟨_, rfl⟩
  obtain ⟨W2, hW2⟩ : ∃ W2, W2 = W1.alloc (.cells #[.string ⟨#[65]⟩, .slice (some ⟨V.heap.size, 0, none⟩) 1 1] 66) := ⟨_, rfl⟩
  obtain ⟨W3, hW3⟩ : ∃ W3, W3 = W2.alloc (.cells (LT.zero .edi).toArray 40) := ⟨_, rfl⟩
  have s1 : W1.heap.size = V.heap.size + 1 := by rw [hW1]; simp
  have s2 : W2.heap.size = V.heap.size + 1 + 1 := by rw [hW2]; simp [s1]
  have s3 : W3.heap.size = V.heap.size + 1 + 1 + 1 := by rw [hW3]; simp [s2]
  have n1 : W1.heap[V.heap.size]? = some (.cells #[.int .i64 1, .string ⟨#[100, 101]⟩, .int .i64 0, .slice none 0 0] 64 (0, 0)) := by rw [hW1]; exact World.alloc_heap_new _ _
  have n2 : W2.heap[V.heap.size]? = some (.cells #[.int .i64 1, .string ⟨#[100, 101]⟩, .int .i64 0, .slice none 0 0] 64 (0, 0)) := by rw [hW2]; exact alloc_heap_some n1
  have n3 : W3.heap[V.heap.size]? = some (.cells #[.int .i64 1, .string ⟨#[100, 101]⟩, .int .i64 0, .slice none 0 0] 64 (0, 0)) := by rw [hW3]; exact alloc_heap_some n2
  have w2 : W2.heap[V.heap.size + 1]? = some (.cells #[.string ⟨#[65]⟩, .slice (some ⟨V.heap.size, 0, none⟩) 1 1] 66 (0, 0)) := by rw [hW2, <- s1]; exact World.alloc_heap_new _ _
  have w3 : W3.heap[V.heap.size + 1]? = some (.cells #[.string ⟨#[65]⟩, .slice (some ⟨V.heap.size, 0, none⟩) 1 1] 66 (0, 0)) := by rw [hW3]; exact alloc_heap_some w2
  have z3 : W3.heap[V.heap.size + 1 + 1]? = some (.cells (LT.zero .edi).toArray 40 (0, 0)) := by rw [hW3, <- s2]; exact World.alloc_heap_new _ _
  have b1 : Below w.heap.size w W1 := by rw [hW1]; exact hb.alloc hb.size _
  have b2 : Below w.heap.size w W2 := by rw [hW2]; exact b1.alloc b1.size _
  have b3 : Below w.heap.size w W3 := by rw [hW3]; exact b2.alloc b2.size _
  have hs := hb.size
  rw [<- hW1, <- hW2, <- hW3]
  obtain ⟨hl, hl2, h1, hval⟩ := LT.len .edi (oneEd_has V.heap.size (V.heap.size + 1))
  have hx := putL_exc (V.heap.size + 1 + 1) (oneEd V.heap.size (V.heap.size + 1)).cells 0 W3
  exact ⟨_, run_putL _ 0 _ _ z3 (by show 0 + _ <= _; rw [hl]; simp [LT.zero]) h1, put_below b3 (by omega) _, hs, hx.heap (by omega) n3, hx.heap (by omega) w3, putL_at _ (by rw [hl]; simp [LT.zero]) z3⟩
theorem back_new {V2 V : World} {d : Dv} (hT : Has tyEdition d) (hrd : RdD (NewB V2 V) V d) : ∃ WF, StL V.heap.size d.cells (V.alloc (.cells (LT.zero .edi).toArray 40)) WF /\ Below V.heap.size V WF /\ WF.heap[V.heap.size]? = some (.cells d.cells.toArray 40 (0, 0)) /\ RdD (fun b => b < V.heap.size) WF d := by
  obtain ⟨hl, hl2, h1, hval⟩ := LT.len .edi hT
  have z3 := World.alloc_heap_new V (.cells (LT.zero .edi).toArray 40)
  have b3 : Below V.heap.size V (V.alloc (.cells (LT.zero .edi).toArray 40)) := (Below.refl _ _).alloc (Nat.le_refl _) _
  have hb := put_below b3 (Nat.le_refl _) d.cells
  refine ⟨_, run_putL _ 0 _ _ z3 (by show 0 + _ <= _; rw [hl]; simp [LT.zero]) h1, hb, putL_at _ (by rw [hl]; simp [LT.zero]) z3, (hrd.below hb).mono fun b hb => hb.2⟩
theorem awake_any {w : World} (hE : Env w) : Calls Tryz.prog 10 #[] w fun e w' => e = .returned (.bool true) /\ Below w.heap.size w w' := by
  obtain ⟨ZB, OB, hF⟩ := awkF hE
  have HP0 := hiq hF.p0
  have HFF := hiq hF
  dsimp only [LT.zero] at HP0
  clear hE hF
  go_enter Tryz.func10, Tryz.ntmps10
  generalize hR2 : Code.region 2 _ _ = C2
  generalize hR3 : Code.region 3 _ _ = C3
  generalize hR4 : Code.region 4 _ _ = C4
  generalize hR5 : Code.region 5 _ _ = C5
  have HR3 := hiq hR3
  have HR4 := hiq hR4
  have HR5 := hiq hR5
  clear hR3 hR4 hR5
  go_wp2_with fail
  refine (HP0.out _ (Below.refl _ _)).mono ?_
  rintro e V1 ⟨rfl, hb1⟩
  go_wp2_with fail
  subst hR2
  refine wp_region_cut [5, 1] ?_
  refine wpCut_cons ?_
  simp only [List.take_succ_cons, List.take_zero, List.drop_succ_cons, List.drop_zero]
  go_wp2_with fail
  refine wpCut_cons ?_
  simp only [List.take_succ_cons, List.take_zero, List.drop_succ_cons, List.drop_zero]
  go_wp2_with fail
  obtain ⟨WF, hst, hin⟩ := one_new hb1
  rw [one_cells] at hst
  obtain ⟨A1, hA1⟩ : ∃ A1, A1 = (oneEd V1.heap.size (V1.heap.size + 1)).cells.toArray := ⟨_, rfl⟩
  have HIN := hiq hin
  have HST := hiq hst
  clear hst hin
  refine wpCut_nil ?_
  go_wp2_with ((with_reducible refine wpList_stL HST.out rfl _ _ _ rfl ?_ ?_ ?_ ?_); rfl; rfl; kernel_rfl)
  have HP1 : Hid (∀ W, OneIn w V1.heap.size W -> Calls Tryz.prog 16 #[.agg A1] W fun e V' => e = .returned (.tuple #[.string ⟨OB.toArray⟩, .int .i64 0]) /\ Below W.heap.size W V') := fun W h => by rw [hA1]; exact HFF.out.p1 W _ h
  have HL1 : Hid (∀ W, OneIn w V1.heap.size W -> LdV (V1.heap.size + 1 + 1) 40 (.agg A1) W) := fun W h => by rw [hA1]; exact LT.ld .edi rfl (LT.len .edi (oneEd_has _ _)).1 h.box
  have HSZ : Hid (∀ W, OneIn w V1.heap.size W -> Calls Tryz.prog 18 #[.agg A1, .agg #[.string ⟨#[]⟩, .slice none 0 0, .slice none 0 0, .int .i64 0, .int .i64 0, .int .i64 0, .int .i64 0, .slice none 0 0, .slice none 0 0, .slice none 0 0, .int .i64 0, .slice none 0 0, .int .i64 0, .int .i64 0, .int .i64 0, .int .i64 0, .int .i64 0, .int .i64 0, .int .i64 0, .int .i64 0, .int .i64 0, .int .i64 0, .int .i64 0, .slice none 0 0, .slice none 0 0]] W fun e V' => e = .returned (.bool false) /\ Below W.heap.size W V') := fun W h => by rw [hA1]; exact HFF.out.sz W _ h
  have HSS : Hid (∀ (W : World) (d : Dv) (S : Nat -> Prop), OneIn w V1.heap.size W -> Has tyEdition d -> RdD S W d -> (∀ b, S b -> b < W.heap.size) -> d.toV = oneV -> (Calls Tryz.prog 15 #[.agg d.cells.toArray, .agg A1] W fun e V' => e = .returned (.bool true) /\ Below W.heap.size W V') /\ Calls Tryz.prog 18 #[.agg d.cells.toArray, .agg A1] W fun e V' => e = .returned (.bool true) /\ Below W.heap.size W V') := fun W d S h => by rw [hA1]; exact HFF.out.s W _ d S h
  have HF1 : Hid (∀ W, Calls Tryz.prog 28 #[.string ⟨ZB.toArray⟩, .string ⟨pre1.toArray⟩] W fun e w' => e = .returned (.bool true) /\ w' = W) := fun W => by
    have := Tryz.strings_HasPrefix ⟨ZB.toArray⟩ ⟨pre1.toArray⟩ W
    rw [show (⟨ZB.toArray⟩ : ByteArray).data.toList = ZB from rfl, show (⟨pre1.toArray⟩ : ByteArray).data.toList = pre1 from rfl, HFF.out.z] at this
    exact this
  have HF2 : Hid (∀ W, Calls Tryz.prog 28 #[.string ⟨OB.toArray⟩, .string ⟨pre2.toArray⟩] W fun e w' => e = .returned (.bool true) /\ w' = W) := fun W => by
    have := Tryz.strings_HasPrefix ⟨OB.toArray⟩ ⟨pre2.toArray⟩ W
    rw [show (⟨OB.toArray⟩ : ByteArray).data.toList = OB from rfl, show (⟨pre2.toArray⟩ : ByteArray).data.toList = pre2 from rfl, HFF.out.o] at this
    exact this
  have HPA := hiq HFF.out.pa
  have e1 : (#[.string ⟨#[97]⟩, .slice (some ⟨V1.heap.size + 1, 0, none⟩) 1 1, .slice none 0 0, .int .i64 0, .int .i64 0, .int .i64 0, .int .i64 0, .slice none 0 0, .slice none 0 0, .slice none 0 0, .int .i64 7, .slice none 0 0, .int .i64 0, .int .i64 0, .int .i64 0, .int .i64 0, .int .i64 0, .int .i64 0, .int .i64 0, .int .i64 0, .int .i64 0, .int .i64 0, .int .i64 0, .slice none 0 0, .slice none 0 0] : Array Value) = A1 := by rw [hA1, one_cells]
  rw [e1]
  clear e1 hA1 HFF HST hb1 HP0
  generalize V1.heap.size = p at *
  rw [<- HR3.out]
  go_wp2_with (first | ((with_reducible refine wpList_ldL (HL1.out _ HIN.out) rfl _ rfl ?_ ?_); rfl) | fail)
  refine (HP1.out _ HIN.out).mono ?_
  rintro e V2 ⟨rfl, hb2⟩
  have HIN2 := hiq (HIN.out.next hb2)
  clear hb2 HIN
  go_wp2_with fail
  rw [<- HR4.out]
  go_wp2_with fail
  refine (HPA.out _ HIN2.out.below).mono ?_
  rintro e V3 ⟨d, rfl, hT, hrd, hv, hb3⟩
  have HIN3 := hiq (HIN2.out.next hb3)
  obtain ⟨WG, hst2, hbG, hboxG, hrG⟩ := back_new hT hrd
  have HIN4 := hiq (HIN3.out.next hbG)
  have HST2 := hiq hst2
  have HLD2 : Hid (∀ W, Below WG.heap.size WG W -> LdV V3.heap.size 40 (.agg d.cells.toArray) W) := fun W hW => LT.ld .edi rfl (LT.len .edi hT).1 ((hW.block _ (Array.getElem?_eq_some_iff.1 hboxG).1).trans hboxG)
  have HSM : Hid (∀ W, Below WG.heap.size WG W -> (Calls Tryz.prog 15 #[.agg d.cells.toArray, .agg A1] W fun e V' => e = .returned (.bool true) /\ Below W.heap.size W V') /\ Calls Tryz.prog 18 #[.agg d.cells.toArray, .agg A1] W fun e V' => e = .returned (.bool true) /\ Below W.heap.size W V') := fun W hW => HSS.out W d _ (HIN4.out.next hW) hT (hrG.below hW) (fun b (hb : b < V3.heap.size) => by have := hbG.size; have := hW.size; omega) hv
  have HZZ : Hid ((Tryz.prog.info? 40).map (·.size) = some d.cells.length) := by
    obtain ⟨i0, ei, ez0, ez1, ez2⟩ := info_parts (LT.info .edi)
    show _ = _
    rw [show 40 = LT.tid .edi from rfl, ei]; simp [ez1, (LT.len .edi hT).1]
  dsimp only [LT.zero] at HST2
  clear hst2 hbG hboxG hrG hT hrd hv hb3 HSS HPA HIN2 HP1
  generalize d.cells = DC at *
  go_wp2_with ((with_reducible refine wpList_stL HST2.out rfl _ _ _ rfl ?_ ?_ ?_ ?_); rfl; rfl; exact HZZ.out)
  rw [<- HR5.out]
  clear HR3 HR4 HR5 HST2
  go_wp2_with fail
  dsimp only [pre1, pre2] at HF1 HF2
  refine (HF1.out _).mono ?_
  rintro e W' ⟨rfl, hw⟩
  obtain rfl := hw.symm
  clear hw
  go_wp2_with fail
  refine (HF2.out _).mono ?_
  rintro e W' ⟨rfl, hw⟩
  obtain rfl := hw.symm
  clear hw HF1 HF2
  have HB0 : Hid (Below WG.heap.size WG WG) := Below.refl _ _
  go_wp2_with (first | ((with_reducible refine wpList_ldG (HLD2.out _ HB0.out) _ rfl ?_ ?_ ?_); (first | rfl | (simp [Region.wanted, yielded]; done)); rfl) | ((with_reducible refine wpList_ldG (HL1.out _ HIN4.out) _ rfl ?_ ?_ ?_); (first | rfl | (simp [Region.wanted, yielded]; done)); rfl) | fail)
  refine (HSM.out _ HB0.out).1.mono ?_
  rintro e W5 ⟨rfl, hb5⟩
  have HB5 := hiq hb5
  have HIN5 := hiq (HIN4.out.next hb5)
  clear hb5
  go_wp2_with (first | ((with_reducible refine wpList_ldG (HLD2.out _ HB5.out) _ rfl ?_ ?_ ?_); (first | rfl | (simp [Region.wanted, yielded]; done)); rfl) | ((with_reducible refine wpList_ldG (HL1.out _ HIN5.out) _ rfl ?_ ?_ ?_); (first | rfl | (simp [Region.wanted, yielded]; done)); rfl) | fail)
  refine (HSM.out _ HB5.out).2.mono ?_
  rintro e W6 ⟨rfl, hb6⟩
  have HIN6 := hiq (HIN5.out.next hb6)
  clear hb6
  go_wp2_with (first | ((with_reducible refine wpList_ldG (HL1.out _ HIN6.out) _ rfl ?_ ?_ ?_); (first | rfl | (simp [Region.wanted, yielded]; done)); rfl) | fail)
  refine (HSZ.out _ HIN6.out).mono ?_
  rintro e W7 ⟨rfl, hb7⟩
  have HIN7 := hiq (HIN6.out.next hb7)
  clear hb7
  go_wp2
  go_ret
  exact ⟨rfl, HIN7.out.below⟩
end Go.Proofs.YtlbcmeebcfalpaaGreatDoor
namespace Go.Proofs.YtlbcmeebcfalpaaGreatDoor
open Go.RowKit

/-- The box of the value and the box of the result. -/
structure KE (w : World) (C : Array Value) (V : World) : Prop where
  below : Below w.heap.size w V
  val : V.heap[w.heap.size]? = some (.cells C 24 (0, 0))
  res : V.heap[w.heap.size + 1]? = some (.cells (LT.zero .edi).toArray 40 (0, 0))
theorem KE.next {w V V' : World} {C : Array Value} (h : KE w C V) (hb : Below V.heap.size V V') : KE w C V' :=
  ⟨h.below.trans (hb.mono h.below.size), (hb.block _ (Array.getElem?_eq_some_iff.1 h.val).1).trans h.val, (hb.block _ (Array.getElem?_eq_some_iff.1 h.res).1).trans h.res⟩
theorem KE.new (w : World) (C : Array Value) : KE w C ((w.alloc (.cells C 24)).alloc (.cells (LT.zero .edi).toArray 40)) :=
  ⟨((Below.refl _ _).alloc (Nat.le_refl _) _).alloc (by simp) _, alloc_heap_some (World.alloc_heap_new w (.cells C 24)), by
    have := World.alloc_heap_new (w.alloc (.cells C 24)) (.cells (LT.zero .edi).toArray 40)
    simpa using this⟩
/-- Data of an edition into the result's block. -/
theorem res_put {V : World} {b : Nat} {d : Dv} (hT : Has tyEdition d) (hz : V.heap[b]? = some (.cells (LT.zero .edi).toArray 40 (0, 0))) : StO b 0 40 (.agg d.cells.toArray) V (putL V b 0 d.cells) /\ LdV b 40 (.agg d.cells.toArray) (putL V b 0 d.cells) := by
  obtain ⟨h1, h2, h3, h4⟩ := LT.len .edi hT
  have e1 : (Value.agg d.cells.toArray).cells.toList = d.cells := by simp [Value.cells]
  have hst := stO_of (b := b) (o := 0) (t := LT.tid .edi) (v := .agg d.cells.toArray) (W := V) (by rw [LT.info_sz]; simp [Value.cells, h1]) hz (by simp [Value.cells, h1, h2]) (by simpa [Value.cells] using h3)
  rw [e1] at hst
  exact ⟨hst, LT.ld .edi rfl h1 (putL_at _ (by rw [h1]; simp [LT.zero]) hz)⟩
theorem edition_ref (S : Nat -> Prop) (v : Vl) (w : World) (hr : Rd S w v) (hS : ∀ b, S b -> b < w.heap.size) (hm : SmV v.er) : Calls Tryz.prog 14 #[v.val] w (EdP v.er w) := by
  obtain ⟨k, nn, t, a, c, l⟩ := v
  have hk0 := KE.new w #[.int .i64 k, .int .i64 nn, .string t, .slice a l.length c]
  have HC : Hid (∀ V, KE w #[.int .i64 k, .int .i64 nn, .string t, .slice a l.length c] V -> Calls Tryz.prog 34 #[.agg #[.int .i64 k, .int .i64 nn, .string t, .slice a l.length c]] V fun e V' => e = .returned (.int .i64 (chkV (Vl.mk k nn t a c l).er)) /\ Below V.heap.size V V') := fun V h => check_ref S (.mk k nn t a c l) V (hr.below h.below)
  have HE : Hid (∀ V, KE w #[.int .i64 k, .int .i64 nn, .string t, .slice a l.length c] V -> Calls Tryz.prog 35 #[.agg #[.int .i64 k, .int .i64 nn, .string t, .slice a l.length c]] V (ToQ tyEdition (Vl.mk k nn t a c l).er V)) := fun V h => toEdition_ref S (.mk k nn t a c l) V (hr.below h.below) (fun b hb => Nat.lt_of_lt_of_le (hS b hb) h.below.size) hm
  have HBAD : Hid (∀ V err, KE w #[.int .i64 k, .int .i64 nn, .string t, .slice a l.length c] V -> err = (if chkV (Vl.mk k nn t a c l).er = 4 then 4 else 9) -> ¬ (chkV (Vl.mk k nn t a c l).er = 0 /\ Fit tyEdition (Vl.mk k nn t a c l).er) -> ∃ WF, StO (w.heap.size + 1) 0 40 (.agg #[.string ⟨#[]⟩, .slice none 0 0, .slice none 0 0, .int .i64 0, .int .i64 0, .int .i64 0, .int .i64 0, .slice none 0 0, .slice none 0 0, .slice none 0 0, .int .i64 0, .slice none 0 0, .int .i64 0, .int .i64 0, .int .i64 0, .int .i64 0, .int .i64 0, .int .i64 0, .int .i64 0, .int .i64 0, .int .i64 0, .int .i64 0, .int .i64 0, .slice none 0 0, .slice none 0 0]) V WF /\ LdV (w.heap.size + 1) 40 (.agg #[.string ⟨#[]⟩, .slice none 0 0, .slice none 0 0, .int .i64 0, .int .i64 0, .int .i64 0, .int .i64 0, .slice none 0 0, .slice none 0 0, .slice none 0 0, .int .i64 0, .slice none 0 0, .int .i64 0, .int .i64 0, .int .i64 0, .int .i64 0, .int .i64 0, .int .i64 0, .int .i64 0, .int .i64 0, .int .i64 0, .int .i64 0, .int .i64 0, .slice none 0 0, .slice none 0 0]) WF /\ EdP (Vl.mk k nn t a c l).er w (.returned (.tuple #[.agg #[.string ⟨#[]⟩, .slice none 0 0, .slice none 0 0, .int .i64 0, .int .i64 0, .int .i64 0, .int .i64 0, .slice none 0 0, .slice none 0 0, .slice none 0 0, .int .i64 0, .slice none 0 0, .int .i64 0, .int .i64 0, .int .i64 0, .int .i64 0, .int .i64 0, .int .i64 0, .int .i64 0, .int .i64 0, .int .i64 0, .int .i64 0, .int .i64 0, .slice none 0 0, .slice none 0 0], .int .i64 err])) WF) := fun V err h he hn => by
    have := res_put zeroEd_has h.res
    rw [zeroEd_cells] at this
    exact ⟨_, this.1, this.2, EdP.bad (W := V) h.below rfl he hn⟩
  have HOK : Hid (∀ (V : World) (d : Dv), KE w #[.int .i64 k, .int .i64 nn, .string t, .slice a l.length c] V -> Has tyEdition d -> RdD (fun b => w.heap.size + 2 <= b /\ b < V.heap.size) V d -> chkV (Vl.mk k nn t a c l).er = 0 -> Fit tyEdition (Vl.mk k nn t a c l).er -> d.toV = nrm (Vl.mk k nn t a c l).er -> ∃ WF, StO (w.heap.size + 1) 0 40 (.agg d.cells.toArray) V WF /\ LdV (w.heap.size + 1) 40 (.agg d.cells.toArray) WF /\ EdP (Vl.mk k nn t a c l).er w (.returned (.tuple #[.agg d.cells.toArray, .int .i64 0])) WF) := fun V d h hT hrd hc hf hv => by
    obtain ⟨h1, h2⟩ := res_put hT h.res
    have hx := putL_exc (w.heap.size + 1) d.cells 0 V
    have hxs := hx.size
    refine ⟨_, h1, h2, d, 0, rfl, hT, (hrd.keep (hx.keepS fun b hb hn => by have := hb.1; omega)).mono fun b hb => ⟨by have := hb.1; omega, by have := hb.2; omega⟩, ((Exc.below (N := fun b => b = w.heap.size + 1) h.below).step hx fun b _ h => h).to_below (Nat.le_refl _) fun b hb => by omega, .inl ⟨rfl, hc, hf, ?_⟩⟩
    rw [hv, nrm_ok _ (chkV_all hc)]
  obtain ⟨y0, y1, y2, y3, -⟩ := box_cells hk0.val
  have HK := hiq hk0
  have HS : Hid (∀ V, KE w #[.int .i64 k, .int .i64 nn, .string t, .slice a l.length c] V -> w.heap.size + 2 <= V.heap.size) := fun V h => by have := (Array.getElem?_eq_some_iff.1 h.res).1; omega
  dsimp only [LT.zero] at y0 y1 y2 y3 HK
  clear hk0 hr hS hm
  change Calls _ _ #[.agg #[.int .i64 k, .int .i64 nn, .string t, .slice a l.length c]] _ _
  obtain ⟨x, hx⟩ : ∃ x, x = (Vl.mk k nn t a c l).er := ⟨_, rfl⟩
  rw [<- hx] at HC HE HBAD HOK ⊢
  clear hx
  obtain ⟨cc, hcc⟩ : ∃ cc, cc = chkV x := ⟨_, rfl⟩
  rw [<- hcc] at HC HBAD HOK
  clear hcc
  go_enter Tryz.func14, Tryz.ntmps14
  go_wp2_with fail
  refine (HC.out _ HK.out).mono ?_
  generalize World.alloc (World.alloc _ _) _ = W1 at *
  clear y0 y1 y2 y3
  rintro e V1 ⟨rfl, hb⟩
  replace HK := hiq (HK.out.next hb)
  clear hb HC
  by_cases h4 : cc = 4
  · subst h4
    obtain ⟨WF, hs, hl, hP⟩ := HBAD.out V1 4 HK.out (by simp) (fun h => by simp at h)
    have HST := hiq hs
    have HLD := hiq hl
    have HP := hiq hP
    clear hs hl hP HBAD HOK HE
    go_wp2_with (first | ((with_reducible refine wpList_stO HST.out rfl _ _ rfl ?_ ?_ ?_); rfl; rfl) | fail)
    exact ret_ldL2 HLD.out rfl rfl rfl rfl HP.out
  have h44 : (cc == 4) = false := by simpa using h4
  obtain ⟨y0, y1, y2, y3, -⟩ := box_cells HK.out.val
  go_wp2_with fail
  refine (HE.out _ HK.out).mono ?_
  rintro e V2 ⟨d, ok, he, hT, hrd, hb, hiff, htv⟩
  rw [(LT.len .edi hT).2.2.2 rfl] at he
  subst he
  clear y0 y1 y2 y3
  have hk1 := HK.out
  have hsz := HS.out _ hk1
  replace HK := hiq (hk1.next hb)
  obtain ⟨WG, hst2, hbG, hboxG, hrG⟩ := back_new hT (hrd.mono (S' := NewB V1 V2) fun b h => h)
  have HK2 := hiq (HK.out.next hbG)
  have hrG2 : RdD (fun b => w.heap.size + 2 <= b /\ b < WG.heap.size) WG d := ((hrd.below hbG).mono fun b h => ⟨by have := h.1; omega, by have := h.2; have := hbG.size; omega⟩)
  have HST2 := hiq hst2
  have HLD2 : Hid (LdV V2.heap.size 40 (.agg d.cells.toArray) WG) := LT.ld .edi rfl (LT.len .edi hT).1 hboxG
  have HZZ : Hid ((Tryz.prog.info? 40).map (·.size) = some d.cells.length) := by
    obtain ⟨i0, ei, ez0, ez1, ez2⟩ := info_parts (LT.info .edi)
    show _ = _
    rw [show 40 = LT.tid .edi from rfl, ei]; simp [ez1, (LT.len .edi hT).1]
  have HFIN : Hid ((¬ (cc = 0 /\ ok = true) -> ∃ WF, StO (w.heap.size + 1) 0 40 (.agg #[.string ⟨#[]⟩, .slice none 0 0, .slice none 0 0, .int .i64 0, .int .i64 0, .int .i64 0, .int .i64 0, .slice none 0 0, .slice none 0 0, .slice none 0 0, .int .i64 0, .slice none 0 0, .int .i64 0, .int .i64 0, .int .i64 0, .int .i64 0, .int .i64 0, .int .i64 0, .int .i64 0, .int .i64 0, .int .i64 0, .int .i64 0, .int .i64 0, .slice none 0 0, .slice none 0 0]) WG WF /\ LdV (w.heap.size + 1) 40 (.agg #[.string ⟨#[]⟩, .slice none 0 0, .slice none 0 0, .int .i64 0, .int .i64 0, .int .i64 0, .int .i64 0, .slice none 0 0, .slice none 0 0, .slice none 0 0, .int .i64 0, .slice none 0 0, .int .i64 0, .int .i64 0, .int .i64 0, .int .i64 0, .int .i64 0, .int .i64 0, .int .i64 0, .int .i64 0, .int .i64 0, .int .i64 0, .int .i64 0, .slice none 0 0, .slice none 0 0]) WF /\ EdP x w (.returned (.tuple #[.agg #[.string ⟨#[]⟩, .slice none 0 0, .slice none 0 0, .int .i64 0, .int .i64 0, .int .i64 0, .int .i64 0, .slice none 0 0, .slice none 0 0, .slice none 0 0, .int .i64 0, .slice none 0 0, .int .i64 0, .int .i64 0, .int .i64 0, .int .i64 0, .int .i64 0, .int .i64 0, .int .i64 0, .int .i64 0, .int .i64 0, .int .i64 0, .int .i64 0, .slice none 0 0, .slice none 0 0], .int .i64 9])) WF) /\ (cc = 0 -> ok = true -> ∃ WF, StO (w.heap.size + 1) 0 40 (.agg d.cells.toArray) WG WF /\ LdV (w.heap.size + 1) 40 (.agg d.cells.toArray) WF /\ EdP x w (.returned (.tuple #[.agg d.cells.toArray, .int .i64 0])) WF)) :=
    ⟨fun hn => HBAD.out WG 9 HK2.out (by rw [if_neg h4]) (fun h => hn ⟨h.1, hiff.2 h.2⟩), fun h1 h2 => HOK.out WG d HK2.out hT hrG2 h1 (hiff.1 h2) (htv h2)⟩
  dsimp only [LT.zero] at HST2
  clear hst2 hbG hboxG hrG hrG2 hT hrd hb hiff htv hk1 hsz HBAD HOK HE HS
  generalize d.cells = DC at *
  by_cases h0 : cc = 0
  · subst h0
    cases ok
    · obtain ⟨WF, hs, hl, hP⟩ := HFIN.out.1 (by simp)
      have HST := hiq hs
      have HLD := hiq hl
      have HP := hiq hP
      clear hs hl hP HFIN
      go_wp2_with (first | ((with_reducible refine wpList_stL HST2.out rfl _ _ _ rfl ?_ ?_ ?_ ?_); rfl; rfl; exact HZZ.out) | ((with_reducible refine wpList_stO HST.out rfl _ _ rfl ?_ ?_ ?_); rfl; rfl) | fail)
      exact ret_ldL2 HLD.out rfl rfl rfl rfl HP.out
    · obtain ⟨WF, hs, hl, hP⟩ := HFIN.out.2 rfl rfl
      have HST := hiq hs
      have HLD := hiq hl
      have HP := hiq hP
      clear hs hl hP HFIN
      go_wp2_with (first | ((with_reducible refine wpList_stL HST2.out rfl _ _ _ rfl ?_ ?_ ?_ ?_); rfl; rfl; exact HZZ.out) | ((with_reducible refine wpList_ldL HLD2.out rfl _ rfl ?_ ?_); rfl) | ((with_reducible refine wpList_stO HST.out rfl _ _ rfl ?_ ?_ ?_); rfl; rfl) | fail)
      exact ret_ldL2 HLD.out rfl rfl rfl rfl HP.out
  · have h00 : (cc != 0) = true := by simp [h0]
    obtain ⟨WF, hs, hl, hP⟩ := HFIN.out.1 (fun h => h0 h.1)
    have HST := hiq hs
    have HLD := hiq hl
    have HP := hiq hP
    clear hs hl hP HFIN h0
    go_wp2_with (first | ((with_reducible refine wpList_stL HST2.out rfl _ _ _ rfl ?_ ?_ ?_ ?_); rfl; rfl; exact HZZ.out) | ((with_reducible refine wpList_stO HST.out rfl _ _ rfl ?_ ?_ ?_); rfl; rfl) | fail)
    exact ret_ldL2 HLD.out rfl rfl rfl rfl HP.out
end Go.Proofs.YtlbcmeebcfalpaaGreatDoor
namespace Go.Proofs.YtlbcmeebcfalpaaGreatDoor
open Go.RowKit Go.Shelf

/-- What number of the reference answers. -/
def NumRPost (e : UInt8) (s : ByteArray) (w : World) (en : Ending) (w' : World) : Prop := ∃ (n : Int) (k : Nat) (ok : Bool), en = .returned (.tuple #[.int .i64 n, .int .i64 (k : Int), .bool ok]) /\ I64 n /\ k <= s.size /\
  ((ok = true /\ numP e s.data.toList = some (n, s.data.toList.drop k)) \/ (ok = false /\ numP e s.data.toList = none)) /\ Below w.heap.size w w'
theorem index_found {l : List UInt8} {e : UInt8} {j : Nat} (h : l[j]? = some e) (hn : e ∉ l.take j) : Lib.indexByte l e = (j : Int) := by
  have hj := (List.getElem?_eq_some_iff.1 h).1
  have he := (List.getElem?_eq_some_iff.1 h).2
  have e1 : l = l.take j ++ e :: l.drop (j + 1) := by rw [<- he, <- List.drop_eq_getElem_cons hj, List.take_append_drop]
  have := indexByte_at (l.take j) (l.drop (j + 1)) e hn
  rw [<- e1, List.length_take] at this
  rw [this]; omega
theorem number_ref (e : UInt8) (s : ByteArray) (hs : s.size <= 1048576) (w : World) (hE : Env w) : Calls Tryz.prog 148 #[.string s, .int .u8 e.toNat] w (NumRPost e s w) := by
  have HE := hiq hE
  have hl : s.data.toList.length = s.size := Array.length_toList
  have HL := hiq hl
  clear hE hl
  go_enter Tryz.func148, Tryz.ntmps148
  go_wp2_with fail
  go_loopw [7] (fun i wr => ∃ (j : Nat), i = .int .i64 j /\ j <= s.size /\ j <= 24 /\ Hid (e ∉ s.data.toList.take j) /\ wr = w) (fun i _ => 24 - (intOf i).toNat)
  case atStart => exact ⟨0, rfl, Nat.zero_le _, Nat.zero_le _, (by show e ∉ List.take 0 _; simp), rfl⟩
  case round =>
    obtain ⟨j, rfl, hj, hj24, hno, rfl⟩ := hrel
    by_cases hjs : j < s.size
    · by_cases hj2 : j < 24
      · have hcj : s.data.toList[j]? = some (s[j]'hjs) := by rw [List.getElem?_eq_getElem (by rw [HL.out]; exact hjs)]; rfl
        generalize hc : s[j]'hjs = c at *
        by_cases hce : c = e
        · subst hce
          have hidx : Lib.indexByte (s.data.toList.take 24) c = (j : Int) := index_found (by rw [List.getElem?_take_of_lt hj2]; exact hcj) (by rw [List.take_take, Nat.min_eq_left (by omega)]; exact hno.out)
          have HP : Hid (numP c s.data.toList = if Lib.itoa (atoiN (s.data.toList.take j)) = s.data.toList.take j then some (atoiN (s.data.toList.take j), s.data.toList.drop (j + 1)) else none) := by
            show _ = _
            unfold numP
            rw [hidx, if_neg (by omega)]
            simp only [Int.toNat_natCast]
          have dee : ((c.toNat : Int) == (c.toNat : Int)) = true := by simp
          have hlk : (s.extract 0 j).data.toList = s.data.toList.take j := by rw [ext_list, List.drop_zero, Nat.sub_zero]
          have hsk : (s.extract 0 j).size = j := by simp; omega
          have FA := hiq (fun W hE' => atoi_any (s.extract 0 j) (by omega) W hE')
          rw [hlk] at FA
          have hN64 := atoiN_i64 (s.data.toList.take j)
          have HLK := hiq hlk
          have hwk : IntKind.i64.wrap ((j : Int) + 1) = (j : Int) + 1 := IntWalk.i64_in _ (by omega)
          have HJ := hiq hjs
          clear hno hcj hidx hlk hsk
          generalize s.data.toList.take j = L at *
          have IT := hiq (fun W hE' => itoa_any (atoiN L) hN64 W hE')
          have HN64 := hiq hN64
          go_wp2_with fail
          refine (FA.out _ HE.out).mono ?_
          rintro e2 w2 ⟨err, rfl, herr, hb2⟩
          have hE2 := HE.out.below hb2
          clear herr
          go_wp2_with fail
          obtain ⟨X, Wf, hX, hS1, hS2⟩ := family (fun W => Below wr.heap.size wr W) w2 hb2
          have HS1 := hiq hS1
          have HS2 := hiq hS2
          clear hS1 hS2
          refine wp_region_quiet (C := fun W => ∃ x, W = Wf x) (by kernel_rfl) (by kernel_rfl) (HS2.out _ hb2.drew) ?_
          simp only []
          repeat (go_big_quiet_step ((go_at_call 198; refine (IT.out _ (HE.out.below (HS1.out _))).mono ?_; rintro e4 w4 ⟨rfl, hb4⟩; exact ⟨rfl, HS2.out _ ((HS1.out _).trans (hb4.mono (HS1.out _).size))⟩)))
          refine wpQuiet_nil ?_
          rintro w5 ⟨x5, rfl⟩
          have hb5 := HS1.out x5
          generalize Wf x5 = w5 at *
          go_wp2
          go_ret3
          refine ⟨atoiN L, j + 1, _, rfl, HN64.out, by have := HJ.out; omega, ?_, hb5⟩
          by_cases hq : Lib.itoa (atoiN L) = L
          · refine .inl ⟨?_, by rw [HP.out, if_pos hq]⟩
            rw [Lib.toList_data, HLK.out]; simp [hq]
          · refine .inr ⟨?_, by rw [HP.out, if_neg hq]⟩
            rw [Lib.toList_data, HLK.out]; simp [hq]
        · have dne : ((c.toNat : Int) == (e.toNat : Int)) = false := by
            rw [beq_eq_false_iff_ne]; intro h; exact hce (UInt8.toNat_inj.1 (by omega))
          have hno2 : Hid (e ∉ s.data.toList.take (j + 1)) := by
            show _
            rw [List.take_add_one, hcj]
            simp only [Option.toList_some, List.mem_append, List.mem_singleton, not_or]
            exact ⟨hno.out, fun h => hce h.symm⟩
          clear hno hcj
          go_wp2_with fail
          go_roundw
          case rel => exact ⟨j + 1, by go_num, by omega, by omega, hno2.out, trivial⟩
          case measure => simp [intOf]; omega
      · obtain rfl : j = 24 := by omega
        have HP : Hid (numP e s.data.toList = none) := by
          show _ = _
          unfold numP
          rw [if_pos]
          rcases indexByte_spec (s.data.toList.take 24) e with ⟨h1, _⟩ | ⟨i, h1, h2, h3, h4⟩
          · rw [h1]; decide
          · exact absurd (List.mem_of_getElem? h3) hno.out
        clear hno
        go_wp2
        go_ret3
        exact ⟨0, 0, false, rfl, I64.zero, Nat.zero_le _, .inr ⟨rfl, HP.out⟩, Below.refl _ _⟩
    · obtain rfl : j = s.size := by omega
      have HP : Hid (numP e s.data.toList = none) := by
        show _ = _
        unfold numP
        rw [if_pos]
        rcases indexByte_spec (s.data.toList.take 24) e with ⟨h1, _⟩ | ⟨i, h1, h2, h3, h4⟩
        · rw [h1]; decide
        · have := hno.out
          rw [List.take_of_length_le (by rw [HL.out]; exact Nat.le_refl _)] at this
          exact absurd (List.mem_of_mem_take (List.mem_of_getElem? h3)) this
      clear hno
      go_wp2
      go_ret3
      exact ⟨0, 0, false, rfl, I64.zero, Nat.zero_le _, .inr ⟨rfl, HP.out⟩, Below.refl _ _⟩
end Go.Proofs.YtlbcmeebcfalpaaGreatDoor
