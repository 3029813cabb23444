/- progressive.add. -/
import Derived.Test.YtaelfjlmkgimhaaGreatDoorPGa
set_option linter.unusedVariables false
set_option linter.unusedSimpArgs false
namespace Go.Proofs.YtaelfjlmkgimhaaGreatDoor
open Go.RowKit Go.Shelf
attribute [local go_sem] Oper.semAt_some

theorem boxes5 (w : World) (A B C D E : Array Value) (ta tb tc td te : TypeId) (W : World) (hW : W = ((((w.alloc (.cells A ta)).alloc (.cells B tb)).alloc (.cells C tc)).alloc (.cells D td)).alloc (.cells E te)) :
    W.heap[w.heap.size]? = some (.cells A ta (0, 0)) ∧ W.heap[w.heap.size + 1]? = some (.cells B tb (0, 0)) ∧ W.heap[w.heap.size + 2]? = some (.cells C tc (0, 0)) ∧ W.heap[w.heap.size + 3]? = some (.cells D td (0, 0)) ∧ W.heap[w.heap.size + 4]? = some (.cells E te (0, 0)) ∧ W.heap.size = w.heap.size + 5 ∧ Below w.heap.size w W := by
  obtain ⟨h1, h2, h3⟩ := boxes3b w A B C ta tb tc
  have hs : (((w.alloc (.cells A ta)).alloc (.cells B tb)).alloc (.cells C tc)).heap.size = w.heap.size + 3 := by simp
  have hb : Below w.heap.size w (((w.alloc (.cells A ta)).alloc (.cells B tb)).alloc (.cells C tc)) := (((Below.refl _ _).alloc (Nat.le_refl _) _).alloc (by simp) _).alloc (by simp; omega) _
  generalize (((w.alloc (.cells A ta)).alloc (.cells B tb)).alloc (.cells C tc)) = W3 at *
  have h4 := World.alloc_heap_new W3 (.cells D td)
  have h5 := World.alloc_heap_new (W3.alloc (.cells D td)) (.cells E te)
  have hs4 : (W3.alloc (.cells D td)).heap.size = w.heap.size + 4 := by simp [hs]
  have hs5 : W.heap.size = w.heap.size + 5 := by rw [hW]; simp [hs]
  have k : ∀ b o, b < w.heap.size + 3 → W3.heap[b]? = some o → W.heap[b]? = some o := fun b o hb h => by
    rw [hW, Below.heap_alloc _ _ _ (by omega), Below.heap_alloc _ _ _ (by omega)]; exact h
  refine ⟨k _ _ (by omega) h1, k _ _ (by omega) h2, k _ _ (by omega) h3, ?_, ?_, hs5, ?_⟩
  · rw [hW, Below.heap_alloc _ _ _ (by omega), ← hs]; exact h4
  · rw [hW, ← hs4]; exact h5
  · rw [hW]; exact (hb.alloc (by omega) _).alloc (by omega) _
/-- The loop's relation. -/
def addI (cg cn cl cm : Int) (la : Option Addr) (ln lp : Nat) (xa : Option Addr) (xn xp : Nat) (ta : Option Addr) (tn tp b0 bl bx bQ bo : Nat) (w4 : World) (l : List (List Tok)) (t : List Tok) (cols : List Cm) (c : Nat) (a' : Act) (W' : World) : Prop :=
  ∃ (bi bk i k on oc : Nat) (oa : Option Addr) (ps : List (Row × List Int)) (ds : List Deferred) (x : Nat → Value), (c + i + k = xn + tn ∧ i ≤ xn ∧ k ≤ tn ∧ bo < bi ∧ bo < bk ∧ bi ≠ bk ∧ Hid (W'.heap[bi]? = some (.cells #[.int .i64 (i : Int)] 3 (0, 0))) ∧ Hid (W'.heap[bk]? = some (.cells #[.int .i64 (k : Int)] 3 (0, 0))) ∧ Hid (Avd oa ps bi ∧ Avd oa ps bk) ∧ Hid (OutS W' (bo + 1) bo oa on oc ps) ∧ Hid (But (fun b => b = bo) w4 W') ∧ Hid (Marks (bo + 1) ds W') ∧ on ≤ i + k ∧
    Hid (∃ pre : List (Cln Cm Nat), ps.map (·.2) = (pre.map (ext ln)).map colI ∧ pre ++ wayB ⟨cg, cn, cl, cm⟩ l t cols i k = wayB ⟨cg, cn, cl, cm⟩ l t cols 0 0)) ∧ a' = { tmps := #[.agg #[.int .i64 cg, .int .i64 cn, .int .i64 cl, .int .i64 cm], .slice la ln lp, .slice xa xn xp, .slice ta tn tp, .pointer (some ⟨b0, 0, none⟩), .pointer (some ⟨bl, 0, none⟩), .pointer (some ⟨bx, 0, none⟩), undef, .slice none 0 0, .int .i64 0, .pointer (some ⟨bQ, 0, none⟩), .pointer (some ⟨bo, 0, none⟩), .pointer (some ⟨bi, 0, none⟩), .pointer (some ⟨bk, 0, none⟩), undef, undef, x 16, x 17, x 18, x 19, x 20, x 21, x 22, x 23, x 24, x 25, x 26, x 27, x 28, x 29, x 30, x 31, x 32, x 33, x 34, x 35, x 36, x 37, x 38, x 39, x 40, x 41, x 42, x 43, x 44, x 45, x 46, x 47, undef, undef, undef, undef, undef, undef, undef, undef, undef, undef, undef, undef, undef, undef, undef, undef, undef, undef, undef, undef, undef, undef, undef, undef, undef, undef, undef, undef, undef, undef, undef, undef, undef, undef, undef, undef, undef, undef, undef, undef, undef, undef, undef, undef, undef, undef, undef, undef, undef, undef, undef, undef, undef, undef, undef, undef, undef, undef, undef, undef, undef, undef, undef, undef, undef, x 113, x 114, undef], defers := ds }
def addX (x16 x17 x18 x19 x20 x21 x22 x23 x24 x25 x26 x27 x28 x29 x30 x31 x32 x33 x34 x35 x36 x37 x38 x39 x40 x41 x42 x43 x44 x45 x46 x47 x113 x114 : Value) : Nat → Value
  | 16 => x16
  | 17 => x17
  | 18 => x18
  | 19 => x19
  | 20 => x20
  | 21 => x21
  | 22 => x22
  | 23 => x23
  | 24 => x24
  | 25 => x25
  | 26 => x26
  | 27 => x27
  | 28 => x28
  | 29 => x29
  | 30 => x30
  | 31 => x31
  | 32 => x32
  | 33 => x33
  | 34 => x34
  | 35 => x35
  | 36 => x36
  | 37 => x37
  | 38 => x38
  | 39 => x39
  | 40 => x40
  | 41 => x41
  | 42 => x42
  | 43 => x43
  | 44 => x44
  | 45 => x45
  | 46 => x46
  | 47 => x47
  | 113 => x113
  | 114 => x114
  | _ => undef
theorem addI_mk {cg cn cl cm : Int} {la : Option Addr} {ln lp : Nat} {xa : Option Addr} {xn xp : Nat} {ta : Option Addr} {tn tp b0 bl bx bQ bo : Nat} {w4 : World} {l : List (List Tok)} {t : List Tok} {cols : List Cm} {c : Nat} {W' : World} (bi bk i k on oc : Nat) (oa : Option Addr) (ps : List (Row × List Int)) (ds : List Deferred) (x16 x17 x18 x19 x20 x21 x22 x23 x24 x25 x26 x27 x28 x29 x30 x31 x32 x33 x34 x35 x36 x37 x38 x39 x40 x41 x42 x43 x44 x45 x46 x47 x113 x114 : Value)
    (h : c + i + k = xn + tn ∧ i ≤ xn ∧ k ≤ tn ∧ bo < bi ∧ bo < bk ∧ bi ≠ bk ∧ Hid (W'.heap[bi]? = some (.cells #[.int .i64 (i : Int)] 3 (0, 0))) ∧ Hid (W'.heap[bk]? = some (.cells #[.int .i64 (k : Int)] 3 (0, 0))) ∧ Hid (Avd oa ps bi ∧ Avd oa ps bk) ∧ Hid (OutS W' (bo + 1) bo oa on oc ps) ∧ Hid (But (fun b => b = bo) w4 W') ∧ Hid (Marks (bo + 1) ds W') ∧ on ≤ i + k ∧
    Hid (∃ pre : List (Cln Cm Nat), ps.map (·.2) = (pre.map (ext ln)).map colI ∧ pre ++ wayB ⟨cg, cn, cl, cm⟩ l t cols i k = wayB ⟨cg, cn, cl, cm⟩ l t cols 0 0)) : addI cg cn cl cm la ln lp xa xn xp ta tn tp b0 bl bx bQ bo w4 l t cols c { tmps := #[.agg #[.int .i64 cg, .int .i64 cn, .int .i64 cl, .int .i64 cm], .slice la ln lp, .slice xa xn xp, .slice ta tn tp, .pointer (some ⟨b0, 0, none⟩), .pointer (some ⟨bl, 0, none⟩), .pointer (some ⟨bx, 0, none⟩), undef, .slice none 0 0, .int .i64 0, .pointer (some ⟨bQ, 0, none⟩), .pointer (some ⟨bo, 0, none⟩), .pointer (some ⟨bi, 0, none⟩), .pointer (some ⟨bk, 0, none⟩), undef, undef, x16, x17, x18, x19, x20, x21, x22, x23, x24, x25, x26, x27, x28, x29, x30, x31, x32, x33, x34, x35, x36, x37, x38, x39, x40, x41, x42, x43, x44, x45, x46, x47, undef, undef, undef, undef, undef, undef, undef, undef, undef, undef, undef, undef, undef, undef, undef, undef, undef, undef, undef, undef, undef, undef, undef, undef, undef, undef, undef, undef, undef, undef, undef, undef, undef, undef, undef, undef, undef, undef, undef, undef, undef, undef, undef, undef, undef, undef, undef, undef, undef, undef, undef, undef, undef, undef, undef, undef, undef, undef, undef, undef, undef, undef, undef, undef, undef, x113, x114, undef], defers := ds } W' := ⟨bi, bk, i, k, on, oc, oa, ps, ds, addX x16 x17 x18 x19 x20 x21 x22 x23 x24 x25 x26 x27 x28 x29 x30 x31 x32 x33 x34 x35 x36 x37 x38 x39 x40 x41 x42 x43 x44 x45 x46 x47 x113 x114, h, rfl⟩
set_option maxRecDepth 100000 in
set_option maxHeartbeats 8000000 in
theorem add_any (S1 S2 S3 : Nat → Prop) (c : Cst) (la xa ta : Option Addr) (ln lp xn xp tn tp : Nat) (l : List (List Tok)) (t : List Tok) (cols : List Cm) (w : World) (hl : Tokss S1 w la ln lp l) (hx : Numss S2 w xa xn xp (cols.map colI)) (ht : Toks S3 w ta tn tp t)
    (hv : VdA c l t cols) (hcl : cols.length ≤ 64) (htl : t.length ≤ 16) (hE : Env w) :
    Calls Tryz.prog 23 #[c.val, .slice la ln lp, .slice xa xn xp, .slice ta tn tp] w fun e w' => ∃ a' n' c', e = .returned (.tuple #[.slice a' n' c', .int .i64 0]) ∧
      Numss (fun b => w.heap.size ≤ b) w' a' n' c' ((addC (pB c l t) (gB c l t) (fB c l t) l.length cols t.length).map colI) ∧ Below w.heap.size w w' := by
  have hR : RdA (fun b => b < w.heap.size) w c ⟨la, ln, lp, xa, xn, xp, ta, tn, tp, none, 0, 0⟩ l t cols := ⟨hl.mono (rSl_ok rTok_ok) (fun _ _ h => h), ht.mono rTok_ok (fun _ _ h => h), hx.mono (rSl_ok rInt_ok) (fun _ _ h => h)⟩
  have hxn : xn = cols.length := by have := hx.len; rwa [List.length_map] at this
  have htn : tn = t.length := ht.len
  have hln : ln = l.length := hl.len
  have hxb : xn ≤ 64 := by omega
  have htb : tn ≤ 16 := by omega
  have hlb : ln ≤ 32 := by have := hv.vl.n; omega
  have HLO := Lib.hid (hE.lo (Below.refl _ _))
  have HV := Lib.hid hv
  have HR := Lib.hid hR
  have HLN := Lib.hid (And.intro hxn (And.intro htn hln))
  have HFI := Lib.hid (fun (W : World) (hW : Below w.heap.size w W) (ba : Nat) (h1 : W.heap[ba]? = some (.cells (AV.arr ⟨la, ln, lp, xa, xn, xp, ta, tn, tp, none, 0, 0⟩ c) 83 (0, 0))) (hba : w.heap.size ≤ ba) =>
    fill_any c la xa ta ln lp xn xp tn tp l t cols ba w.heap.size W (hR.keep (KeepS.below hW)) hv h1 hba hW.size (by omega) (by omega) (HLO.out.below hW))
  have hp1 : IntKind.i64.wrap ((xn : Int) + 1) = (xn : Int) + 1 := by rw [IntKind.wrap_i64]; omega
  have hp2 : IntKind.i64.wrap ((tn : Int) + 1) = (tn : Int) + 1 := by rw [IntKind.wrap_i64]; omega
  obtain ⟨pp, hpp⟩ : ∃ pp : Int, pp = ((xn : Int) + 1) * ((tn : Int) + 1) := ⟨_, rfl⟩
  have hpb : 0 ≤ pp ∧ pp ≤ 1105 := by
    rw [hpp]
    have h1 : ((xn : Int) + 1) ≤ 65 := by omega
    have h2 : ((tn : Int) + 1) ≤ 17 := by omega
    refine ⟨Int.mul_nonneg (by omega) (by omega), ?_⟩
    have := Int.mul_le_mul h1 h2 (by omega) (by omega)
    omega
  have hpw : IntKind.i64.wrap pp = pp := by rw [IntKind.wrap_i64]; omega
  have hpd : decide (1048576 < pp) = false := decide_eq_false (by omega)
  have hpm : ((xn : Int) + 1) * ((tn : Int) + 1) = pp := hpp.symm
  clear hpp hl hx ht hv hR hcl htl hE hxn htn hln
  obtain ⟨cg, cn, cl, cm⟩ := c
  dsimp only [Cst.val, Cst.arr]
  refine (callsIn_wide (n := 10)).1 ?_
  refine callsIn_of_wp_marks Tryz.func23 rfl trivial ?_ rfl
  simp only [Tryz.ntmps23, List.size_toArray, List.length_cons, List.length_nil, Nat.reduceAdd, Nat.reduceSub, Array.replicate_succ, Array.replicate_zero, List.push_toArray, List.append_toArray, List.nil_append, List.cons_append]
  gi_wp2_with (fail)
  obtain ⟨W5, hW5⟩ : ∃ W5, W5 = (((((w.alloc (.cells #[.int .i64 cg, .int .i64 cn, .int .i64 cl, .int .i64 cm] 23)).alloc (.cells #[.slice la ln lp] 24)).alloc (.cells #[.slice xa xn xp] 31)).alloc (.cells #[.int .i64 cg, .int .i64 cn, .int .i64 cl, .int .i64 cm, .slice la ln lp, .slice xa xn xp, .slice ta tn tp, .slice none 0 0] 83)).alloc (.cells #[.pointer (some ⟨w.heap.size + 1 + 1 + 1, 0, none⟩)] 81)) := ⟨_, rfl⟩
  obtain ⟨f0, f1, f2, f3, f4, hs5, hb5⟩ := boxes5 w #[.int .i64 cg, .int .i64 cn, .int .i64 cl, .int .i64 cm] #[.slice la ln lp] #[.slice xa xn xp] #[.int .i64 cg, .int .i64 cn, .int .i64 cl, .int .i64 cm, .slice la ln lp, .slice xa xn xp, .slice ta tn tp, .slice none 0 0] #[.pointer (some ⟨w.heap.size + 1 + 1 + 1, 0, none⟩)] 23 24 31 83 81 W5 hW5
  rw [← hW5]
  clear hW5
  have HF := HFI.out W5 hb5 (w.heap.size + 1 + 1 + 1) f3 (by omega)
  obtain ⟨b0, hb0⟩ : ∃ b0, b0 = w.heap.size := ⟨_, rfl⟩
  obtain ⟨bl, hbl⟩ : ∃ b0, b0 = w.heap.size + 1 := ⟨_, rfl⟩
  obtain ⟨bx, hbx⟩ : ∃ b0, b0 = w.heap.size + 1 + 1 := ⟨_, rfl⟩
  obtain ⟨bA, hbA⟩ : ∃ b0, b0 = w.heap.size + 1 + 1 + 1 := ⟨_, rfl⟩
  obtain ⟨bQ, hbQ⟩ : ∃ b0, b0 = w.heap.size + 1 + 1 + 1 + 1 := ⟨_, rfl⟩
  change W5.heap[w.heap.size + 1 + 1]? = _ at f2
  change W5.heap[w.heap.size + 1 + 1 + 1]? = _ at f3
  change W5.heap[w.heap.size + 1 + 1 + 1 + 1]? = _ at f4
  rw [← hbQ, ← hbA, ← hbx, ← hbl]
  rw [← hbQ, ← hbA] at f4
  rw [← hbA] at HF f3
  rw [← hbl] at f1
  rw [← hbx] at f2
  have HSB := Lib.hid (And.intro hbl (And.intro hbx (And.intro hbA (And.intro hbQ (And.intro hs5 hb5)))))
  have HFF := Lib.hid (And.intro f0 (And.intro f1 (And.intro f2 f4)))
  clear hb0 hbl hbx hbA hbQ hs5 hb5 f0 f1 f2 f3 f4 HFI hp1 hp2 hpb hpw hpd hpm
  refine ⟨trivial, (callsIn_wide.2 HF).mono ?_⟩
  clear HF
  rintro e w1 ⟨⟨u, rfl⟩, g, N, bp, rows, hN, hA, hlo, hT, hbut⟩
  have f0 := hbut.at_ HFF.out.1 (by have := HSB.out; omega)
  have f1 := hbut.at_ HFF.out.2.1 (by have := HSB.out; omega)
  have f2 := hbut.at_ HFF.out.2.2.1 (by have := HSB.out; omega)
  have f4 := hbut.at_ HFF.out.2.2.2 (by have := HSB.out; omega)
  have hbw : Below w.heap.size w w1 := HSB.out.2.2.2.2.2.trans (hbut.toBelow HSB.out.2.2.2.2.2.size (fun b e => by have := HSB.out; omega))
  clear HFF
  gi_wp2_with (fail)
  have hb4 : Below w1.heap.size w1 (w1.alloc (.cells #[.slice none 0 0] 31)) := (Below.refl _ _).alloc (Nat.le_refl _) _
  have h4n := World.alloc_heap_new w1 (.cells #[.slice none 0 0] 31)
  have hs4 : (w1.alloc (.cells #[.slice none 0 0] 31)).heap.size = w1.heap.size + 1 := by simp
  generalize w1.alloc (.cells #[.slice none 0 0] 31) = w4 at *
  have hb8 : Below w4.heap.size w4 ((w4.alloc (.cells #[.int .i64 0] 3)).alloc (.cells #[.int .i64 0] 3)) := ((Below.refl _ _).alloc (Nat.le_refl _) _).alloc (by simp) _
  have ei : (((w4.alloc (.cells #[.int .i64 0] 3)).alloc (.cells #[.int .i64 0] 3))).heap[w1.heap.size + 1]? = some (.cells #[.int .i64 0] 3 (0, 0)) := by
    rw [Below.heap_alloc _ _ _ (by simp; omega), ← hs4]; exact World.alloc_heap_new _ _
  have ek : (((w4.alloc (.cells #[.int .i64 0] 3)).alloc (.cells #[.int .i64 0] 3))).heap[w1.heap.size + 1 + 1]? = some (.cells #[.int .i64 0] 3 (0, 0)) := by
    have := World.alloc_heap_new (w4.alloc (.cells #[.int .i64 0] 3)) (.cells #[.int .i64 0] 3)
    rwa [World.size_alloc, hs4] at this
  generalize ((w4.alloc (.cells #[.int .i64 0] 3)).alloc (.cells #[.int .i64 0] 3)) = W8 at *
  have k0 := (hb4.block _ (Array.getElem?_eq_some_iff.1 f0).1).trans f0
  have k1 := (hb4.block _ (Array.getElem?_eq_some_iff.1 f1).1).trans f1
  have k2 := (hb4.block _ (Array.getElem?_eq_some_iff.1 f2).1).trans f2
  have k4 := (hb4.block _ (Array.getElem?_eq_some_iff.1 f4).1).trans f4
  have kA := (hb4.block _ (Array.getElem?_eq_some_iff.1 hA).1).trans hA
  have kT := hT.below hb4
  have HLT : Hid (w.heap.size < w1.heap.size ∧ bl < w1.heap.size ∧ bx < w1.heap.size ∧ bQ < w1.heap.size ∧ bA < w1.heap.size ∧ g < w1.heap.size ∧ ∀ i, i < N → rows i < w1.heap.size) :=
    ⟨(Array.getElem?_eq_some_iff.1 f0).1, (Array.getElem?_eq_some_iff.1 f1).1, (Array.getElem?_eq_some_iff.1 f2).1, (Array.getElem?_eq_some_iff.1 f4).1, (Array.getElem?_eq_some_iff.1 hA).1, hT.glt, fun i hi => hT.rlt hi⟩
  have hbw4 : Below w.heap.size w w4 := hbw.trans (hb4.mono hbw.size)
  have HK := Lib.hid (And.intro k0 (And.intro k1 (And.intro k2 (And.intro k4 (And.intro kA (And.intro kT (And.intro hbw4 hs4)))))))
  have HN := Lib.hid hN
  have HOUT : Hid (OutS W8 (w1.heap.size + 1) w1.heap.size none 0 0 []) := ⟨(hb8.block _ (by omega)).trans h4n, OwnQ.nil _ _ _ _ _, RowsP.nil _ _ _ _ _, by simp⟩
  have HBT : Hid (But (fun b => b = w1.heap.size) w4 W8) := But.below hb8
  have HEI := Lib.hid (And.intro ei ek)
  clear hb8 hb4 h4n hs4 f0 f1 f2 f4 hA hT hlo hbut hbw k0 k1 k2 k4 kA kT hbw4 ei ek hN
  generalize w1.heap.size = bo at *
  refine wpIn_loop_ghost_k (addI cg cn cl cm la ln lp xa xn xp ta tn tp w.heap.size bl bx bQ bo w4 l t cols) (xn + tn) ?_ ?_
  · exact addI_mk (bo + 1) (bo + 1 + 1) 0 0 0 0 none [] [] _ _ _ _ _ _ _ _ _ _ _ _ _ _ _ _ _ _ _ _ _ _ _ _ _ _ _ _ _ _ _ _ _ _ ⟨by omega, by omega, by omega, by omega, by omega, by omega, HEI.out.1, HEI.out.2, ⟨⟨by simp, by simp⟩, ⟨by simp, by simp⟩⟩, HOUT.out, HBT.out, trivial, by omega, ⟨[], rfl, rfl⟩⟩
  clear HOUT HBT HEI
  clear W8
  intro c' a' W hI J K hJ hK
  obtain ⟨bi, bk, i, k, on, oc, oa, ps, ds, x, ⟨hc, hi, hk, hbi, hbk, hik, hei, hek, havd, hout, hbut, hM, hon, hpre⟩, rfl⟩ := hI
  have AT : ∀ (b : Nat) (o : Obj), b < bo → w4.heap[b]? = some o → W.heap[b]? = some o := fun b o h1 h2 => hbut.out.at_ h2 (by intro e; have e : b = bo := e; omega)
  have m0 := (one_box hei.out).1
  have m1 := (one_box hek.out).1
  have m2 := (one_box (AT bx _ HLT.out.2.2.1 HK.out.2.2.1)).1
  have m4 := (one_box (AT bQ _ HLT.out.2.2.2.1 HK.out.2.2.2.1)).1
  obtain ⟨s0, s1, s2, s3, s4, s5, s6, s7, -⟩ := box8 (AT bA _ HLT.out.2.2.2.2.1 HK.out.2.2.2.2.1)
  have HHK := Lib.hid hK
  have HHJ := Lib.hid hJ
  have HAT := Lib.hid AT
  clear hK hJ AT
  have HC := Lib.hid hc
  clear hc
  by_cases h1 : i < xn
  · have d1 : decide ((i : Int) < (xn : Int)) = true := decide_eq_true (by omega)
    have e1 : decide (i < xn) = true := decide_eq_true h1
    have HNE : Hid (i < xn ∨ k < tn) := .inl h1
    clear h1
    gi_wp2_with (fail)
    obtain ⟨X, Wf, hX, hS1, hS2⟩ := family (fun V => Below W.heap.size W V) W (Below.refl _ _)
    have HS2 := Lib.hid hS2
    have q_m0 := fun x => cell_later (hS1 x) m0
    have q_m1 := fun x => cell_later (hS1 x) m1
    have q_m4 := fun x => cell_later (hS1 x) m4
    have q_s0 := fun x => cell_later (hS1 x) s0
    have q_s1 := fun x => cell_later (hS1 x) s1
    have q_s2 := fun x => cell_later (hS1 x) s2
    have q_s3 := fun x => cell_later (hS1 x) s3
    have q_s4 := fun x => cell_later (hS1 x) s4
    have q_s5 := fun x => cell_later (hS1 x) s5
    have q_s6 := fun x => cell_later (hS1 x) s6
    have q_s7 := fun x => cell_later (hS1 x) s7
    clear hS1 hS2
    have hd0 : Below W.heap.size W W.drew := (Below.refl _ _).drew
    refine wpIn_region_treA (Wf := Wf) 5 (.read 0 (.read 1 (.read 2 (.read 3 (.read 4 .fin))))) (by kernel_rfl) (by kernel_rfl) (HS2.out _ hd0) ?_
    refine wpTreA_read _ rfl (fun K hK => ?_); unfold rOp; go_simp; (refine hK _ ?_; clear hK K)
    refine wpTreA_read _ rfl (fun K hK => ?_); unfold rOp; go_simp; (refine hK _ ?_; clear hK K)
    refine wpTreA_read _ rfl (fun K hK => ?_); unfold rOp; go_simp; (refine hK _ ?_; clear hK K)
    refine wpTreA_read _ rfl (fun K hK => ?_); unfold rOp; go_simp; (refine hK _ ?_; clear hK K)
    refine wpTreA_read _ rfl (fun K hK => ?_); unfold rOp; go_simp; (refine hK _ ?_; clear hK K)
    refine wpTreA_fin ?_
    clear q_m0 q_m1 q_m4 q_s0 q_s1 q_s2 q_s3 q_s4 q_s5 q_s6 q_s7 m0 m1 m2 m4 s0 s1 s2 s3 s4 s5 s6 s7 HS2 hX
    clear X Wf
    have HWD := Lib.hid hd0
    clear hd0
    generalize W.drew = wd at *
    simp only [List.drop_succ_cons, List.drop_zero]
    gi_wp2_with (fail)
    refine ⟨trivial, ?_⟩
    refine (stp_in _ wd ⟨cg, cn, cl, cm⟩ ⟨la, ln, lp, xa, xn, xp, ta, tn, tp, some ⟨g, 0, none⟩, N, bp⟩ i k).mono ?_
    rintro e w5 ⟨rfl, hw5⟩
    gi_wp2_with (fail)
    have hb5 : Below wd.heap.size wd w5 := by rw [hw5]; exact (((Below.refl _ _).alloc (Nat.le_refl _) _).alloc (by simp) _).alloc (by simp; omega) _
    obtain ⟨c1, c2, c3⟩ := boxes3b wd (AV.arr ⟨la, ln, lp, xa, xn, xp, ta, tn, tp, some ⟨g, 0, none⟩, N, bp⟩ ⟨cg, cn, cl, cm⟩) #[.int .i64 (i : Int)] #[.int .i64 (k : Int)] 83 3 3
    rw [← hw5] at c1 c2 c3
    try rw [← hw5]
    clear hw5
    have HB5 : Hid (Below W.heap.size W w5) := HWD.out.trans (hb5.mono HWD.out.size)
    have HC5 := Lib.hid (And.intro c1 (And.intro c2 c3))
    clear hb5 c1 c2 c3 HWD
    have hIo : OwnFrom w5.heap.size (fun (pre : List (Stp (stL ⟨cg, cn, cl, cm⟩ l t cols i k))) (V : World) => Hid (∀ y ∈ pre, ¬ Mt ⟨cg, cn, cl, cm⟩ l t cols i k y.1) ∧ Below w5.heap.size w5 V) := by
      rintro pre V V' row ⟨g1, g2⟩ hg hr
      exact ⟨g1, g2.grown hg g2.size (fun r e => (hr r e).1)⟩
    have hHI := Lib.hid hIo
    have HRW : Hid (RdA (fun b => b < w.heap.size) W ⟨cg, cn, cl, cm⟩ ⟨la, ln, lp, xa, xn, xp, ta, tn, tp, none, 0, 0⟩ l t cols ∧ EnvLo w.heap.size W) := by
      have hb := HK.out.2.2.2.2.2.2.1.trans (hbut.out.toBelow HK.out.2.2.2.2.2.2.1.size (fun b e => by have e : b = bo := e; have := HLT.out; omega))
      exact ⟨HR.out.keep (KeepS.below hb), HLO.out.below hb⟩
    have hKE : ∀ V, KeepS (fun _ => True) w5 V → Env V := fun V hV => ((HRW.out.2.keep (KeepS.below HB5.out) (S := fun _ => True) (fun _ _ => trivial)).keep hV (fun _ _ => trivial)).env
    have hRd : RdA (fun _ => True) w5 ⟨cg, cn, cl, cm⟩ ⟨la, ln, lp, xa, xn, xp, ta, tn, tp, some ⟨g, 0, none⟩, N, bp⟩ l t cols := by
      have h := (HRW.out.1.keep (KeepS.below HB5.out)).mono (S' := fun _ => True) (fun _ _ _ => trivial)
      exact ⟨h.hl, h.ht, h.hx⟩
    refine iter_box (α := Stp (stL ⟨cg, cn, cl, cm⟩ l t cols i k)) (n := 10) (by omega) rfl (enters_of Tryz.func70 (by kernel_rfl) rfl)
      (stp_stops 9 (fun _ => True) ⟨cg, cn, cl, cm⟩ ⟨la, ln, lp, xa, xn, xp, ta, tn, tp, some ⟨g, 0, none⟩, N, bp⟩ l t cols (wd.heap.size + 1) wd.heap.size (wd.heap.size + 2) i k w5 hRd HV.out HC5.out.2.1 HC5.out.1 HC5.out.2.2 trivial trivial trivial hKE)
      KeepS.trans (fun V z o o' _ ho hc _ => KeepS.putObj V ho hc o') (fun _ => rfl) _
      (fun c pr V => ∃ (pr' : List (Stp (stL ⟨cg, cn, cl, cm⟩ l t cols i k))) (x : Stp (stL ⟨cg, cn, cl, cm⟩ l t cols i k)) (oa' : Option Addr) (oc' bc : Nat), pr = pr' ++ [x] ∧ (∀ y ∈ pr', ¬ Mt ⟨cg, cn, cl, cm⟩ l t cols i k y.1) ∧ Mt ⟨cg, cn, cl, cm⟩ l t cols i k x.1 ∧ c = .exit 2 ∧ V.heap[bi]? = some (.cells #[.int .i64 ((i + x.1.1 : Nat) : Int)] 3 (0, 0)) ∧ V.heap[bk]? = some (.cells #[.int .i64 ((k + x.1.2.1 : Nat) : Int)] 3 (0, 0)) ∧
        OutS V (bo + 1) bo oa' (on + 1) oc' (ps ++ [((some ⟨bc, 0, none⟩, ln + 1, ln + 1), colI (ext ln (if x.1.1 = 1 then some (cmAt cols i) else none, if x.1.2.1 = 1 then some k else none)))]) ∧ But (fun b => b = bo) w4 V ∧ KeepsFrom (bo + 1) w5 V)
      hIo ?hIx ⟨by show ∀ y ∈ [], _; simp, Below.refl _ _⟩ (fun x => #[.int .i64 (x.1.1 : Int), .int .i64 (x.1.2.1 : Int), .int .i64 (x.1.2.2 : Int)]) 88 ?round ?done ?stop
    all_goals clear hIo hKE hRd
    case hIx =>
      rintro c pr V V' row ⟨pr', x, oa', oc', bc, q1, q2, q3, q4, q5, q6, q7, q8, q9⟩ hg hr
      have hsz : w4.heap.size ≤ w5.heap.size := Nat.le_trans hbut.out.size HB5.out.size
      have hb4 := HK.out.2.2.2.2.2.2.2
      exact ⟨pr', x, oa', oc', bc, q1, q2, q3, q4, cells_own q5 hg hr, cells_own q6 hg hr, q7.kept hg hr, q8.grown hg (fun r e => by have := (hr r e).1; omega),
        ⟨Nat.le_trans q9.size hg.size, fun b o hb ho hc => by
          have hV := q9.same b o hb ho hc
          rw [hg.block b (Array.getElem?_eq_some_iff.1 hV).1 (fun e => ?_)]
          · exact hV
          · have h1 := (hr b e.symm).1
            have := (Array.getElem?_eq_some_iff.1 ho).1
            omega⟩⟩
    case done =>
      rintro D xs V hD rfl ⟨g1, g2⟩ hd
      exact absurd (way_some (c := ⟨cg, cn, cl, cm⟩) (l := l) (t := t) (cols := cols) (i := i) (k := k) (fun y hy => g1.out ⟨y, hy⟩ (List.mem_attach _ _))) (fun h => h (by have h1 := HNE.out; have h2 := HLN.out; omega))
    case round =>
      rintro lv pre0 ⟨⟨di, dk, cst⟩, hx⟩ V K' hI0 hK'
      dsimp only [stEnc]
      gi_wp2
      refine hK' _ _ V.heap.size (keepsFrom_below ((Below.refl _ _).alloc (Nat.le_refl _) _)) (KeepS.alloc _ _ _) (hHI.out.alloc _ hI0) (World.alloc_heap_new _ _) ?_
      clear hK' hI0 hHI
      generalize V.heap.size = bs at *
      clear V K'
      rintro lv2 pre Z hbs ⟨hno, hbV⟩ hlt
      have hmem := (stL_mem hx).1
      have hcst := (stL_mem hx).2 HV.out.ok
      dsimp only at hmem hcst
      have hlen := HLN.out
      have hN := HN.out
      obtain ⟨I2, hI2⟩ : ∃ I2, I2 = i + di := ⟨_, rfl⟩
      obtain ⟨K2, hK2⟩ : ∃ K2, K2 = k + dk := ⟨_, rfl⟩
      have y1 : I2 < N := by omega
      have y2 : K2 < t.length + 1 := by omega
      have y3 : i < N := by omega
      have y4 : k < t.length + 1 := by omega
      have hWV : Below W.heap.size W Z := HB5.out.trans (hbV.mono HB5.out.size)
      have hTW : Tb2 W w.heap.size g N (t.length + 1) rows (fun i k => (tabB ⟨cg, cn, cl, cm⟩ l t cols i k : Int)) := HK.out.2.2.2.2.2.1.same
        (hbut.out.block g HK.out.2.2.2.2.2.1.glt (by intro e; have e : g = bo := e; have := HLT.out.2.2.2.2.2.1; omega))
        (fun i' hi' => hbut.out.block (rows i') (HK.out.2.2.2.2.2.1.rlt hi') (by intro e; have e : rows i' = bo := e; have := HLT.out.2.2.2.2.2.2 i' hi'; omega))
      have hTV := hTW.below hWV
      obtain ⟨M, hM⟩ : ∃ M, M = t.length + 1 := ⟨_, rfl⟩
      rw [← hM] at hTV y2 y4
      have o1 := hTV.cellO y1
      have r1 := hTV.cellI y1 y2
      have o2 := hTV.cellO y3
      have r2 := hTV.cellI y3 y4
      obtain ⟨tv, htv⟩ : ∃ tv, tv = tabB ⟨cg, cn, cl, cm⟩ l t cols I2 K2 := ⟨_, rfl⟩
      obtain ⟨t0, ht0⟩ : ∃ t0, t0 = tabB ⟨cg, cn, cl, cm⟩ l t cols i k := ⟨_, rfl⟩
      have htvb : tv ≤ 32000 * 80 := by
        rw [htv]
        refine Nat.le_trans (tabB_le HV.out.ok l t cols I2 K2) (Nat.mul_le_mul (by omega) (by omega))
      rw [← htv] at r1
      rw [← ht0] at r2
      obtain ⟨Zx, hZx⟩ : ∃ Zx, Zx = cst + tv := ⟨_, rfl⟩
      have HMT : Hid (Mt ⟨cg, cn, cl, cm⟩ l t cols i k (di, dk, cst) ↔ Zx = t0) := by
        show Mt _ _ _ _ _ _ _ ↔ _
        unfold Mt
        dsimp only
        rw [hZx, htv, ht0, hI2, hK2]
      have hzi : (cst : Int) + (tv : Int) = (Zx : Int) := by omega
      have hzw : IntKind.i64.wrap (Zx : Int) = (Zx : Int) := by rw [IntKind.wrap_i64]; omega
      have hii : (i : Int) + (di : Int) = (I2 : Int) := by omega
      have hiw : IntKind.i64.wrap (I2 : Int) = (I2 : Int) := by rw [IntKind.wrap_i64]; omega
      have hki : (k : Int) + (dk : Int) = (K2 : Int) := by omega
      have hkw : IntKind.i64.wrap (K2 : Int) = (K2 : Int) := by rw [IntKind.wrap_i64]; omega
      obtain ⟨x0, x1, x2⟩ := box3s hbs
      have m0 := cell_later hWV (one_box hei.out).1
      have m1 := cell_later hWV (one_box hek.out).1
      have m2 := cell_later hWV (one_box (HAT.out bx _ HLT.out.2.2.1 HK.out.2.2.1)).1
      have m3 := cell_later hWV (one_box (HAT.out bl _ HLT.out.2.1 HK.out.2.1)).1
      have m4 := cell_later hWV (one_box (HAT.out bQ _ HLT.out.2.2.2.1 HK.out.2.2.2.1)).1
      have s7 := cell_later hWV (box8 (HAT.out bA _ HLT.out.2.2.2.2.1 HK.out.2.2.2.2.1)).2.2.2.2.2.2.2.1
      have HWV := Lib.hid hWV
      have HBV := Lib.hid hbV
      have HBS := Lib.hid hbs
      have HNO := Lib.hid hno
      have HXM := Lib.hid hmem
      have HEQ := Lib.hid (And.intro hI2 hK2)
      clear hWV hbV hbs hno hmem hcst hlen hN hI2 hK2 hTW hTV htv ht0 htvb hZx hlt hM
      have HYI := Lib.hid y3
      by_cases hz : Zx = t0
      · have e1 : ((Zx : Int) != (t0 : Int)) = false := by rw [hz]; simp
        have e2 : (Zx != t0) = false := by rw [hz]; simp
        have HMY := Lib.hid (HMT.out.2 hz)
        clear hz HMT
        gi_wp2_with (fail)
        obtain ⟨X, Wf, hX, hS1, hS2⟩ := family (fun V => Below Z.heap.size Z V) Z (Below.refl _ _)
        have HS2 := Lib.hid hS2
        have q_m0 := fun x => cell_later (hS1 x) m0
        have q_m1 := fun x => cell_later (hS1 x) m1
        have q_m4 := fun x => cell_later (hS1 x) m4
        have q_s7 := fun x => cell_later (hS1 x) s7
        have q_x0 := fun x => cell_later (hS1 x) x0
        have q_x1 := fun x => cell_later (hS1 x) x1
        have q_x2 := fun x => cell_later (hS1 x) x2
        have q_o1 := fun x => cell_later (hS1 x) o1
        have q_r1 := fun x => cell_later (hS1 x) r1
        have q_o2 := fun x => cell_later (hS1 x) o2
        have q_r2 := fun x => cell_later (hS1 x) r2
        clear hS1 hS2
        have hd0 : Below Z.heap.size Z Z.drew := (Below.refl _ _).drew
        refine wpIn_region_round (by kernel_rfl) (by kernel_rfl) (fun _ _ h => h) (wpAny_tree (Wf := Wf) 29 (.read 0 (.read 1 (.read 2 (.read 3 (.read 4 (.read 5 (.read 6 (.read 7 (.read 8 (.read 9 (.read 10 (.read 11 (.read 12 (.read 13 (.read 14 (.read 15 (.read 16 (.read 17 (.read 18 (.read 19 (.read 20 (.read 21 (.read 22 (.read 23 (.read 24 (.read 25 (.read 26 (.read 27 (.read 28 .fin))))))))))))))))))))))))))))) (by kernel_rfl) (fun _ _ d _ _ h => by cases d <;> exact h) (HS2.out _ hd0) ?_)
        refine wpTree_read _ rfl (fun K hK => ?_); unfold rOp; go_simp; (refine hK _ ?_; clear hK K)
        refine wpTree_read _ rfl (fun K hK => ?_); unfold rOp; go_simp; (refine hK _ ?_; clear hK K)
        refine wpTree_read _ rfl (fun K hK => ?_); unfold rOp; go_simp; (refine hK _ ?_; clear hK K)
        refine wpTree_read _ rfl (fun K hK => ?_); unfold rOp; go_simp; (refine hK _ ?_; clear hK K)
        refine wpTree_read _ rfl (fun K hK => ?_); unfold rOp; go_simp; (refine hK _ ?_; clear hK K)
        refine wpTree_read _ rfl (fun K hK => ?_); unfold rOp; go_simp; (refine hK _ ?_; clear hK K)
        refine wpTree_read _ rfl (fun K hK => ?_); unfold rOp; go_simp; (refine hK _ ?_; clear hK K)
        refine wpTree_read _ rfl (fun K hK => ?_); unfold rOp; go_simp; (refine hK _ ?_; clear hK K)
        refine wpTree_read _ rfl (fun K hK => ?_); unfold rOp; go_simp; (refine hK _ ?_; clear hK K)
        refine wpTree_read _ rfl (fun K hK => ?_); unfold rOp; go_simp; (refine hK _ ?_; clear hK K)
        refine wpTree_read _ rfl (fun K hK => ?_); unfold rOp; go_simp; (refine hK _ ?_; clear hK K)
        refine wpTree_read _ rfl (fun K hK => ?_); unfold rOp; go_simp; (refine hK _ ?_; clear hK K)
        refine wpTree_read _ rfl (fun K hK => ?_); unfold rOp; go_simp; (refine hK _ ?_; clear hK K)
        refine wpTree_read _ rfl (fun K hK => ?_); unfold rOp; go_simp; (refine hK _ ?_; clear hK K)
        refine wpTree_read _ rfl (fun K hK => ?_); unfold rOp; go_simp; (refine hK _ ?_; clear hK K)
        refine wpTree_read _ rfl (fun K hK => ?_); unfold rOp; go_simp; (refine hK _ ?_; clear hK K)
        refine wpTree_read _ rfl (fun K hK => ?_); unfold rOp; go_simp; (refine hK _ ?_; clear hK K)
        refine wpTree_read _ rfl (fun K hK => ?_); unfold rOp; go_simp; (refine hK _ ?_; clear hK K)
        refine wpTree_read _ rfl (fun K hK => ?_); unfold rOp; go_simp; (refine hK _ ?_; clear hK K)
        refine wpTree_read _ rfl (fun K hK => ?_); unfold rOp; go_simp; (refine hK _ ?_; clear hK K)
        refine wpTree_read _ rfl (fun K hK => ?_); unfold rOp; go_simp; (refine hK _ ?_; clear hK K)
        refine wpTree_read _ rfl (fun K hK => ?_); unfold rOp; go_simp; (refine hK _ ?_; clear hK K)
        refine wpTree_read _ rfl (fun K hK => ?_); unfold rOp; go_simp; (refine hK _ ?_; clear hK K)
        refine wpTree_read _ rfl (fun K hK => ?_); unfold rOp; go_simp; (refine hK _ ?_; clear hK K)
        refine wpTree_read _ rfl (fun K hK => ?_); unfold rOp; go_simp; (refine hK _ ?_; clear hK K)
        refine wpTree_read _ rfl (fun K hK => ?_); unfold rOp; go_simp; (refine hK _ ?_; clear hK K)
        refine wpTree_read _ rfl (fun K hK => ?_); unfold rOp; go_simp; (refine hK _ ?_; clear hK K)
        refine wpTree_read _ rfl (fun K hK => ?_); unfold rOp; go_simp; (refine hK _ ?_; clear hK K)
        refine wpTree_read _ rfl (fun K hK => ?_); unfold rOp; go_simp; (refine hK _ ?_; clear hK K)
        refine wpTree_fin ?_
        clear q_m0 q_m1 q_m4 q_s7 q_x0 q_x1 q_x2 q_o1 q_r1 q_o2 q_r2 HS2 hX
        clear X Wf
        replace m0 := cell_later hd0 m0
        replace m1 := cell_later hd0 m1
        replace m2 := cell_later hd0 m2
        replace m3 := cell_later hd0 m3
        replace x0 := cell_later hd0 x0
        replace x1 := cell_later hd0 x1
        have HV1 := Lib.hid hd0
        clear hd0 m4 s7 x2 o1 r1 o2 r2 y1 y2 y3 y4
        generalize Z.drew = Z1 at *
        go_wp2_with fail
        obtain ⟨n1, hn1⟩ : ∃ n1, n1 = ln + 1 := ⟨_, rfl⟩
        have hn1i : (ln : Int) + 1 = (n1 : Int) := by omega
        have hn1w : IntKind.i64.wrap (n1 : Int) = (n1 : Int) := by rw [IntKind.wrap_i64]; omega
        have hn1b : 1 ≤ n1 ∧ n1 ≤ 33 := by omega
        have HN1 := Lib.hid hn1
        clear hn1
        have hA1 : Below Z1.heap.size Z1 (Z1.alloc (.cells #[.int .i64 (-1)] 3)) := (Below.refl _ _).alloc (Nat.le_refl _) _
        have hcb := (one_box (World.alloc_heap_new Z1 (.cells #[.int .i64 (-1)] 3))).1
        have hrp := repeat_any n1 Z1.heap.size (-1) _ (by omega) (by omega) hcb
        rw [show (Z1.alloc (.cells #[.int .i64 (-1)] 3)).heap.size = Z1.heap.size + 1 by simp] at hrp
        have HRP := Lib.hid hrp
        replace m0 := cell_later hA1 m0
        replace m1 := cell_later hA1 m1
        replace m2 := cell_later hA1 m2
        replace m3 := cell_later hA1 m3
        replace x0 := cell_later hA1 x0
        replace x1 := cell_later hA1 x1
        have HA1 := Lib.hid hA1
        clear hA1 hcb hrp
        gi_wp2_with (fail)
        refine ⟨trivial, (callsIn_wide.2 HRP.out).mono ?_⟩
        rintro e Z3 ⟨rfl, hO, hb3⟩
        obtain ⟨bc, hbc⟩ : ∃ bc, bc = Z1.heap.size + 1 := ⟨_, rfl⟩
        rw [← hbc] at hO
        rw [← hbc]
        have F3 := (full_block hO.2).1
        rw [List.map_replicate] at F3
        have hz13 : Below Z.heap.size Z Z3 := HV1.out.trans ((HA1.out.mono HV1.out.size).trans (hb3.mono (Nat.le_trans HV1.out.size (Nat.le_succ _))))
        have HLO3 : Hid (Z.heap.size < bc) := by show _ < _; have := HV1.out.size; omega
        clear m0 m1 m2 m3 x0 x1 HRP hO hb3 HA1 HV1 hbc
        generalize Z1.heap.size = z1 at *
        clear Z1
        have HZW : Hid (∀ (Y : World), Below Z.heap.size Z Y → Y.cell? ⟨bi, 0, none⟩ = some (.int .i64 (i : Int)) ∧ Y.cell? ⟨bk, 0, none⟩ = some (.int .i64 (k : Int)) ∧ Y.cell? ⟨bx, 0, none⟩ = some (.slice xa xn xp) ∧ Y.cell? ⟨bl, 0, none⟩ = some (.slice la ln lp) ∧ Y.cell? ⟨bs, 0, none⟩ = some (.int .i64 (di : Int)) ∧ Y.cell? ⟨bs, 1, none⟩ = some (.int .i64 (dk : Int))) := fun Y hY => by
          have h := HWV.out.trans (hY.mono HWV.out.size)
          have hb := box3s ((hY.block _ (Array.getElem?_eq_some_iff.1 HBS.out).1).trans HBS.out)
          exact ⟨cell_later h (one_box hei.out).1, cell_later h (one_box hek.out).1, cell_later h (one_box (HAT.out bx _ HLT.out.2.2.1 HK.out.2.2.1)).1, cell_later h (one_box (HAT.out bl _ HLT.out.2.1 HK.out.2.1)).1, hb.1, hb.2.1⟩
        obtain ⟨m0, m1, m2, m3, x0, x1⟩ := HZW.out Z3 hz13
        rcases HXM.out with ⟨hd1, hd2, hlc, hlt⟩ | ⟨hd1, hd2, hlc⟩ | ⟨hd1, hd2, hlt⟩
        · have HLC : Hid (ext ln (if di = 1 then some (cmAt cols i) else none, if dk = 1 then some k else none) = ext ln (some (cmAt cols i), some k)) := by show _ = _; rw [if_pos hd1, if_pos hd2]
          have p1 : ((di : Int) == 1) = true := by rw [hd1]; rfl
          have p2 : (di == 1) = true := by rw [hd1]; rfl
          have p3 : ((dk : Int) == 1) = true := by rw [hd2]; rfl
          have p4 : (dk == 1) = true := by rw [hd2]; rfl
          have HD := Lib.hid (And.intro hd1 hd2)
          clear hd1 hd2 hlt
          obtain ⟨u0, bX, oX, xr, q, xc, hu, -, hxe, -, -, hrow, hcx⟩ := HRW.out.1.hx.row (show i < xn by have := HLN.out; omega)
          subst hxe
          rw [List.getElem?_map, cm_get hlc] at hu
          have hu1 : u0 = colI (cmAt cols i) := (Option.some.inj hu).symm
          subst hu1
          have hql : (cmAt cols i).length = ln := by
            have := (HV.out.vc (cmAt cols i) (List.mem_of_getElem? (cm_get hlc))).1
            have := HLN.out; omega
          have hq : q = ln := by have := hrow.len; rw [colI, List.length_map] at this; omega
          subst hq
          have HQL := Lib.hid hql
          have cx3 := cell_later (HWV.out.trans (hz13.mono HWV.out.size)) hcx
          have hrow3 := hrow.below rInt_ok (HWV.out.trans (hz13.mono HWV.out.size))
          have HROW := Lib.hid hrow3
          have hixn : i < xn := by have := HLN.out; omega
          clear hu hql hrow hcx hrow3 hlc
          have HSZ : Hid ((Tryz.prog.info? 3).map (·.size) = some 1) := by
            obtain ⟨i1, ki, kz0, kz1, kz2⟩ := info_parts Tryz.infoInt
            show _ = _; rw [ki]; simp [kz1]
          have HCL : Hid ((colI (cmAt cols i)).length = q) := by show _ = _; rw [colI, List.length_map]; exact HQL.out
          gi_wp2_with (refine wpListIn_of (fun _ _ h => h) [_] _ _ (by kernel_rfl) ?_; refine wpList_copy_splice rfl (.tmp 87) (.tmp 91) 27 27 rfl 3 Tryz.underlying27 HSZ.out (some ⟨bc, 0, none⟩) xr n1 n1 q xc rfl rfl bc 0 (List.replicate n1 (Value.int .i64 (-1))) 3 F3 ((colI (cmAt cols i)).map (Value.int .i64)) (by rw [List.length_map, HCL.out]; exact (Nat.min_eq_left (by have := HN1.out; omega)).symm) (fun h0 => ⟨rfl, nums_src HROW.out (by simpa using h0)⟩) (by rw [List.length_map, List.length_replicate, HCL.out]; have := HN1.out; omega) (fun v hv => by obtain ⟨y, -, rfl⟩ := List.mem_map.1 hv; rfl) bc Z3 (Below.refl _ _) (Nat.le_refl _) ?_)
          intro Z4 hg4 hb4
          have F4 := hg4.out
          rw [splice_col HN1.out HCL.out] at F4
          have hz14 : Below Z.heap.size Z Z4 := hz13.trans (hb4.mono (Nat.le_of_lt HLO3.out))
          clear hg4 hb4 m0 m1 m2 m3 x0 x1 cx3 HROW hixn F3 hz13
          clear Z3
          obtain ⟨m0, m1, m2, m3, x0, x1⟩ := HZW.out Z4 hz14
          go_wp2_with fail
          have HLL : Hid (((colI (cmAt cols i))).length = q) := HCL.out
          clear HCL HQL HSZ
          have hq1 : q < n1 := by have := HN1.out; omega
          have cput : Z4.cell? ⟨bc, q, none⟩ = some (.int .i64 (-1)) := by
            rw [cell_row F4, List.getElem?_toArray, List.getElem?_map, List.getElem?_append_right (by rw [HLL.out]; exact Nat.le_refl _), HLL.out, Nat.sub_self]; rfl
          have fput : Z4.frozen? ⟨bc, q, none⟩ = false := by simp [World.frozen?, F4]
          have F5 : ((Z4.setCell ⟨bc, q, none⟩ (.int .i64 (k : Int)))).heap[bc]? = some (.cells ((((colI (cmAt cols i)) ++ [(k : Int)])).map (Value.int .i64)).toArray 3 (0, 0)) := by
            rw [heap_setCell_self F4, set_last_map (-1) (k : Int) HLL.out]
          have hz15 : Below Z.heap.size Z (Z4.setCell ⟨bc, q, none⟩ (.int .i64 (k : Int))) := below_setc hz14 (Nat.le_of_lt HLO3.out) q _
          have hzs : ((Z4.setCell ⟨bc, q, none⟩ (.int .i64 (k : Int)))).heap.size = Z4.heap.size := by simp [World.setCell]
          clear F4 hz14
          have HLCF : Hid (colI (ext q (if di = 1 then some (cmAt cols i) else none, if dk = 1 then some k else none)) = (colI (cmAt cols i)) ++ [(k : Int)]) := by show _ = _; rw [HLC.out, col_ext]; rfl
          have hal : Below ((Z4.setCell ⟨bc, q, none⟩ (.int .i64 (k : Int)))).heap.size (Z4.setCell ⟨bc, q, none⟩ (.int .i64 (k : Int))) (((Z4.setCell ⟨bc, q, none⟩ (.int .i64 (k : Int)))).alloc (.cells #[.slice (some ⟨bc, 0, none⟩) n1 n1] 27)) := (Below.refl _ _).alloc (Nat.le_refl _) _
          have hz16 : Below Z.heap.size Z (((Z4.setCell ⟨bc, q, none⟩ (.int .i64 (k : Int)))).alloc (.cells #[.slice (some ⟨bc, 0, none⟩) n1 n1] 27)) := hz15.trans (hal.mono hz15.size)
          have h4s : bo + 1 ≤ Z.heap.size := by have h1 := HK.out.2.2.2.2.2.2.2; have h2 := hbut.out.size; have h3 := HWV.out.size; omega
          have hout5 := hout.out.below HWV.out
          have c11 := (one_box ((hz15.block bo (by omega)).trans hout5.box)).1
          have hcol : OwnQ 3 1 encI (((Z4.setCell ⟨bc, q, none⟩ (.int .i64 (k : Int)))).alloc (.cells #[.slice (some ⟨bc, 0, none⟩) n1 n1] 27)) (bo + 1) (some ⟨bc, 0, none⟩) n1 n1 ((colI (cmAt cols i)) ++ [(k : Int)]) := ownq_of ((hal.block bc (Array.getElem?_eq_some_iff.1 F5).1).trans F5) (by have := HLO3.out; omega) (by have h1 := HLL.out; have h2 := HN1.out; rw [List.length_append, h1]; exact h2) (by omega)
          have HO6 := Lib.hid (hout5.own.below hz16)
          have hbox6 := (hout5.below hz16).box
          have HV6 : Hid (∀ j u, ([((some ⟨bc, 0, none⟩, n1, n1) : Row)].flatMap encR)[j]? = some u → ((((Z4.setCell ⟨bc, q, none⟩ (.int .i64 (k : Int)))).alloc (.cells #[.slice (some ⟨bc, 0, none⟩) n1 n1] 27))).cell? ((⟨Z4.heap.size, 0, none⟩ : Addr).add j) = some u) := fun j u hj => by
            rw [← hzs]; exact lit_cells (by exact hj)
          have HH := Lib.hid (And.intro hout5 (And.intro hz16 hcol))
          have hB9 : bo + 1 ≤ ((((Z4.setCell ⟨bc, q, none⟩ (.int .i64 (k : Int)))).alloc (.cells #[.slice (some ⟨bc, 0, none⟩) n1 n1] 27))).heap.size := Nat.le_trans h4s hz16.size
          have HB6 := Lib.hid hbox6
          have hon2 : on ≤ 80 := by omega
          clear hal hz16 hout5 hcol hbox6 hz15 F5
          gi_wp2_with (gi_at_builtin; refine wpListIn_appQ (w0 := (((Z4.setCell ⟨bc, q, none⟩ (.int .i64 (k : Int)))).alloc (.cells #[.slice (some ⟨bc, 0, none⟩) n1 n1] 27))) (l := ps.map (·.1)) (ys := [((some ⟨bc, 0, none⟩, n1, n1) : Row)]) Tryz.infoInts Tryz.underlying31 rfl (by omega) (fun _ => rfl) (fun r v h => by rw [List.mem_singleton.1 h]; rfl) rfl _ _ rfl rfl rfl HO6.out rfl HV6.out (by unfold maxLen; omega) (by omega) hB9 (Below.refl _ _) ?_; intro a5 c5 Z7 ho5 hb7 hg5 hz5; have c77 := (one_box ((hb7.block bo (Nat.lt_succ_self _)).trans HB6.out)).1; have f77 := (one_box ((hb7.block bo (Nat.lt_succ_self _)).trans HB6.out)).2)
          obtain ⟨hout5, hz16, hcol⟩ := HH.out
          obtain ⟨h8, hav⟩ := hout5.app (Nat.lt_succ_self _) h4s hz16 (Nat.le_of_lt HLO3.out) hcol ho5 hg5 hz5
          have hF : ∀ (b : Nat) (o : Obj), b < Z.heap.size → b ≠ bo → (∀ x, oa = some x → x.block ≠ b) → Z.heap[b]? = some o → (Z7.setCell ⟨bo, 0, none⟩ (.slice a5 (on + 1) c5)).heap[b]? = some o := fun b o h1 h2 h3 h =>
            (heap_setCell_other h2 _).trans ((hg5.block b (by have := hz16.size; omega) (own_ne h3)).trans ((hz16.block b h1).trans h))
          have hZi := (HWV.out.block bi (Array.getElem?_eq_some_iff.1 hei.out).1).trans hei.out
          have hZk := (HWV.out.block bk (Array.getElem?_eq_some_iff.1 hek.out).1).trans hek.out
          have g0 := hF bi _ (Array.getElem?_eq_some_iff.1 hZi).1 (by omega) havd.out.1.1 hZi
          have g1 := hF bk _ (Array.getElem?_eq_some_iff.1 hZk).1 (by omega) havd.out.2.1 hZk
          have gb := hF bs _ (Array.getElem?_eq_some_iff.1 HBS.out).1 (fun e => by have := hout5.box; rw [← e, HBS.out] at this; cases this) (fun x hx e => by obtain ⟨cur, hcur⟩ := hout5.own.ty hx; rw [e, HBS.out] at hcur; cases hcur) HBS.out
          have hko : KeepsOthers Z (Z7.setCell ⟨bo, 0, none⟩ (.slice a5 (on + 1) c5)) := ((ko_below hz16).trans (KeepsOthers.of_grownBy hg5 (fun j o hj hoj => by obtain ⟨x, hx, e⟩ := own_eq hj; rw [← e] at hoj; exact HO6.out.isC hx hoj))).trans (KeepsOthers.setCell _ _ _)
          have h4w := HK.out.2.2.2.2.2.2.2
          have hbt : But (fun b => b = bo) w4 (Z7.setCell ⟨bo, 0, none⟩ (.slice a5 (on + 1) c5)) := (((hbut.out.trans (But.below HWV.out)).trans (But.below hz16)).grown hg5 (fun r e => by obtain ⟨x, hx, e⟩ := own_eq e; have := (hout5.own.lt x hx).1; omega)).setc _ (fun _ => rfl)
          have hav2 := hav bi (Array.getElem?_eq_some_iff.1 hZi).1 havd.out.1
          have hav3 := hav bk (Array.getElem?_eq_some_iff.1 hZk).1 havd.out.2
          clear hout5 hz16 hcol hF hZi hZk HH HO6 HV6 HB6 hB9 ho5 hb7 hg5 hz5 c77 f77 c11 hav hzs m0 m1 m2 m3 x0 x1
          generalize Z7.setCell ⟨bo, 0, none⟩ (.slice a5 (on + 1) c5) = Z8 at *
          generalize Z4.heap.size = z4 at *
          generalize ((colI (cmAt cols i)) ++ [(k : Int)]) = LCC at *
          clear Z7
          try clear cput fput
          clear Z4
          have m0 := (one_box g0).1
          have m1 := (one_box g1).1
          obtain ⟨x0, x1, -⟩ := box3s gb
          have HO8 := Lib.hid (And.intro h8 (And.intro hko (And.intro hbt (And.intro hav2 hav3))))
          have HG8 := Lib.hid (And.intro g0 g1)
          have hbsi : bs ≠ bi := fun e => by rw [e, g0] at gb; cases gb
          clear h8 hko hbt hav2 hav3 g0 g1 gb
          obtain ⟨X, Wf, hX, hS1, hS2⟩ := family (fun V : World => V.cell? ⟨bk, 0, none⟩ = some (.int .i64 (k : Int)) ∧ V.cell? ⟨bs, 0, none⟩ = some (.int .i64 (di : Int)) ∧ V.cell? ⟨bs, 1, none⟩ = some (.int .i64 (dk : Int))) Z8.drew ⟨m1, x0, x1⟩
          have HS2 := Lib.hid hS2
          have q_m1 := fun x => (hS1 x).1
          have q_x0 := fun x => (hS1 x).2.1
          have q_x1 := fun x => (hS1 x).2.2
          clear hS1 hS2
          have hd0 : Below Z8.heap.size Z8 Z8.drew := (Below.refl _ _).drew
          have hS0 := HS2.out Z8.drew ⟨m1, x0, x1⟩
          refine wpIn_region_round (by kernel_rfl) (by kernel_rfl) (fun _ _ h => h) (wpAny_tree (Wf := Wf) 9 (.read 4 (.read 5 (.read 6 (.read 7 (.read 1 (.read 2 (.act 0 (.read 3 (.act 8 .fin))))))))) (by kernel_rfl) (fun _ _ d _ _ h => by cases d <;> exact h) hS0 ?_)
          refine wpTree_read _ rfl (fun K hK => ?_); unfold rOp; go_simp; (refine hK _ ?_; clear hK K)
          refine wpTree_read _ rfl (fun K hK => ?_); unfold rOp; go_simp; (refine hK _ ?_; clear hK K)
          refine wpTree_read _ rfl (fun K hK => ?_); unfold rOp; go_simp; (refine hK _ ?_; clear hK K)
          refine wpTree_read _ rfl (fun K hK => ?_); unfold rOp; go_simp; (refine hK _ ?_; clear hK K)
          refine wpTree_read _ rfl (fun K hK => ?_); unfold rOp; go_simp; (refine hK _ ?_; clear hK K)
          refine wpTree_read _ rfl (fun K hK => ?_); unfold rOp; go_simp; (refine hK _ ?_; clear hK K)
          refine wpTree_act _ rfl ?_
          have m0' : Z8.drew.cell? ⟨bi, 0, none⟩ = some (.int .i64 (i : Int)) := m0
          go_wp2_with fail
          refine ⟨hS0, ?_⟩
          refine wpTree_read _ rfl (fun K hK => ?_); unfold rOp; go_simp; (refine hK _ ?_; clear hK K)
          clear m0'
          have h8 := HO8.out.1.below hd0
          have hko : KeepsOthers Z Z8.drew := HO8.out.2.1.trans (ko_below hd0)
          have hbt := HO8.out.2.2.1.trans (But.below hd0)
          have g0 := (hd0.block _ (Array.getElem?_eq_some_iff.1 HG8.out.1).1).trans HG8.out.1
          have g1 := (hd0.block _ (Array.getElem?_eq_some_iff.1 HG8.out.2).1).trans HG8.out.2
          have y0 : Z8.drew.cell? ⟨bk, 0, none⟩ = some (.int .i64 (k : Int)) := m1
          have y1 : Z8.drew.cell? ⟨bs, 0, none⟩ = some (.int .i64 (di : Int)) := x0
          have y2 : Z8.drew.cell? ⟨bs, 1, none⟩ = some (.int .i64 (dk : Int)) := x1
          clear hd0 m0 m1 x0 x1 hS0
          generalize Z8.drew = Z9 at *
          have c90 := (one_box g0).1
          have f90 := (one_box g0).2
          have g1' := (heap_setCell_other (j := 0) (v := .int .i64 (I2 : Int)) (Ne.symm hik) ).trans g1
          have c91 := (one_box g1').1
          have f91 := (one_box g1').2
          have e0 : ((Z9.setCell ⟨bi, 0, none⟩ (.int .i64 (I2 : Int))).setCell ⟨bk, 0, none⟩ (.int .i64 (K2 : Int))).heap[bi]? = some (.cells #[.int .i64 ((i + di : Nat) : Int)] 3 (0, 0)) := by
            rw [← HEQ.out.1]; exact (heap_setCell_other hik _).trans (one_set g0 _)
          have e1' : ((Z9.setCell ⟨bi, 0, none⟩ (.int .i64 (I2 : Int))).setCell ⟨bk, 0, none⟩ (.int .i64 (K2 : Int))).heap[bk]? = some (.cells #[.int .i64 ((k + dk : Nat) : Int)] 3 (0, 0)) := by
            rw [← HEQ.out.2]; exact one_set g1' _
          have hob : bi ≠ bo ∧ bk ≠ bo := by omega
          have h9 := (h8.set hob.1 HO8.out.2.2.2.1 (j := 0) (.int .i64 (I2 : Int))).set hob.2 HO8.out.2.2.2.2 (j := 0) (.int .i64 (K2 : Int))
          have hk9 := (hko.trans (KeepsOthers.setCell Z9 ⟨bi, 0, none⟩ (.int .i64 (I2 : Int)))).trans (KeepsOthers.setCell (Z9.setCell ⟨bi, 0, none⟩ (.int .i64 (I2 : Int))) ⟨bk, 0, none⟩ (.int .i64 (K2 : Int)))
          have hb9 := (hbt.setc (b := bi) (j := 0) (.int .i64 (I2 : Int)) (fun h => by omega)).setc (b := bk) (j := 0) (.int .i64 (K2 : Int)) (fun h => by omega)
          have HEND := Lib.hid (And.intro e0 (And.intro e1' (And.intro h9 (And.intro hk9 hb9))))
          have hS9 := HS2.out (Z9.setCell ⟨bi, 0, none⟩ (.int .i64 (I2 : Int))) ⟨c91, cell?_setc_other (j' := 0) hbsi y1, cell?_setc_other (j' := 1) hbsi y2⟩
          clear e0 e1' h9 hk9 hb9 h8 hko hbt g0 g1 g1' y0 y1 y2
          refine wpTree_act _ rfl ?_
          go_wp2_with fail
          refine ⟨hS9, ?_⟩
          refine wpTree_fin ?_
          clear hS9 q_m1 q_x0 q_x1 HS2 hX
          clear X Wf
          go_wp2_with fail
          gi_wp2_with (fail)
          obtain ⟨z0, z1', z2, z3, z4'⟩ := HEND.out
          refine ⟨z3.from _, pre, ⟨(di, dk, cst), hx⟩, a5, c5, bc, rfl, HNO.out, HMY.out, rfl, z0, z1', ?_, z4', (keepsFrom_below HBV.out).trans (z3.from _)⟩
          dsimp only
          rw [HLCF.out, ← HN1.out]
          exact z2
        · have HLC : Hid (ext ln (if di = 1 then some (cmAt cols i) else none, if dk = 1 then some k else none) = ext ln (some (cmAt cols i), none)) := by show _ = _; rw [if_pos hd1, if_neg (by omega)]
          have p1 : ((di : Int) == 1) = true := by rw [hd1]; rfl
          have p2 : (di == 1) = true := by rw [hd1]; rfl
          have p3 : ((dk : Int) == 1) = false := by rw [hd2]; rfl
          have p4 : (dk == 1) = false := by rw [hd2]; rfl
          have HD := Lib.hid (And.intro hd1 hd2)
          clear hd1 hd2
          obtain ⟨u0, bX, oX, xr, q, xc, hu, -, hxe, -, -, hrow, hcx⟩ := HRW.out.1.hx.row (show i < xn by have := HLN.out; omega)
          subst hxe
          rw [List.getElem?_map, cm_get hlc] at hu
          have hu1 : u0 = colI (cmAt cols i) := (Option.some.inj hu).symm
          subst hu1
          have hql : (cmAt cols i).length = ln := by
            have := (HV.out.vc (cmAt cols i) (List.mem_of_getElem? (cm_get hlc))).1
            have := HLN.out; omega
          have hq : q = ln := by have := hrow.len; rw [colI, List.length_map] at this; omega
          subst hq
          have HQL := Lib.hid hql
          have cx3 := cell_later (HWV.out.trans (hz13.mono HWV.out.size)) hcx
          have hrow3 := hrow.below rInt_ok (HWV.out.trans (hz13.mono HWV.out.size))
          have HROW := Lib.hid hrow3
          have hixn : i < xn := by have := HLN.out; omega
          clear hu hql hrow hcx hrow3 hlc
          have HSZ : Hid ((Tryz.prog.info? 3).map (·.size) = some 1) := by
            obtain ⟨i1, ki, kz0, kz1, kz2⟩ := info_parts Tryz.infoInt
            show _ = _; rw [ki]; simp [kz1]
          have HCL : Hid ((colI (cmAt cols i)).length = q) := by show _ = _; rw [colI, List.length_map]; exact HQL.out
          gi_wp2_with (refine wpListIn_of (fun _ _ h => h) [_] _ _ (by kernel_rfl) ?_; refine wpList_copy_splice rfl (.tmp 87) (.tmp 91) 27 27 rfl 3 Tryz.underlying27 HSZ.out (some ⟨bc, 0, none⟩) xr n1 n1 q xc rfl rfl bc 0 (List.replicate n1 (Value.int .i64 (-1))) 3 F3 ((colI (cmAt cols i)).map (Value.int .i64)) (by rw [List.length_map, HCL.out]; exact (Nat.min_eq_left (by have := HN1.out; omega)).symm) (fun h0 => ⟨rfl, nums_src HROW.out (by simpa using h0)⟩) (by rw [List.length_map, List.length_replicate, HCL.out]; have := HN1.out; omega) (fun v hv => by obtain ⟨y, -, rfl⟩ := List.mem_map.1 hv; rfl) bc Z3 (Below.refl _ _) (Nat.le_refl _) ?_)
          intro Z4 hg4 hb4
          have F4 := hg4.out
          rw [splice_col HN1.out HCL.out] at F4
          have hz14 : Below Z.heap.size Z Z4 := hz13.trans (hb4.mono (Nat.le_of_lt HLO3.out))
          clear hg4 hb4 m0 m1 m2 m3 x0 x1 cx3 HROW hixn F3 hz13
          clear Z3
          obtain ⟨m0, m1, m2, m3, x0, x1⟩ := HZW.out Z4 hz14
          go_wp2_with fail
          have HLL : Hid (((colI (cmAt cols i))).length = q) := HCL.out
          clear HCL HQL HSZ
          have F5 := F4
          have hz15 := hz14
          have hzs : (Z4).heap.size = Z4.heap.size := rfl
          clear F4 hz14
          have HLCF : Hid (colI (ext q (if di = 1 then some (cmAt cols i) else none, if dk = 1 then some k else none)) = (colI (cmAt cols i)) ++ [(-1 : Int)]) := by show _ = _; rw [HLC.out, col_ext]; rfl
          have hal : Below (Z4).heap.size Z4 ((Z4).alloc (.cells #[.slice (some ⟨bc, 0, none⟩) n1 n1] 27)) := (Below.refl _ _).alloc (Nat.le_refl _) _
          have hz16 : Below Z.heap.size Z ((Z4).alloc (.cells #[.slice (some ⟨bc, 0, none⟩) n1 n1] 27)) := hz15.trans (hal.mono hz15.size)
          have h4s : bo + 1 ≤ Z.heap.size := by have h1 := HK.out.2.2.2.2.2.2.2; have h2 := hbut.out.size; have h3 := HWV.out.size; omega
          have hout5 := hout.out.below HWV.out
          have c11 := (one_box ((hz15.block bo (by omega)).trans hout5.box)).1
          have hcol : OwnQ 3 1 encI ((Z4).alloc (.cells #[.slice (some ⟨bc, 0, none⟩) n1 n1] 27)) (bo + 1) (some ⟨bc, 0, none⟩) n1 n1 ((colI (cmAt cols i)) ++ [(-1 : Int)]) := ownq_of ((hal.block bc (Array.getElem?_eq_some_iff.1 F5).1).trans F5) (by have := HLO3.out; omega) (by have h1 := HLL.out; have h2 := HN1.out; rw [List.length_append, h1]; exact h2) (by omega)
          have HO6 := Lib.hid (hout5.own.below hz16)
          have hbox6 := (hout5.below hz16).box
          have HV6 : Hid (∀ j u, ([((some ⟨bc, 0, none⟩, n1, n1) : Row)].flatMap encR)[j]? = some u → (((Z4).alloc (.cells #[.slice (some ⟨bc, 0, none⟩) n1 n1] 27))).cell? ((⟨Z4.heap.size, 0, none⟩ : Addr).add j) = some u) := fun j u hj => by
            rw [← hzs]; exact lit_cells (by exact hj)
          have HH := Lib.hid (And.intro hout5 (And.intro hz16 hcol))
          have hB9 : bo + 1 ≤ (((Z4).alloc (.cells #[.slice (some ⟨bc, 0, none⟩) n1 n1] 27))).heap.size := Nat.le_trans h4s hz16.size
          have HB6 := Lib.hid hbox6
          have hon2 : on ≤ 80 := by omega
          clear hal hz16 hout5 hcol hbox6 hz15 F5
          gi_wp2_with (gi_at_builtin; refine wpListIn_appQ (w0 := ((Z4).alloc (.cells #[.slice (some ⟨bc, 0, none⟩) n1 n1] 27))) (l := ps.map (·.1)) (ys := [((some ⟨bc, 0, none⟩, n1, n1) : Row)]) Tryz.infoInts Tryz.underlying31 rfl (by omega) (fun _ => rfl) (fun r v h => by rw [List.mem_singleton.1 h]; rfl) rfl _ _ rfl rfl rfl HO6.out rfl HV6.out (by unfold maxLen; omega) (by omega) hB9 (Below.refl _ _) ?_; intro a5 c5 Z7 ho5 hb7 hg5 hz5; have c77 := (one_box ((hb7.block bo (Nat.lt_succ_self _)).trans HB6.out)).1; have f77 := (one_box ((hb7.block bo (Nat.lt_succ_self _)).trans HB6.out)).2)
          obtain ⟨hout5, hz16, hcol⟩ := HH.out
          obtain ⟨h8, hav⟩ := hout5.app (Nat.lt_succ_self _) h4s hz16 (Nat.le_of_lt HLO3.out) hcol ho5 hg5 hz5
          have hF : ∀ (b : Nat) (o : Obj), b < Z.heap.size → b ≠ bo → (∀ x, oa = some x → x.block ≠ b) → Z.heap[b]? = some o → (Z7.setCell ⟨bo, 0, none⟩ (.slice a5 (on + 1) c5)).heap[b]? = some o := fun b o h1 h2 h3 h =>
            (heap_setCell_other h2 _).trans ((hg5.block b (by have := hz16.size; omega) (own_ne h3)).trans ((hz16.block b h1).trans h))
          have hZi := (HWV.out.block bi (Array.getElem?_eq_some_iff.1 hei.out).1).trans hei.out
          have hZk := (HWV.out.block bk (Array.getElem?_eq_some_iff.1 hek.out).1).trans hek.out
          have g0 := hF bi _ (Array.getElem?_eq_some_iff.1 hZi).1 (by omega) havd.out.1.1 hZi
          have g1 := hF bk _ (Array.getElem?_eq_some_iff.1 hZk).1 (by omega) havd.out.2.1 hZk
          have gb := hF bs _ (Array.getElem?_eq_some_iff.1 HBS.out).1 (fun e => by have := hout5.box; rw [← e, HBS.out] at this; cases this) (fun x hx e => by obtain ⟨cur, hcur⟩ := hout5.own.ty hx; rw [e, HBS.out] at hcur; cases hcur) HBS.out
          have hko : KeepsOthers Z (Z7.setCell ⟨bo, 0, none⟩ (.slice a5 (on + 1) c5)) := ((ko_below hz16).trans (KeepsOthers.of_grownBy hg5 (fun j o hj hoj => by obtain ⟨x, hx, e⟩ := own_eq hj; rw [← e] at hoj; exact HO6.out.isC hx hoj))).trans (KeepsOthers.setCell _ _ _)
          have h4w := HK.out.2.2.2.2.2.2.2
          have hbt : But (fun b => b = bo) w4 (Z7.setCell ⟨bo, 0, none⟩ (.slice a5 (on + 1) c5)) := (((hbut.out.trans (But.below HWV.out)).trans (But.below hz16)).grown hg5 (fun r e => by obtain ⟨x, hx, e⟩ := own_eq e; have := (hout5.own.lt x hx).1; omega)).setc _ (fun _ => rfl)
          have hav2 := hav bi (Array.getElem?_eq_some_iff.1 hZi).1 havd.out.1
          have hav3 := hav bk (Array.getElem?_eq_some_iff.1 hZk).1 havd.out.2
          clear hout5 hz16 hcol hF hZi hZk HH HO6 HV6 HB6 hB9 ho5 hb7 hg5 hz5 c77 f77 c11 hav hzs m0 m1 m2 m3 x0 x1
          generalize Z7.setCell ⟨bo, 0, none⟩ (.slice a5 (on + 1) c5) = Z8 at *
          generalize Z4.heap.size = z4 at *
          generalize ((colI (cmAt cols i)) ++ [(-1 : Int)]) = LCC at *
          clear Z7
          try clear cput fput
          clear Z4
          have m0 := (one_box g0).1
          have m1 := (one_box g1).1
          obtain ⟨x0, x1, -⟩ := box3s gb
          have HO8 := Lib.hid (And.intro h8 (And.intro hko (And.intro hbt (And.intro hav2 hav3))))
          have HG8 := Lib.hid (And.intro g0 g1)
          have hbsi : bs ≠ bi := fun e => by rw [e, g0] at gb; cases gb
          clear h8 hko hbt hav2 hav3 g0 g1 gb
          obtain ⟨X, Wf, hX, hS1, hS2⟩ := family (fun V : World => V.cell? ⟨bk, 0, none⟩ = some (.int .i64 (k : Int)) ∧ V.cell? ⟨bs, 0, none⟩ = some (.int .i64 (di : Int)) ∧ V.cell? ⟨bs, 1, none⟩ = some (.int .i64 (dk : Int))) Z8.drew ⟨m1, x0, x1⟩
          have HS2 := Lib.hid hS2
          have q_m1 := fun x => (hS1 x).1
          have q_x0 := fun x => (hS1 x).2.1
          have q_x1 := fun x => (hS1 x).2.2
          clear hS1 hS2
          have hd0 : Below Z8.heap.size Z8 Z8.drew := (Below.refl _ _).drew
          have hS0 := HS2.out Z8.drew ⟨m1, x0, x1⟩
          refine wpIn_region_round (by kernel_rfl) (by kernel_rfl) (fun _ _ h => h) (wpAny_tree (Wf := Wf) 9 (.read 4 (.read 5 (.read 6 (.read 7 (.read 1 (.read 2 (.act 0 (.read 3 (.act 8 .fin))))))))) (by kernel_rfl) (fun _ _ d _ _ h => by cases d <;> exact h) hS0 ?_)
          refine wpTree_read _ rfl (fun K hK => ?_); unfold rOp; go_simp; (refine hK _ ?_; clear hK K)
          refine wpTree_read _ rfl (fun K hK => ?_); unfold rOp; go_simp; (refine hK _ ?_; clear hK K)
          refine wpTree_read _ rfl (fun K hK => ?_); unfold rOp; go_simp; (refine hK _ ?_; clear hK K)
          refine wpTree_read _ rfl (fun K hK => ?_); unfold rOp; go_simp; (refine hK _ ?_; clear hK K)
          refine wpTree_read _ rfl (fun K hK => ?_); unfold rOp; go_simp; (refine hK _ ?_; clear hK K)
          refine wpTree_read _ rfl (fun K hK => ?_); unfold rOp; go_simp; (refine hK _ ?_; clear hK K)
          refine wpTree_act _ rfl ?_
          have m0' : Z8.drew.cell? ⟨bi, 0, none⟩ = some (.int .i64 (i : Int)) := m0
          go_wp2_with fail
          refine ⟨hS0, ?_⟩
          refine wpTree_read _ rfl (fun K hK => ?_); unfold rOp; go_simp; (refine hK _ ?_; clear hK K)
          clear m0'
          have h8 := HO8.out.1.below hd0
          have hko : KeepsOthers Z Z8.drew := HO8.out.2.1.trans (ko_below hd0)
          have hbt := HO8.out.2.2.1.trans (But.below hd0)
          have g0 := (hd0.block _ (Array.getElem?_eq_some_iff.1 HG8.out.1).1).trans HG8.out.1
          have g1 := (hd0.block _ (Array.getElem?_eq_some_iff.1 HG8.out.2).1).trans HG8.out.2
          have y0 : Z8.drew.cell? ⟨bk, 0, none⟩ = some (.int .i64 (k : Int)) := m1
          have y1 : Z8.drew.cell? ⟨bs, 0, none⟩ = some (.int .i64 (di : Int)) := x0
          have y2 : Z8.drew.cell? ⟨bs, 1, none⟩ = some (.int .i64 (dk : Int)) := x1
          clear hd0 m0 m1 x0 x1 hS0
          generalize Z8.drew = Z9 at *
          have c90 := (one_box g0).1
          have f90 := (one_box g0).2
          have g1' := (heap_setCell_other (j := 0) (v := .int .i64 (I2 : Int)) (Ne.symm hik) ).trans g1
          have c91 := (one_box g1').1
          have f91 := (one_box g1').2
          have e0 : ((Z9.setCell ⟨bi, 0, none⟩ (.int .i64 (I2 : Int))).setCell ⟨bk, 0, none⟩ (.int .i64 (K2 : Int))).heap[bi]? = some (.cells #[.int .i64 ((i + di : Nat) : Int)] 3 (0, 0)) := by
            rw [← HEQ.out.1]; exact (heap_setCell_other hik _).trans (one_set g0 _)
          have e1' : ((Z9.setCell ⟨bi, 0, none⟩ (.int .i64 (I2 : Int))).setCell ⟨bk, 0, none⟩ (.int .i64 (K2 : Int))).heap[bk]? = some (.cells #[.int .i64 ((k + dk : Nat) : Int)] 3 (0, 0)) := by
            rw [← HEQ.out.2]; exact one_set g1' _
          have hob : bi ≠ bo ∧ bk ≠ bo := by omega
          have h9 := (h8.set hob.1 HO8.out.2.2.2.1 (j := 0) (.int .i64 (I2 : Int))).set hob.2 HO8.out.2.2.2.2 (j := 0) (.int .i64 (K2 : Int))
          have hk9 := (hko.trans (KeepsOthers.setCell Z9 ⟨bi, 0, none⟩ (.int .i64 (I2 : Int)))).trans (KeepsOthers.setCell (Z9.setCell ⟨bi, 0, none⟩ (.int .i64 (I2 : Int))) ⟨bk, 0, none⟩ (.int .i64 (K2 : Int)))
          have hb9 := (hbt.setc (b := bi) (j := 0) (.int .i64 (I2 : Int)) (fun h => by omega)).setc (b := bk) (j := 0) (.int .i64 (K2 : Int)) (fun h => by omega)
          have HEND := Lib.hid (And.intro e0 (And.intro e1' (And.intro h9 (And.intro hk9 hb9))))
          have hS9 := HS2.out (Z9.setCell ⟨bi, 0, none⟩ (.int .i64 (I2 : Int))) ⟨c91, cell?_setc_other (j' := 0) hbsi y1, cell?_setc_other (j' := 1) hbsi y2⟩
          clear e0 e1' h9 hk9 hb9 h8 hko hbt g0 g1 g1' y0 y1 y2
          refine wpTree_act _ rfl ?_
          go_wp2_with fail
          refine ⟨hS9, ?_⟩
          refine wpTree_fin ?_
          clear hS9 q_m1 q_x0 q_x1 HS2 hX
          clear X Wf
          go_wp2_with fail
          gi_wp2_with (fail)
          obtain ⟨z0, z1', z2, z3, z4'⟩ := HEND.out
          refine ⟨z3.from _, pre, ⟨(di, dk, cst), hx⟩, a5, c5, bc, rfl, HNO.out, HMY.out, rfl, z0, z1', ?_, z4', (keepsFrom_below HBV.out).trans (z3.from _)⟩
          dsimp only
          rw [HLCF.out, ← HN1.out]
          exact z2
        · have HLC : Hid (ext ln (if di = 1 then some (cmAt cols i) else none, if dk = 1 then some k else none) = ext ln (none, some k)) := by show _ = _; rw [if_neg (by omega), if_pos hd2]
          have p1 : ((di : Int) == 1) = false := by rw [hd1]; rfl
          have p2 : (di == 1) = false := by rw [hd1]; rfl
          have p3 : ((dk : Int) == 1) = true := by rw [hd2]; rfl
          have p4 : (dk == 1) = true := by rw [hd2]; rfl
          have HD := Lib.hid (And.intro hd1 hd2)
          clear hd1 hd2 hlt
          have F4 : Z3.heap[bc]? = some (.cells (((List.replicate ln (-1 : Int)) ++ [(-1 : Int)]).map (Value.int .i64)).toArray 3 (0, 0)) := by
            rw [F3, HN1.out]
            congr 2
            rw [List.replicate_succ', List.map_append, List.map_replicate]; rfl
          have HLL : Hid (((List.replicate ln (-1 : Int))).length = ln) := List.length_replicate
          have hz14 := hz13
          clear F3 hz13
          generalize Z3 = Z4 at *
          have hq1 : ln < n1 := by have := HN1.out; omega
          have cput : Z4.cell? ⟨bc, ln, none⟩ = some (.int .i64 (-1)) := by
            rw [cell_row F4, List.getElem?_toArray, List.getElem?_map, List.getElem?_append_right (by rw [HLL.out]; exact Nat.le_refl _), HLL.out, Nat.sub_self]; rfl
          have fput : Z4.frozen? ⟨bc, ln, none⟩ = false := by simp [World.frozen?, F4]
          have F5 : ((Z4.setCell ⟨bc, ln, none⟩ (.int .i64 (k : Int)))).heap[bc]? = some (.cells ((((List.replicate ln (-1 : Int)) ++ [(k : Int)])).map (Value.int .i64)).toArray 3 (0, 0)) := by
            rw [heap_setCell_self F4, set_last_map (-1) (k : Int) HLL.out]
          have hz15 : Below Z.heap.size Z (Z4.setCell ⟨bc, ln, none⟩ (.int .i64 (k : Int))) := below_setc hz14 (Nat.le_of_lt HLO3.out) ln _
          have hzs : ((Z4.setCell ⟨bc, ln, none⟩ (.int .i64 (k : Int)))).heap.size = Z4.heap.size := by simp [World.setCell]
          clear F4 hz14
          have HLCF : Hid (colI (ext ln (if di = 1 then some (cmAt cols i) else none, if dk = 1 then some k else none)) = (List.replicate ln (-1 : Int)) ++ [(k : Int)]) := by
            show _ = _
            rw [HLC.out, col_ext]
            unfold colI
            rw [Option.getD_none, List.map_replicate]; rfl
          have hal : Below ((Z4.setCell ⟨bc, ln, none⟩ (.int .i64 (k : Int)))).heap.size (Z4.setCell ⟨bc, ln, none⟩ (.int .i64 (k : Int))) (((Z4.setCell ⟨bc, ln, none⟩ (.int .i64 (k : Int)))).alloc (.cells #[.slice (some ⟨bc, 0, none⟩) n1 n1] 27)) := (Below.refl _ _).alloc (Nat.le_refl _) _
          have hz16 : Below Z.heap.size Z (((Z4.setCell ⟨bc, ln, none⟩ (.int .i64 (k : Int)))).alloc (.cells #[.slice (some ⟨bc, 0, none⟩) n1 n1] 27)) := hz15.trans (hal.mono hz15.size)
          have h4s : bo + 1 ≤ Z.heap.size := by have h1 := HK.out.2.2.2.2.2.2.2; have h2 := hbut.out.size; have h3 := HWV.out.size; omega
          have hout5 := hout.out.below HWV.out
          have c11 := (one_box ((hz15.block bo (by omega)).trans hout5.box)).1
          have hcol : OwnQ 3 1 encI (((Z4.setCell ⟨bc, ln, none⟩ (.int .i64 (k : Int)))).alloc (.cells #[.slice (some ⟨bc, 0, none⟩) n1 n1] 27)) (bo + 1) (some ⟨bc, 0, none⟩) n1 n1 ((List.replicate ln (-1 : Int)) ++ [(k : Int)]) := ownq_of ((hal.block bc (Array.getElem?_eq_some_iff.1 F5).1).trans F5) (by have := HLO3.out; omega) (by have h1 := HLL.out; have h2 := HN1.out; rw [List.length_append, h1]; exact h2) (by omega)
          have HO6 := Lib.hid (hout5.own.below hz16)
          have hbox6 := (hout5.below hz16).box
          have HV6 : Hid (∀ j u, ([((some ⟨bc, 0, none⟩, n1, n1) : Row)].flatMap encR)[j]? = some u → ((((Z4.setCell ⟨bc, ln, none⟩ (.int .i64 (k : Int)))).alloc (.cells #[.slice (some ⟨bc, 0, none⟩) n1 n1] 27))).cell? ((⟨Z4.heap.size, 0, none⟩ : Addr).add j) = some u) := fun j u hj => by
            rw [← hzs]; exact lit_cells (by exact hj)
          have HH := Lib.hid (And.intro hout5 (And.intro hz16 hcol))
          have hB9 : bo + 1 ≤ ((((Z4.setCell ⟨bc, ln, none⟩ (.int .i64 (k : Int)))).alloc (.cells #[.slice (some ⟨bc, 0, none⟩) n1 n1] 27))).heap.size := Nat.le_trans h4s hz16.size
          have HB6 := Lib.hid hbox6
          have hon2 : on ≤ 80 := by omega
          clear hal hz16 hout5 hcol hbox6 hz15 F5
          gi_wp2_with (gi_at_builtin; refine wpListIn_appQ (w0 := (((Z4.setCell ⟨bc, ln, none⟩ (.int .i64 (k : Int)))).alloc (.cells #[.slice (some ⟨bc, 0, none⟩) n1 n1] 27))) (l := ps.map (·.1)) (ys := [((some ⟨bc, 0, none⟩, n1, n1) : Row)]) Tryz.infoInts Tryz.underlying31 rfl (by omega) (fun _ => rfl) (fun r v h => by rw [List.mem_singleton.1 h]; rfl) rfl _ _ rfl rfl rfl HO6.out rfl HV6.out (by unfold maxLen; omega) (by omega) hB9 (Below.refl _ _) ?_; intro a5 c5 Z7 ho5 hb7 hg5 hz5; have c77 := (one_box ((hb7.block bo (Nat.lt_succ_self _)).trans HB6.out)).1; have f77 := (one_box ((hb7.block bo (Nat.lt_succ_self _)).trans HB6.out)).2)
          obtain ⟨hout5, hz16, hcol⟩ := HH.out
          obtain ⟨h8, hav⟩ := hout5.app (Nat.lt_succ_self _) h4s hz16 (Nat.le_of_lt HLO3.out) hcol ho5 hg5 hz5
          have hF : ∀ (b : Nat) (o : Obj), b < Z.heap.size → b ≠ bo → (∀ x, oa = some x → x.block ≠ b) → Z.heap[b]? = some o → (Z7.setCell ⟨bo, 0, none⟩ (.slice a5 (on + 1) c5)).heap[b]? = some o := fun b o h1 h2 h3 h =>
            (heap_setCell_other h2 _).trans ((hg5.block b (by have := hz16.size; omega) (own_ne h3)).trans ((hz16.block b h1).trans h))
          have hZi := (HWV.out.block bi (Array.getElem?_eq_some_iff.1 hei.out).1).trans hei.out
          have hZk := (HWV.out.block bk (Array.getElem?_eq_some_iff.1 hek.out).1).trans hek.out
          have g0 := hF bi _ (Array.getElem?_eq_some_iff.1 hZi).1 (by omega) havd.out.1.1 hZi
          have g1 := hF bk _ (Array.getElem?_eq_some_iff.1 hZk).1 (by omega) havd.out.2.1 hZk
          have gb := hF bs _ (Array.getElem?_eq_some_iff.1 HBS.out).1 (fun e => by have := hout5.box; rw [← e, HBS.out] at this; cases this) (fun x hx e => by obtain ⟨cur, hcur⟩ := hout5.own.ty hx; rw [e, HBS.out] at hcur; cases hcur) HBS.out
          have hko : KeepsOthers Z (Z7.setCell ⟨bo, 0, none⟩ (.slice a5 (on + 1) c5)) := ((ko_below hz16).trans (KeepsOthers.of_grownBy hg5 (fun j o hj hoj => by obtain ⟨x, hx, e⟩ := own_eq hj; rw [← e] at hoj; exact HO6.out.isC hx hoj))).trans (KeepsOthers.setCell _ _ _)
          have h4w := HK.out.2.2.2.2.2.2.2
          have hbt : But (fun b => b = bo) w4 (Z7.setCell ⟨bo, 0, none⟩ (.slice a5 (on + 1) c5)) := (((hbut.out.trans (But.below HWV.out)).trans (But.below hz16)).grown hg5 (fun r e => by obtain ⟨x, hx, e⟩ := own_eq e; have := (hout5.own.lt x hx).1; omega)).setc _ (fun _ => rfl)
          have hav2 := hav bi (Array.getElem?_eq_some_iff.1 hZi).1 havd.out.1
          have hav3 := hav bk (Array.getElem?_eq_some_iff.1 hZk).1 havd.out.2
          clear hout5 hz16 hcol hF hZi hZk HH HO6 HV6 HB6 hB9 ho5 hb7 hg5 hz5 c77 f77 c11 hav hzs m0 m1 m2 m3 x0 x1
          generalize Z7.setCell ⟨bo, 0, none⟩ (.slice a5 (on + 1) c5) = Z8 at *
          generalize Z4.heap.size = z4 at *
          generalize ((List.replicate ln (-1 : Int)) ++ [(k : Int)]) = LCC at *
          clear Z7
          try clear cput fput
          clear Z4
          have m0 := (one_box g0).1
          have m1 := (one_box g1).1
          obtain ⟨x0, x1, -⟩ := box3s gb
          have HO8 := Lib.hid (And.intro h8 (And.intro hko (And.intro hbt (And.intro hav2 hav3))))
          have HG8 := Lib.hid (And.intro g0 g1)
          have hbsi : bs ≠ bi := fun e => by rw [e, g0] at gb; cases gb
          clear h8 hko hbt hav2 hav3 g0 g1 gb
          obtain ⟨X, Wf, hX, hS1, hS2⟩ := family (fun V : World => V.cell? ⟨bk, 0, none⟩ = some (.int .i64 (k : Int)) ∧ V.cell? ⟨bs, 0, none⟩ = some (.int .i64 (di : Int)) ∧ V.cell? ⟨bs, 1, none⟩ = some (.int .i64 (dk : Int))) Z8.drew ⟨m1, x0, x1⟩
          have HS2 := Lib.hid hS2
          have q_m1 := fun x => (hS1 x).1
          have q_x0 := fun x => (hS1 x).2.1
          have q_x1 := fun x => (hS1 x).2.2
          clear hS1 hS2
          have hd0 : Below Z8.heap.size Z8 Z8.drew := (Below.refl _ _).drew
          have hS0 := HS2.out Z8.drew ⟨m1, x0, x1⟩
          refine wpIn_region_round (by kernel_rfl) (by kernel_rfl) (fun _ _ h => h) (wpAny_tree (Wf := Wf) 9 (.read 4 (.read 5 (.read 6 (.read 7 (.read 1 (.read 2 (.act 0 (.read 3 (.act 8 .fin))))))))) (by kernel_rfl) (fun _ _ d _ _ h => by cases d <;> exact h) hS0 ?_)
          refine wpTree_read _ rfl (fun K hK => ?_); unfold rOp; go_simp; (refine hK _ ?_; clear hK K)
          refine wpTree_read _ rfl (fun K hK => ?_); unfold rOp; go_simp; (refine hK _ ?_; clear hK K)
          refine wpTree_read _ rfl (fun K hK => ?_); unfold rOp; go_simp; (refine hK _ ?_; clear hK K)
          refine wpTree_read _ rfl (fun K hK => ?_); unfold rOp; go_simp; (refine hK _ ?_; clear hK K)
          refine wpTree_read _ rfl (fun K hK => ?_); unfold rOp; go_simp; (refine hK _ ?_; clear hK K)
          refine wpTree_read _ rfl (fun K hK => ?_); unfold rOp; go_simp; (refine hK _ ?_; clear hK K)
          refine wpTree_act _ rfl ?_
          have m0' : Z8.drew.cell? ⟨bi, 0, none⟩ = some (.int .i64 (i : Int)) := m0
          go_wp2_with fail
          refine ⟨hS0, ?_⟩
          refine wpTree_read _ rfl (fun K hK => ?_); unfold rOp; go_simp; (refine hK _ ?_; clear hK K)
          clear m0'
          have h8 := HO8.out.1.below hd0
          have hko : KeepsOthers Z Z8.drew := HO8.out.2.1.trans (ko_below hd0)
          have hbt := HO8.out.2.2.1.trans (But.below hd0)
          have g0 := (hd0.block _ (Array.getElem?_eq_some_iff.1 HG8.out.1).1).trans HG8.out.1
          have g1 := (hd0.block _ (Array.getElem?_eq_some_iff.1 HG8.out.2).1).trans HG8.out.2
          have y0 : Z8.drew.cell? ⟨bk, 0, none⟩ = some (.int .i64 (k : Int)) := m1
          have y1 : Z8.drew.cell? ⟨bs, 0, none⟩ = some (.int .i64 (di : Int)) := x0
          have y2 : Z8.drew.cell? ⟨bs, 1, none⟩ = some (.int .i64 (dk : Int)) := x1
          clear hd0 m0 m1 x0 x1 hS0
          generalize Z8.drew = Z9 at *
          have c90 := (one_box g0).1
          have f90 := (one_box g0).2
          have g1' := (heap_setCell_other (j := 0) (v := .int .i64 (I2 : Int)) (Ne.symm hik) ).trans g1
          have c91 := (one_box g1').1
          have f91 := (one_box g1').2
          have e0 : ((Z9.setCell ⟨bi, 0, none⟩ (.int .i64 (I2 : Int))).setCell ⟨bk, 0, none⟩ (.int .i64 (K2 : Int))).heap[bi]? = some (.cells #[.int .i64 ((i + di : Nat) : Int)] 3 (0, 0)) := by
            rw [← HEQ.out.1]; exact (heap_setCell_other hik _).trans (one_set g0 _)
          have e1' : ((Z9.setCell ⟨bi, 0, none⟩ (.int .i64 (I2 : Int))).setCell ⟨bk, 0, none⟩ (.int .i64 (K2 : Int))).heap[bk]? = some (.cells #[.int .i64 ((k + dk : Nat) : Int)] 3 (0, 0)) := by
            rw [← HEQ.out.2]; exact one_set g1' _
          have hob : bi ≠ bo ∧ bk ≠ bo := by omega
          have h9 := (h8.set hob.1 HO8.out.2.2.2.1 (j := 0) (.int .i64 (I2 : Int))).set hob.2 HO8.out.2.2.2.2 (j := 0) (.int .i64 (K2 : Int))
          have hk9 := (hko.trans (KeepsOthers.setCell Z9 ⟨bi, 0, none⟩ (.int .i64 (I2 : Int)))).trans (KeepsOthers.setCell (Z9.setCell ⟨bi, 0, none⟩ (.int .i64 (I2 : Int))) ⟨bk, 0, none⟩ (.int .i64 (K2 : Int)))
          have hb9 := (hbt.setc (b := bi) (j := 0) (.int .i64 (I2 : Int)) (fun h => by omega)).setc (b := bk) (j := 0) (.int .i64 (K2 : Int)) (fun h => by omega)
          have HEND := Lib.hid (And.intro e0 (And.intro e1' (And.intro h9 (And.intro hk9 hb9))))
          have hS9 := HS2.out (Z9.setCell ⟨bi, 0, none⟩ (.int .i64 (I2 : Int))) ⟨c91, cell?_setc_other (j' := 0) hbsi y1, cell?_setc_other (j' := 1) hbsi y2⟩
          clear e0 e1' h9 hk9 hb9 h8 hko hbt g0 g1 g1' y0 y1 y2
          refine wpTree_act _ rfl ?_
          go_wp2_with fail
          refine ⟨hS9, ?_⟩
          refine wpTree_fin ?_
          clear hS9 q_m1 q_x0 q_x1 HS2 hX
          clear X Wf
          go_wp2_with fail
          gi_wp2_with (fail)
          obtain ⟨z0, z1', z2, z3, z4'⟩ := HEND.out
          refine ⟨z3.from _, pre, ⟨(di, dk, cst), hx⟩, a5, c5, bc, rfl, HNO.out, HMY.out, rfl, z0, z1', ?_, z4', (keepsFrom_below HBV.out).trans (z3.from _)⟩
          dsimp only
          rw [HLCF.out, ← HN1.out]
          exact z2
      · have e1 : ((Zx : Int) != (t0 : Int)) = true := by simp; omega
        have e2 : (Zx != t0) = true := by simpa using hz
        have HMY := Lib.hid (fun h => hz (HMT.out.1 h))
        clear hz HMT
        gi_wp2_with (fail)
        obtain ⟨X, Wf, hX, hS1, hS2⟩ := family (fun V => Below Z.heap.size Z V) Z (Below.refl _ _)
        have HS2 := Lib.hid hS2
        have q_m0 := fun x => cell_later (hS1 x) m0
        have q_m1 := fun x => cell_later (hS1 x) m1
        have q_m4 := fun x => cell_later (hS1 x) m4
        have q_s7 := fun x => cell_later (hS1 x) s7
        have q_x0 := fun x => cell_later (hS1 x) x0
        have q_x1 := fun x => cell_later (hS1 x) x1
        have q_x2 := fun x => cell_later (hS1 x) x2
        have q_o1 := fun x => cell_later (hS1 x) o1
        have q_r1 := fun x => cell_later (hS1 x) r1
        have q_o2 := fun x => cell_later (hS1 x) o2
        have q_r2 := fun x => cell_later (hS1 x) r2
        clear hS1 hS2
        have hd0 : Below Z.heap.size Z Z.drew := (Below.refl _ _).drew
        refine wpIn_region_round (by kernel_rfl) (by kernel_rfl) (fun _ _ h => h) (wpAny_tree (Wf := Wf) 29 (.read 0 (.read 1 (.read 2 (.read 3 (.read 4 (.read 5 (.read 6 (.read 7 (.read 8 (.read 9 (.read 10 (.read 11 (.read 12 (.read 13 (.read 14 (.read 15 (.read 16 (.read 17 (.read 18 (.read 19 (.read 20 (.read 21 (.read 22 (.read 23 (.read 24 (.read 25 (.read 26 (.read 27 (.read 28 .fin))))))))))))))))))))))))))))) (by kernel_rfl) (fun _ _ d _ _ h => by cases d <;> exact h) (HS2.out _ hd0) ?_)
        refine wpTree_read _ rfl (fun K hK => ?_); unfold rOp; go_simp; (refine hK _ ?_; clear hK K)
        refine wpTree_read _ rfl (fun K hK => ?_); unfold rOp; go_simp; (refine hK _ ?_; clear hK K)
        refine wpTree_read _ rfl (fun K hK => ?_); unfold rOp; go_simp; (refine hK _ ?_; clear hK K)
        refine wpTree_read _ rfl (fun K hK => ?_); unfold rOp; go_simp; (refine hK _ ?_; clear hK K)
        refine wpTree_read _ rfl (fun K hK => ?_); unfold rOp; go_simp; (refine hK _ ?_; clear hK K)
        refine wpTree_read _ rfl (fun K hK => ?_); unfold rOp; go_simp; (refine hK _ ?_; clear hK K)
        refine wpTree_read _ rfl (fun K hK => ?_); unfold rOp; go_simp; (refine hK _ ?_; clear hK K)
        refine wpTree_read _ rfl (fun K hK => ?_); unfold rOp; go_simp; (refine hK _ ?_; clear hK K)
        refine wpTree_read _ rfl (fun K hK => ?_); unfold rOp; go_simp; (refine hK _ ?_; clear hK K)
        refine wpTree_read _ rfl (fun K hK => ?_); unfold rOp; go_simp; (refine hK _ ?_; clear hK K)
        refine wpTree_read _ rfl (fun K hK => ?_); unfold rOp; go_simp; (refine hK _ ?_; clear hK K)
        refine wpTree_read _ rfl (fun K hK => ?_); unfold rOp; go_simp; (refine hK _ ?_; clear hK K)
        refine wpTree_read _ rfl (fun K hK => ?_); unfold rOp; go_simp; (refine hK _ ?_; clear hK K)
        refine wpTree_read _ rfl (fun K hK => ?_); unfold rOp; go_simp; (refine hK _ ?_; clear hK K)
        refine wpTree_read _ rfl (fun K hK => ?_); unfold rOp; go_simp; (refine hK _ ?_; clear hK K)
        refine wpTree_read _ rfl (fun K hK => ?_); unfold rOp; go_simp; (refine hK _ ?_; clear hK K)
        refine wpTree_read _ rfl (fun K hK => ?_); unfold rOp; go_simp; (refine hK _ ?_; clear hK K)
        refine wpTree_read _ rfl (fun K hK => ?_); unfold rOp; go_simp; (refine hK _ ?_; clear hK K)
        refine wpTree_read _ rfl (fun K hK => ?_); unfold rOp; go_simp; (refine hK _ ?_; clear hK K)
        refine wpTree_read _ rfl (fun K hK => ?_); unfold rOp; go_simp; (refine hK _ ?_; clear hK K)
        refine wpTree_read _ rfl (fun K hK => ?_); unfold rOp; go_simp; (refine hK _ ?_; clear hK K)
        refine wpTree_read _ rfl (fun K hK => ?_); unfold rOp; go_simp; (refine hK _ ?_; clear hK K)
        refine wpTree_read _ rfl (fun K hK => ?_); unfold rOp; go_simp; (refine hK _ ?_; clear hK K)
        refine wpTree_read _ rfl (fun K hK => ?_); unfold rOp; go_simp; (refine hK _ ?_; clear hK K)
        refine wpTree_read _ rfl (fun K hK => ?_); unfold rOp; go_simp; (refine hK _ ?_; clear hK K)
        refine wpTree_read _ rfl (fun K hK => ?_); unfold rOp; go_simp; (refine hK _ ?_; clear hK K)
        refine wpTree_read _ rfl (fun K hK => ?_); unfold rOp; go_simp; (refine hK _ ?_; clear hK K)
        refine wpTree_read _ rfl (fun K hK => ?_); unfold rOp; go_simp; (refine hK _ ?_; clear hK K)
        refine wpTree_read _ rfl (fun K hK => ?_); unfold rOp; go_simp; (refine hK _ ?_; clear hK K)
        refine wpTree_fin ?_
        clear q_m0 q_m1 q_m4 q_s7 q_x0 q_x1 q_x2 q_o1 q_r1 q_o2 q_r2 HS2 hX
        clear X Wf
        replace m0 := cell_later hd0 m0
        replace m1 := cell_later hd0 m1
        replace m2 := cell_later hd0 m2
        replace m3 := cell_later hd0 m3
        replace x0 := cell_later hd0 x0
        replace x1 := cell_later hd0 x1
        have HV1 := Lib.hid hd0
        clear hd0 m4 s7 x2 o1 r1 o2 r2 y1 y2 y3 y4
        generalize Z.drew = Z1 at *
        go_wp2_with fail
        gi_wp2_with (fail)
        refine ⟨keepsFrom_below HV1.out, KeepS.below HV1.out, ?_, HBV.out.trans (HV1.out.mono HBV.out.size)⟩
        intro y hy
        rcases List.mem_append.1 hy with hy | hy
        · exact HNO.out y hy
        · rw [List.mem_singleton] at hy; subst hy; exact HMY.out
    case stop =>
      rintro D c'' pr V hD hpr ⟨pr', ⟨⟨di, dk, cst⟩, hx⟩, oa', oc', bc, rfl, q2, q3, rfl, q5, q6, q7, q8, q9⟩ hd
      have hpx : pr'.map (fun y => y.1) ++ [(di, dk, cst)] <+: stL ⟨cg, cn, cl, cm⟩ l t cols i k := by
        obtain ⟨r, hr⟩ := hpr
        refine ⟨r.map (fun y => y.1), ?_⟩
        have := congrArg (List.map (fun y : Stp (stL ⟨cg, cn, cl, cm⟩ l t cols i k) => y.1)) hr
        rw [show (stL ⟨cg, cn, cl, cm⟩ l t cols i k).attach.map (fun y => y.1) = stL ⟨cg, cn, cl, cm⟩ l t cols i k from List.attach_map_subtype_val _] at this
        simp only [List.map_append, List.map_cons, List.map_nil] at this
        exact this
      have hway := way_step hpx (fun y hy => by obtain ⟨z, hz, rfl⟩ := List.mem_map.1 hy; exact q2 z hz) q3
      have hmem := (stL_mem hx).1
      dsimp only at q5 q6 q7 hway hmem
      have hlen := HLN.out
      have hdd : i + di ≤ xn ∧ k + dk ≤ tn ∧ 1 ≤ di + dk := by omega
      have HPR : Hid (∃ pre : List (Cln Cm Nat), (ps ++ [((some ⟨bc, 0, none⟩, ln + 1, ln + 1), colI (ext ln (if di = 1 then some (cmAt cols i) else none, if dk = 1 then some k else none)))] : List (Row × List Int)).map (fun p => p.2) = (pre.map (ext ln)).map colI ∧ pre ++ wayB ⟨cg, cn, cl, cm⟩ l t cols (i + di) (k + dk) = wayB ⟨cg, cn, cl, cm⟩ l t cols 0 0) := by
        obtain ⟨pre, h1, h2⟩ := hpre.out
        refine ⟨pre ++ [(if di = 1 then some (cmAt cols i) else none, if dk = 1 then some k else none)], ?_, ?_⟩
        · rw [List.map_append, h1, List.map_append, List.map_append]; rfl
        · rw [← h2, hway, List.append_assoc]; rfl
      obtain ⟨I2, hI2⟩ : ∃ I2, I2 = i + di := ⟨_, rfl⟩
      obtain ⟨K2, hK2⟩ : ∃ K2, K2 = k + dk := ⟨_, rfl⟩
      rw [← hI2, ← hK2] at hdd HPR
      rw [← hI2] at q5
      rw [← hK2] at q6
      generalize colI (ext ln (if di = 1 then some (cmAt cols i) else none, if dk = 1 then some k else none)) = LC at *
      have cbi := (one_box q5).1
      have cbk := (one_box q6).1
      have hVs : bo + 1 ≤ V.heap.size := by have h1 := HK.out.2.2.2.2.2.2.2; have h2 := hbut.out.size; have h3 := HB5.out.size; have h4 := q9.size; omega
      have hbel : Below V.heap.size V ((V.alloc (.cells #[.int .i64 (I2 : Int)] 3)).alloc (.cells #[.int .i64 (K2 : Int)] 3)) := ((Below.refl _ _).alloc (Nat.le_refl _) _).alloc (by simp) _
      have n1 : ((V.alloc (.cells #[.int .i64 (I2 : Int)] 3)).alloc (.cells #[.int .i64 (K2 : Int)] 3)).heap[V.heap.size]? = some (.cells #[.int .i64 (I2 : Int)] 3 (0, 0)) := by
        rw [Below.heap_alloc _ _ _ (by simp)]; exact World.alloc_heap_new _ _
      have n2 : ((V.alloc (.cells #[.int .i64 (I2 : Int)] 3)).alloc (.cells #[.int .i64 (K2 : Int)] 3)).heap[V.heap.size + 1]? = some (.cells #[.int .i64 (K2 : Int)] 3 (0, 0)) := by
        have := World.alloc_heap_new (V.alloc (.cells #[.int .i64 (I2 : Int)] 3)) (.cells #[.int .i64 (K2 : Int)] 3)
        rwa [World.size_alloc] at this
      have n3 := q7.below hbel
      have n4 : But (fun b => b = bo) w4 ((V.alloc (.cells #[.int .i64 (I2 : Int)] 3)).alloc (.cells #[.int .i64 (K2 : Int)] 3)) := (q8.alloc _).alloc _
      have n5 : Marks (bo + 1) ({ target := .collected D, args := #[] } :: ds) ((V.alloc (.cells #[.int .i64 (I2 : Int)] 3)).alloc (.cells #[.int .i64 (K2 : Int)] 3)) := by
        refine Marks.cons (hM.out.keep (fun D' hD' h => ?_)) (by have h1 := HK.out.2.2.2.2.2.2.2; have h2 := hbut.out.size; have h3 := HB5.out.size; omega) ((hbel.block _ (Array.getElem?_eq_some_iff.1 hd).1).trans hd) (fun h => ?_)
        · have h5 := q9.same D' _ hD' ((HB5.out.block D' (Array.getElem?_eq_some_iff.1 h).1).trans h) rfl
          exact (hbel.block _ (Array.getElem?_eq_some_iff.1 h5).1).trans h5
        · have h1 := hM.out.lt D h
          have h2 := HB5.out.size
          omega
      have n6 : Avd oa' (ps ++ [((some ⟨bc, 0, none⟩, ln + 1, ln + 1), LC)]) V.heap.size ∧ Avd oa' (ps ++ [((some ⟨bc, 0, none⟩, ln + 1, ln + 1), LC)]) (V.heap.size + 1) := ⟨q7.fresh (Nat.le_refl _), q7.fresh (Nat.le_succ _)⟩
      have HNX := Lib.hid (And.intro n1 (And.intro n2 (And.intro n3 (And.intro n4 (And.intro n5 (And.intro n6 hVs))))))
      have HBD : Hid (I2 ≤ xn ∧ K2 ≤ tn ∧ on + 1 ≤ I2 + K2 ∧ i + k < I2 + K2) := ⟨hdd.1, hdd.2.1, by omega, by omega⟩
      clear n1 n2 n3 n4 n5 n6 hVs hbel hdd q2 q3 q5 q6 q7 q8 q9 hd hpr hpx hway hmem hlen hI2 hK2 hx
      dsimp only
      gi_wp2
      refine HHK.out _ _ (Handed.intro (xn + tn - (I2 + K2)) (by have h1 := HC.out; have h2 := HBD.out; omega) (HHJ.out _ _ _ (addI_mk V.heap.size (V.heap.size + 1) I2 K2 (on + 1) oc' oa' (ps ++ [((some ⟨bc, 0, none⟩, ln + 1, ln + 1), LC)]) ({ target := .collected D, args := #[] } :: ds) _ _ _ _ _ _ _ _ _ _ _ _ _ _ _ _ _ _ _ _ _ _ _ _ _ _ _ _ _ _ _ _ _ _
        ⟨by have h2 := HBD.out; omega, HBD.out.1, HBD.out.2.1, HNX.out.2.2.2.2.2.2, Nat.lt_succ_of_lt HNX.out.2.2.2.2.2.2, by omega, Lib.hid HNX.out.1, Lib.hid HNX.out.2.1, Lib.hid HNX.out.2.2.2.2.2.1, Lib.hid HNX.out.2.2.1, Lib.hid HNX.out.2.2.2.1, Lib.hid HNX.out.2.2.2.2.1, HBD.out.2.2.1, HPR⟩)))
  · by_cases h2 : k < tn
    · have d1 : decide ((i : Int) < (xn : Int)) = false := decide_eq_false (by omega)
      have d2 : decide ((k : Int) < (tn : Int)) = true := decide_eq_true (by omega)
      have e1 : decide (i < xn) = false := decide_eq_false h1
      have e2 : decide (k < tn) = true := decide_eq_true h2
      have HNE : Hid (i < xn ∨ k < tn) := .inr h2
      clear h1 h2
      gi_wp2_with (fail)
      obtain ⟨X, Wf, hX, hS1, hS2⟩ := family (fun V => Below W.heap.size W V) W (Below.refl _ _)
      have HS2 := Lib.hid hS2
      have q_m0 := fun x => cell_later (hS1 x) m0
      have q_m1 := fun x => cell_later (hS1 x) m1
      have q_m4 := fun x => cell_later (hS1 x) m4
      have q_s0 := fun x => cell_later (hS1 x) s0
      have q_s1 := fun x => cell_later (hS1 x) s1
      have q_s2 := fun x => cell_later (hS1 x) s2
      have q_s3 := fun x => cell_later (hS1 x) s3
      have q_s4 := fun x => cell_later (hS1 x) s4
      have q_s5 := fun x => cell_later (hS1 x) s5
      have q_s6 := fun x => cell_later (hS1 x) s6
      have q_s7 := fun x => cell_later (hS1 x) s7
      clear hS1 hS2
      have hd0 : Below W.heap.size W W.drew := (Below.refl _ _).drew
      refine wpIn_region_treA (Wf := Wf) 5 (.read 0 (.read 1 (.read 2 (.read 3 (.read 4 .fin))))) (by kernel_rfl) (by kernel_rfl) (HS2.out _ hd0) ?_
      refine wpTreA_read _ rfl (fun K hK => ?_); unfold rOp; go_simp; (refine hK _ ?_; clear hK K)
      refine wpTreA_read _ rfl (fun K hK => ?_); unfold rOp; go_simp; (refine hK _ ?_; clear hK K)
      refine wpTreA_read _ rfl (fun K hK => ?_); unfold rOp; go_simp; (refine hK _ ?_; clear hK K)
      refine wpTreA_read _ rfl (fun K hK => ?_); unfold rOp; go_simp; (refine hK _ ?_; clear hK K)
      refine wpTreA_read _ rfl (fun K hK => ?_); unfold rOp; go_simp; (refine hK _ ?_; clear hK K)
      refine wpTreA_fin ?_
      clear q_m0 q_m1 q_m4 q_s0 q_s1 q_s2 q_s3 q_s4 q_s5 q_s6 q_s7 m0 m1 m2 m4 s0 s1 s2 s3 s4 s5 s6 s7 HS2 hX
      clear X Wf
      have HWD := Lib.hid hd0
      clear hd0
      generalize W.drew = wd at *
      simp only [List.drop_succ_cons, List.drop_zero]
      gi_wp2_with (fail)
      refine ⟨trivial, ?_⟩
      refine (stp_in _ wd ⟨cg, cn, cl, cm⟩ ⟨la, ln, lp, xa, xn, xp, ta, tn, tp, some ⟨g, 0, none⟩, N, bp⟩ i k).mono ?_
      rintro e w5 ⟨rfl, hw5⟩
      gi_wp2_with (fail)
      have hb5 : Below wd.heap.size wd w5 := by rw [hw5]; exact (((Below.refl _ _).alloc (Nat.le_refl _) _).alloc (by simp) _).alloc (by simp; omega) _
      obtain ⟨c1, c2, c3⟩ := boxes3b wd (AV.arr ⟨la, ln, lp, xa, xn, xp, ta, tn, tp, some ⟨g, 0, none⟩, N, bp⟩ ⟨cg, cn, cl, cm⟩) #[.int .i64 (i : Int)] #[.int .i64 (k : Int)] 83 3 3
      rw [← hw5] at c1 c2 c3
      try rw [← hw5]
      clear hw5
      have HB5 : Hid (Below W.heap.size W w5) := HWD.out.trans (hb5.mono HWD.out.size)
      have HC5 := Lib.hid (And.intro c1 (And.intro c2 c3))
      clear hb5 c1 c2 c3 HWD
      have hIo : OwnFrom w5.heap.size (fun (pre : List (Stp (stL ⟨cg, cn, cl, cm⟩ l t cols i k))) (V : World) => Hid (∀ y ∈ pre, ¬ Mt ⟨cg, cn, cl, cm⟩ l t cols i k y.1) ∧ Below w5.heap.size w5 V) := by
        rintro pre V V' row ⟨g1, g2⟩ hg hr
        exact ⟨g1, g2.grown hg g2.size (fun r e => (hr r e).1)⟩
      have hHI := Lib.hid hIo
      have HRW : Hid (RdA (fun b => b < w.heap.size) W ⟨cg, cn, cl, cm⟩ ⟨la, ln, lp, xa, xn, xp, ta, tn, tp, none, 0, 0⟩ l t cols ∧ EnvLo w.heap.size W) := by
        have hb := HK.out.2.2.2.2.2.2.1.trans (hbut.out.toBelow HK.out.2.2.2.2.2.2.1.size (fun b e => by have e : b = bo := e; have := HLT.out; omega))
        exact ⟨HR.out.keep (KeepS.below hb), HLO.out.below hb⟩
      have hKE : ∀ V, KeepS (fun _ => True) w5 V → Env V := fun V hV => ((HRW.out.2.keep (KeepS.below HB5.out) (S := fun _ => True) (fun _ _ => trivial)).keep hV (fun _ _ => trivial)).env
      have hRd : RdA (fun _ => True) w5 ⟨cg, cn, cl, cm⟩ ⟨la, ln, lp, xa, xn, xp, ta, tn, tp, some ⟨g, 0, none⟩, N, bp⟩ l t cols := by
        have h := (HRW.out.1.keep (KeepS.below HB5.out)).mono (S' := fun _ => True) (fun _ _ _ => trivial)
        exact ⟨h.hl, h.ht, h.hx⟩
      refine iter_box (α := Stp (stL ⟨cg, cn, cl, cm⟩ l t cols i k)) (n := 10) (by omega) rfl (enters_of Tryz.func70 (by kernel_rfl) rfl)
        (stp_stops 9 (fun _ => True) ⟨cg, cn, cl, cm⟩ ⟨la, ln, lp, xa, xn, xp, ta, tn, tp, some ⟨g, 0, none⟩, N, bp⟩ l t cols (wd.heap.size + 1) wd.heap.size (wd.heap.size + 2) i k w5 hRd HV.out HC5.out.2.1 HC5.out.1 HC5.out.2.2 trivial trivial trivial hKE)
        KeepS.trans (fun V z o o' _ ho hc _ => KeepS.putObj V ho hc o') (fun _ => rfl) _
        (fun c pr V => ∃ (pr' : List (Stp (stL ⟨cg, cn, cl, cm⟩ l t cols i k))) (x : Stp (stL ⟨cg, cn, cl, cm⟩ l t cols i k)) (oa' : Option Addr) (oc' bc : Nat), pr = pr' ++ [x] ∧ (∀ y ∈ pr', ¬ Mt ⟨cg, cn, cl, cm⟩ l t cols i k y.1) ∧ Mt ⟨cg, cn, cl, cm⟩ l t cols i k x.1 ∧ c = .exit 2 ∧ V.heap[bi]? = some (.cells #[.int .i64 ((i + x.1.1 : Nat) : Int)] 3 (0, 0)) ∧ V.heap[bk]? = some (.cells #[.int .i64 ((k + x.1.2.1 : Nat) : Int)] 3 (0, 0)) ∧
          OutS V (bo + 1) bo oa' (on + 1) oc' (ps ++ [((some ⟨bc, 0, none⟩, ln + 1, ln + 1), colI (ext ln (if x.1.1 = 1 then some (cmAt cols i) else none, if x.1.2.1 = 1 then some k else none)))]) ∧ But (fun b => b = bo) w4 V ∧ KeepsFrom (bo + 1) w5 V)
        hIo ?hIx ⟨by show ∀ y ∈ [], _; simp, Below.refl _ _⟩ (fun x => #[.int .i64 (x.1.1 : Int), .int .i64 (x.1.2.1 : Int), .int .i64 (x.1.2.2 : Int)]) 88 ?round ?done ?stop
      all_goals clear hIo hKE hRd
      case hIx =>
        rintro c pr V V' row ⟨pr', x, oa', oc', bc, q1, q2, q3, q4, q5, q6, q7, q8, q9⟩ hg hr
        have hsz : w4.heap.size ≤ w5.heap.size := Nat.le_trans hbut.out.size HB5.out.size
        have hb4 := HK.out.2.2.2.2.2.2.2
        exact ⟨pr', x, oa', oc', bc, q1, q2, q3, q4, cells_own q5 hg hr, cells_own q6 hg hr, q7.kept hg hr, q8.grown hg (fun r e => by have := (hr r e).1; omega),
          ⟨Nat.le_trans q9.size hg.size, fun b o hb ho hc => by
            have hV := q9.same b o hb ho hc
            rw [hg.block b (Array.getElem?_eq_some_iff.1 hV).1 (fun e => ?_)]
            · exact hV
            · have h1 := (hr b e.symm).1
              have := (Array.getElem?_eq_some_iff.1 ho).1
              omega⟩⟩
      case done =>
        rintro D xs V hD rfl ⟨g1, g2⟩ hd
        exact absurd (way_some (c := ⟨cg, cn, cl, cm⟩) (l := l) (t := t) (cols := cols) (i := i) (k := k) (fun y hy => g1.out ⟨y, hy⟩ (List.mem_attach _ _))) (fun h => h (by have h1 := HNE.out; have h2 := HLN.out; omega))
      case round =>
        rintro lv pre0 ⟨⟨di, dk, cst⟩, hx⟩ V K' hI0 hK'
        dsimp only [stEnc]
        gi_wp2
        refine hK' _ _ V.heap.size (keepsFrom_below ((Below.refl _ _).alloc (Nat.le_refl _) _)) (KeepS.alloc _ _ _) (hHI.out.alloc _ hI0) (World.alloc_heap_new _ _) ?_
        clear hK' hI0 hHI
        generalize V.heap.size = bs at *
        clear V K'
        rintro lv2 pre Z hbs ⟨hno, hbV⟩ hlt
        have hmem := (stL_mem hx).1
        have hcst := (stL_mem hx).2 HV.out.ok
        dsimp only at hmem hcst
        have hlen := HLN.out
        have hN := HN.out
        obtain ⟨I2, hI2⟩ : ∃ I2, I2 = i + di := ⟨_, rfl⟩
        obtain ⟨K2, hK2⟩ : ∃ K2, K2 = k + dk := ⟨_, rfl⟩
        have y1 : I2 < N := by omega
        have y2 : K2 < t.length + 1 := by omega
        have y3 : i < N := by omega
        have y4 : k < t.length + 1 := by omega
        have hWV : Below W.heap.size W Z := HB5.out.trans (hbV.mono HB5.out.size)
        have hTW : Tb2 W w.heap.size g N (t.length + 1) rows (fun i k => (tabB ⟨cg, cn, cl, cm⟩ l t cols i k : Int)) := HK.out.2.2.2.2.2.1.same
          (hbut.out.block g HK.out.2.2.2.2.2.1.glt (by intro e; have e : g = bo := e; have := HLT.out.2.2.2.2.2.1; omega))
          (fun i' hi' => hbut.out.block (rows i') (HK.out.2.2.2.2.2.1.rlt hi') (by intro e; have e : rows i' = bo := e; have := HLT.out.2.2.2.2.2.2 i' hi'; omega))
        have hTV := hTW.below hWV
        obtain ⟨M, hM⟩ : ∃ M, M = t.length + 1 := ⟨_, rfl⟩
        rw [← hM] at hTV y2 y4
        have o1 := hTV.cellO y1
        have r1 := hTV.cellI y1 y2
        have o2 := hTV.cellO y3
        have r2 := hTV.cellI y3 y4
        obtain ⟨tv, htv⟩ : ∃ tv, tv = tabB ⟨cg, cn, cl, cm⟩ l t cols I2 K2 := ⟨_, rfl⟩
        obtain ⟨t0, ht0⟩ : ∃ t0, t0 = tabB ⟨cg, cn, cl, cm⟩ l t cols i k := ⟨_, rfl⟩
        have htvb : tv ≤ 32000 * 80 := by
          rw [htv]
          refine Nat.le_trans (tabB_le HV.out.ok l t cols I2 K2) (Nat.mul_le_mul (by omega) (by omega))
        rw [← htv] at r1
        rw [← ht0] at r2
        obtain ⟨Zx, hZx⟩ : ∃ Zx, Zx = cst + tv := ⟨_, rfl⟩
        have HMT : Hid (Mt ⟨cg, cn, cl, cm⟩ l t cols i k (di, dk, cst) ↔ Zx = t0) := by
          show Mt _ _ _ _ _ _ _ ↔ _
          unfold Mt
          dsimp only
          rw [hZx, htv, ht0, hI2, hK2]
        have hzi : (cst : Int) + (tv : Int) = (Zx : Int) := by omega
        have hzw : IntKind.i64.wrap (Zx : Int) = (Zx : Int) := by rw [IntKind.wrap_i64]; omega
        have hii : (i : Int) + (di : Int) = (I2 : Int) := by omega
        have hiw : IntKind.i64.wrap (I2 : Int) = (I2 : Int) := by rw [IntKind.wrap_i64]; omega
        have hki : (k : Int) + (dk : Int) = (K2 : Int) := by omega
        have hkw : IntKind.i64.wrap (K2 : Int) = (K2 : Int) := by rw [IntKind.wrap_i64]; omega
        obtain ⟨x0, x1, x2⟩ := box3s hbs
        have m0 := cell_later hWV (one_box hei.out).1
        have m1 := cell_later hWV (one_box hek.out).1
        have m2 := cell_later hWV (one_box (HAT.out bx _ HLT.out.2.2.1 HK.out.2.2.1)).1
        have m3 := cell_later hWV (one_box (HAT.out bl _ HLT.out.2.1 HK.out.2.1)).1
        have m4 := cell_later hWV (one_box (HAT.out bQ _ HLT.out.2.2.2.1 HK.out.2.2.2.1)).1
        have s7 := cell_later hWV (box8 (HAT.out bA _ HLT.out.2.2.2.2.1 HK.out.2.2.2.2.1)).2.2.2.2.2.2.2.1
        have HWV := Lib.hid hWV
        have HBV := Lib.hid hbV
        have HBS := Lib.hid hbs
        have HNO := Lib.hid hno
        have HXM := Lib.hid hmem
        have HEQ := Lib.hid (And.intro hI2 hK2)
        clear hWV hbV hbs hno hmem hcst hlen hN hI2 hK2 hTW hTV htv ht0 htvb hZx hlt hM
        have HYI := Lib.hid y3
        by_cases hz : Zx = t0
        · have e1 : ((Zx : Int) != (t0 : Int)) = false := by rw [hz]; simp
          have e2 : (Zx != t0) = false := by rw [hz]; simp
          have HMY := Lib.hid (HMT.out.2 hz)
          clear hz HMT
          gi_wp2_with (fail)
          obtain ⟨X, Wf, hX, hS1, hS2⟩ := family (fun V => Below Z.heap.size Z V) Z (Below.refl _ _)
          have HS2 := Lib.hid hS2
          have q_m0 := fun x => cell_later (hS1 x) m0
          have q_m1 := fun x => cell_later (hS1 x) m1
          have q_m4 := fun x => cell_later (hS1 x) m4
          have q_s7 := fun x => cell_later (hS1 x) s7
          have q_x0 := fun x => cell_later (hS1 x) x0
          have q_x1 := fun x => cell_later (hS1 x) x1
          have q_x2 := fun x => cell_later (hS1 x) x2
          have q_o1 := fun x => cell_later (hS1 x) o1
          have q_r1 := fun x => cell_later (hS1 x) r1
          have q_o2 := fun x => cell_later (hS1 x) o2
          have q_r2 := fun x => cell_later (hS1 x) r2
          clear hS1 hS2
          have hd0 : Below Z.heap.size Z Z.drew := (Below.refl _ _).drew
          refine wpIn_region_round (by kernel_rfl) (by kernel_rfl) (fun _ _ h => h) (wpAny_tree (Wf := Wf) 29 (.read 0 (.read 1 (.read 2 (.read 3 (.read 4 (.read 5 (.read 6 (.read 7 (.read 8 (.read 9 (.read 10 (.read 11 (.read 12 (.read 13 (.read 14 (.read 15 (.read 16 (.read 17 (.read 18 (.read 19 (.read 20 (.read 21 (.read 22 (.read 23 (.read 24 (.read 25 (.read 26 (.read 27 (.read 28 .fin))))))))))))))))))))))))))))) (by kernel_rfl) (fun _ _ d _ _ h => by cases d <;> exact h) (HS2.out _ hd0) ?_)
          refine wpTree_read _ rfl (fun K hK => ?_); unfold rOp; go_simp; (refine hK _ ?_; clear hK K)
          refine wpTree_read _ rfl (fun K hK => ?_); unfold rOp; go_simp; (refine hK _ ?_; clear hK K)
          refine wpTree_read _ rfl (fun K hK => ?_); unfold rOp; go_simp; (refine hK _ ?_; clear hK K)
          refine wpTree_read _ rfl (fun K hK => ?_); unfold rOp; go_simp; (refine hK _ ?_; clear hK K)
          refine wpTree_read _ rfl (fun K hK => ?_); unfold rOp; go_simp; (refine hK _ ?_; clear hK K)
          refine wpTree_read _ rfl (fun K hK => ?_); unfold rOp; go_simp; (refine hK _ ?_; clear hK K)
          refine wpTree_read _ rfl (fun K hK => ?_); unfold rOp; go_simp; (refine hK _ ?_; clear hK K)
          refine wpTree_read _ rfl (fun K hK => ?_); unfold rOp; go_simp; (refine hK _ ?_; clear hK K)
          refine wpTree_read _ rfl (fun K hK => ?_); unfold rOp; go_simp; (refine hK _ ?_; clear hK K)
          refine wpTree_read _ rfl (fun K hK => ?_); unfold rOp; go_simp; (refine hK _ ?_; clear hK K)
          refine wpTree_read _ rfl (fun K hK => ?_); unfold rOp; go_simp; (refine hK _ ?_; clear hK K)
          refine wpTree_read _ rfl (fun K hK => ?_); unfold rOp; go_simp; (refine hK _ ?_; clear hK K)
          refine wpTree_read _ rfl (fun K hK => ?_); unfold rOp; go_simp; (refine hK _ ?_; clear hK K)
          refine wpTree_read _ rfl (fun K hK => ?_); unfold rOp; go_simp; (refine hK _ ?_; clear hK K)
          refine wpTree_read _ rfl (fun K hK => ?_); unfold rOp; go_simp; (refine hK _ ?_; clear hK K)
          refine wpTree_read _ rfl (fun K hK => ?_); unfold rOp; go_simp; (refine hK _ ?_; clear hK K)
          refine wpTree_read _ rfl (fun K hK => ?_); unfold rOp; go_simp; (refine hK _ ?_; clear hK K)
          refine wpTree_read _ rfl (fun K hK => ?_); unfold rOp; go_simp; (refine hK _ ?_; clear hK K)
          refine wpTree_read _ rfl (fun K hK => ?_); unfold rOp; go_simp; (refine hK _ ?_; clear hK K)
          refine wpTree_read _ rfl (fun K hK => ?_); unfold rOp; go_simp; (refine hK _ ?_; clear hK K)
          refine wpTree_read _ rfl (fun K hK => ?_); unfold rOp; go_simp; (refine hK _ ?_; clear hK K)
          refine wpTree_read _ rfl (fun K hK => ?_); unfold rOp; go_simp; (refine hK _ ?_; clear hK K)
          refine wpTree_read _ rfl (fun K hK => ?_); unfold rOp; go_simp; (refine hK _ ?_; clear hK K)
          refine wpTree_read _ rfl (fun K hK => ?_); unfold rOp; go_simp; (refine hK _ ?_; clear hK K)
          refine wpTree_read _ rfl (fun K hK => ?_); unfold rOp; go_simp; (refine hK _ ?_; clear hK K)
          refine wpTree_read _ rfl (fun K hK => ?_); unfold rOp; go_simp; (refine hK _ ?_; clear hK K)
          refine wpTree_read _ rfl (fun K hK => ?_); unfold rOp; go_simp; (refine hK _ ?_; clear hK K)
          refine wpTree_read _ rfl (fun K hK => ?_); unfold rOp; go_simp; (refine hK _ ?_; clear hK K)
          refine wpTree_read _ rfl (fun K hK => ?_); unfold rOp; go_simp; (refine hK _ ?_; clear hK K)
          refine wpTree_fin ?_
          clear q_m0 q_m1 q_m4 q_s7 q_x0 q_x1 q_x2 q_o1 q_r1 q_o2 q_r2 HS2 hX
          clear X Wf
          replace m0 := cell_later hd0 m0
          replace m1 := cell_later hd0 m1
          replace m2 := cell_later hd0 m2
          replace m3 := cell_later hd0 m3
          replace x0 := cell_later hd0 x0
          replace x1 := cell_later hd0 x1
          have HV1 := Lib.hid hd0
          clear hd0 m4 s7 x2 o1 r1 o2 r2 y1 y2 y3 y4
          generalize Z.drew = Z1 at *
          go_wp2_with fail
          obtain ⟨n1, hn1⟩ : ∃ n1, n1 = ln + 1 := ⟨_, rfl⟩
          have hn1i : (ln : Int) + 1 = (n1 : Int) := by omega
          have hn1w : IntKind.i64.wrap (n1 : Int) = (n1 : Int) := by rw [IntKind.wrap_i64]; omega
          have hn1b : 1 ≤ n1 ∧ n1 ≤ 33 := by omega
          have HN1 := Lib.hid hn1
          clear hn1
          have hA1 : Below Z1.heap.size Z1 (Z1.alloc (.cells #[.int .i64 (-1)] 3)) := (Below.refl _ _).alloc (Nat.le_refl _) _
          have hcb := (one_box (World.alloc_heap_new Z1 (.cells #[.int .i64 (-1)] 3))).1
          have hrp := repeat_any n1 Z1.heap.size (-1) _ (by omega) (by omega) hcb
          rw [show (Z1.alloc (.cells #[.int .i64 (-1)] 3)).heap.size = Z1.heap.size + 1 by simp] at hrp
          have HRP := Lib.hid hrp
          replace m0 := cell_later hA1 m0
          replace m1 := cell_later hA1 m1
          replace m2 := cell_later hA1 m2
          replace m3 := cell_later hA1 m3
          replace x0 := cell_later hA1 x0
          replace x1 := cell_later hA1 x1
          have HA1 := Lib.hid hA1
          clear hA1 hcb hrp
          gi_wp2_with (fail)
          refine ⟨trivial, (callsIn_wide.2 HRP.out).mono ?_⟩
          rintro e Z3 ⟨rfl, hO, hb3⟩
          obtain ⟨bc, hbc⟩ : ∃ bc, bc = Z1.heap.size + 1 := ⟨_, rfl⟩
          rw [← hbc] at hO
          rw [← hbc]
          have F3 := (full_block hO.2).1
          rw [List.map_replicate] at F3
          have hz13 : Below Z.heap.size Z Z3 := HV1.out.trans ((HA1.out.mono HV1.out.size).trans (hb3.mono (Nat.le_trans HV1.out.size (Nat.le_succ _))))
          have HLO3 : Hid (Z.heap.size < bc) := by show _ < _; have := HV1.out.size; omega
          clear m0 m1 m2 m3 x0 x1 HRP hO hb3 HA1 HV1 hbc
          generalize Z1.heap.size = z1 at *
          clear Z1
          have HZW : Hid (∀ (Y : World), Below Z.heap.size Z Y → Y.cell? ⟨bi, 0, none⟩ = some (.int .i64 (i : Int)) ∧ Y.cell? ⟨bk, 0, none⟩ = some (.int .i64 (k : Int)) ∧ Y.cell? ⟨bx, 0, none⟩ = some (.slice xa xn xp) ∧ Y.cell? ⟨bl, 0, none⟩ = some (.slice la ln lp) ∧ Y.cell? ⟨bs, 0, none⟩ = some (.int .i64 (di : Int)) ∧ Y.cell? ⟨bs, 1, none⟩ = some (.int .i64 (dk : Int))) := fun Y hY => by
            have h := HWV.out.trans (hY.mono HWV.out.size)
            have hb := box3s ((hY.block _ (Array.getElem?_eq_some_iff.1 HBS.out).1).trans HBS.out)
            exact ⟨cell_later h (one_box hei.out).1, cell_later h (one_box hek.out).1, cell_later h (one_box (HAT.out bx _ HLT.out.2.2.1 HK.out.2.2.1)).1, cell_later h (one_box (HAT.out bl _ HLT.out.2.1 HK.out.2.1)).1, hb.1, hb.2.1⟩
          obtain ⟨m0, m1, m2, m3, x0, x1⟩ := HZW.out Z3 hz13
          rcases HXM.out with ⟨hd1, hd2, hlc, hlt⟩ | ⟨hd1, hd2, hlc⟩ | ⟨hd1, hd2, hlt⟩
          · have HLC : Hid (ext ln (if di = 1 then some (cmAt cols i) else none, if dk = 1 then some k else none) = ext ln (some (cmAt cols i), some k)) := by show _ = _; rw [if_pos hd1, if_pos hd2]
            have p1 : ((di : Int) == 1) = true := by rw [hd1]; rfl
            have p2 : (di == 1) = true := by rw [hd1]; rfl
            have p3 : ((dk : Int) == 1) = true := by rw [hd2]; rfl
            have p4 : (dk == 1) = true := by rw [hd2]; rfl
            have HD := Lib.hid (And.intro hd1 hd2)
            clear hd1 hd2 hlt
            obtain ⟨u0, bX, oX, xr, q, xc, hu, -, hxe, -, -, hrow, hcx⟩ := HRW.out.1.hx.row (show i < xn by have := HLN.out; omega)
            subst hxe
            rw [List.getElem?_map, cm_get hlc] at hu
            have hu1 : u0 = colI (cmAt cols i) := (Option.some.inj hu).symm
            subst hu1
            have hql : (cmAt cols i).length = ln := by
              have := (HV.out.vc (cmAt cols i) (List.mem_of_getElem? (cm_get hlc))).1
              have := HLN.out; omega
            have hq : q = ln := by have := hrow.len; rw [colI, List.length_map] at this; omega
            subst hq
            have HQL := Lib.hid hql
            have cx3 := cell_later (HWV.out.trans (hz13.mono HWV.out.size)) hcx
            have hrow3 := hrow.below rInt_ok (HWV.out.trans (hz13.mono HWV.out.size))
            have HROW := Lib.hid hrow3
            have hixn : i < xn := by have := HLN.out; omega
            clear hu hql hrow hcx hrow3 hlc
            have HSZ : Hid ((Tryz.prog.info? 3).map (·.size) = some 1) := by
              obtain ⟨i1, ki, kz0, kz1, kz2⟩ := info_parts Tryz.infoInt
              show _ = _; rw [ki]; simp [kz1]
            have HCL : Hid ((colI (cmAt cols i)).length = q) := by show _ = _; rw [colI, List.length_map]; exact HQL.out
            gi_wp2_with (refine wpListIn_of (fun _ _ h => h) [_] _ _ (by kernel_rfl) ?_; refine wpList_copy_splice rfl (.tmp 87) (.tmp 91) 27 27 rfl 3 Tryz.underlying27 HSZ.out (some ⟨bc, 0, none⟩) xr n1 n1 q xc rfl rfl bc 0 (List.replicate n1 (Value.int .i64 (-1))) 3 F3 ((colI (cmAt cols i)).map (Value.int .i64)) (by rw [List.length_map, HCL.out]; exact (Nat.min_eq_left (by have := HN1.out; omega)).symm) (fun h0 => ⟨rfl, nums_src HROW.out (by simpa using h0)⟩) (by rw [List.length_map, List.length_replicate, HCL.out]; have := HN1.out; omega) (fun v hv => by obtain ⟨y, -, rfl⟩ := List.mem_map.1 hv; rfl) bc Z3 (Below.refl _ _) (Nat.le_refl _) ?_)
            intro Z4 hg4 hb4
            have F4 := hg4.out
            rw [splice_col HN1.out HCL.out] at F4
            have hz14 : Below Z.heap.size Z Z4 := hz13.trans (hb4.mono (Nat.le_of_lt HLO3.out))
            clear hg4 hb4 m0 m1 m2 m3 x0 x1 cx3 HROW hixn F3 hz13
            clear Z3
            obtain ⟨m0, m1, m2, m3, x0, x1⟩ := HZW.out Z4 hz14
            go_wp2_with fail
            have HLL : Hid (((colI (cmAt cols i))).length = q) := HCL.out
            clear HCL HQL HSZ
            have hq1 : q < n1 := by have := HN1.out; omega
            have cput : Z4.cell? ⟨bc, q, none⟩ = some (.int .i64 (-1)) := by
              rw [cell_row F4, List.getElem?_toArray, List.getElem?_map, List.getElem?_append_right (by rw [HLL.out]; exact Nat.le_refl _), HLL.out, Nat.sub_self]; rfl
            have fput : Z4.frozen? ⟨bc, q, none⟩ = false := by simp [World.frozen?, F4]
            have F5 : ((Z4.setCell ⟨bc, q, none⟩ (.int .i64 (k : Int)))).heap[bc]? = some (.cells ((((colI (cmAt cols i)) ++ [(k : Int)])).map (Value.int .i64)).toArray 3 (0, 0)) := by
              rw [heap_setCell_self F4, set_last_map (-1) (k : Int) HLL.out]
            have hz15 : Below Z.heap.size Z (Z4.setCell ⟨bc, q, none⟩ (.int .i64 (k : Int))) := below_setc hz14 (Nat.le_of_lt HLO3.out) q _
            have hzs : ((Z4.setCell ⟨bc, q, none⟩ (.int .i64 (k : Int)))).heap.size = Z4.heap.size := by simp [World.setCell]
            clear F4 hz14
            have HLCF : Hid (colI (ext q (if di = 1 then some (cmAt cols i) else none, if dk = 1 then some k else none)) = (colI (cmAt cols i)) ++ [(k : Int)]) := by show _ = _; rw [HLC.out, col_ext]; rfl
            have hal : Below ((Z4.setCell ⟨bc, q, none⟩ (.int .i64 (k : Int)))).heap.size (Z4.setCell ⟨bc, q, none⟩ (.int .i64 (k : Int))) (((Z4.setCell ⟨bc, q, none⟩ (.int .i64 (k : Int)))).alloc (.cells #[.slice (some ⟨bc, 0, none⟩) n1 n1] 27)) := (Below.refl _ _).alloc (Nat.le_refl _) _
            have hz16 : Below Z.heap.size Z (((Z4.setCell ⟨bc, q, none⟩ (.int .i64 (k : Int)))).alloc (.cells #[.slice (some ⟨bc, 0, none⟩) n1 n1] 27)) := hz15.trans (hal.mono hz15.size)
            have h4s : bo + 1 ≤ Z.heap.size := by have h1 := HK.out.2.2.2.2.2.2.2; have h2 := hbut.out.size; have h3 := HWV.out.size; omega
            have hout5 := hout.out.below HWV.out
            have c11 := (one_box ((hz15.block bo (by omega)).trans hout5.box)).1
            have hcol : OwnQ 3 1 encI (((Z4.setCell ⟨bc, q, none⟩ (.int .i64 (k : Int)))).alloc (.cells #[.slice (some ⟨bc, 0, none⟩) n1 n1] 27)) (bo + 1) (some ⟨bc, 0, none⟩) n1 n1 ((colI (cmAt cols i)) ++ [(k : Int)]) := ownq_of ((hal.block bc (Array.getElem?_eq_some_iff.1 F5).1).trans F5) (by have := HLO3.out; omega) (by have h1 := HLL.out; have h2 := HN1.out; rw [List.length_append, h1]; exact h2) (by omega)
            have HO6 := Lib.hid (hout5.own.below hz16)
            have hbox6 := (hout5.below hz16).box
            have HV6 : Hid (∀ j u, ([((some ⟨bc, 0, none⟩, n1, n1) : Row)].flatMap encR)[j]? = some u → ((((Z4.setCell ⟨bc, q, none⟩ (.int .i64 (k : Int)))).alloc (.cells #[.slice (some ⟨bc, 0, none⟩) n1 n1] 27))).cell? ((⟨Z4.heap.size, 0, none⟩ : Addr).add j) = some u) := fun j u hj => by
              rw [← hzs]; exact lit_cells (by exact hj)
            have HH := Lib.hid (And.intro hout5 (And.intro hz16 hcol))
            have hB9 : bo + 1 ≤ ((((Z4.setCell ⟨bc, q, none⟩ (.int .i64 (k : Int)))).alloc (.cells #[.slice (some ⟨bc, 0, none⟩) n1 n1] 27))).heap.size := Nat.le_trans h4s hz16.size
            have HB6 := Lib.hid hbox6
            have hon2 : on ≤ 80 := by omega
            clear hal hz16 hout5 hcol hbox6 hz15 F5
            gi_wp2_with (gi_at_builtin; refine wpListIn_appQ (w0 := (((Z4.setCell ⟨bc, q, none⟩ (.int .i64 (k : Int)))).alloc (.cells #[.slice (some ⟨bc, 0, none⟩) n1 n1] 27))) (l := ps.map (·.1)) (ys := [((some ⟨bc, 0, none⟩, n1, n1) : Row)]) Tryz.infoInts Tryz.underlying31 rfl (by omega) (fun _ => rfl) (fun r v h => by rw [List.mem_singleton.1 h]; rfl) rfl _ _ rfl rfl rfl HO6.out rfl HV6.out (by unfold maxLen; omega) (by omega) hB9 (Below.refl _ _) ?_; intro a5 c5 Z7 ho5 hb7 hg5 hz5; have c77 := (one_box ((hb7.block bo (Nat.lt_succ_self _)).trans HB6.out)).1; have f77 := (one_box ((hb7.block bo (Nat.lt_succ_self _)).trans HB6.out)).2)
            obtain ⟨hout5, hz16, hcol⟩ := HH.out
            obtain ⟨h8, hav⟩ := hout5.app (Nat.lt_succ_self _) h4s hz16 (Nat.le_of_lt HLO3.out) hcol ho5 hg5 hz5
            have hF : ∀ (b : Nat) (o : Obj), b < Z.heap.size → b ≠ bo → (∀ x, oa = some x → x.block ≠ b) → Z.heap[b]? = some o → (Z7.setCell ⟨bo, 0, none⟩ (.slice a5 (on + 1) c5)).heap[b]? = some o := fun b o h1 h2 h3 h =>
              (heap_setCell_other h2 _).trans ((hg5.block b (by have := hz16.size; omega) (own_ne h3)).trans ((hz16.block b h1).trans h))
            have hZi := (HWV.out.block bi (Array.getElem?_eq_some_iff.1 hei.out).1).trans hei.out
            have hZk := (HWV.out.block bk (Array.getElem?_eq_some_iff.1 hek.out).1).trans hek.out
            have g0 := hF bi _ (Array.getElem?_eq_some_iff.1 hZi).1 (by omega) havd.out.1.1 hZi
            have g1 := hF bk _ (Array.getElem?_eq_some_iff.1 hZk).1 (by omega) havd.out.2.1 hZk
            have gb := hF bs _ (Array.getElem?_eq_some_iff.1 HBS.out).1 (fun e => by have := hout5.box; rw [← e, HBS.out] at this; cases this) (fun x hx e => by obtain ⟨cur, hcur⟩ := hout5.own.ty hx; rw [e, HBS.out] at hcur; cases hcur) HBS.out
            have hko : KeepsOthers Z (Z7.setCell ⟨bo, 0, none⟩ (.slice a5 (on + 1) c5)) := ((ko_below hz16).trans (KeepsOthers.of_grownBy hg5 (fun j o hj hoj => by obtain ⟨x, hx, e⟩ := own_eq hj; rw [← e] at hoj; exact HO6.out.isC hx hoj))).trans (KeepsOthers.setCell _ _ _)
            have h4w := HK.out.2.2.2.2.2.2.2
            have hbt : But (fun b => b = bo) w4 (Z7.setCell ⟨bo, 0, none⟩ (.slice a5 (on + 1) c5)) := (((hbut.out.trans (But.below HWV.out)).trans (But.below hz16)).grown hg5 (fun r e => by obtain ⟨x, hx, e⟩ := own_eq e; have := (hout5.own.lt x hx).1; omega)).setc _ (fun _ => rfl)
            have hav2 := hav bi (Array.getElem?_eq_some_iff.1 hZi).1 havd.out.1
            have hav3 := hav bk (Array.getElem?_eq_some_iff.1 hZk).1 havd.out.2
            clear hout5 hz16 hcol hF hZi hZk HH HO6 HV6 HB6 hB9 ho5 hb7 hg5 hz5 c77 f77 c11 hav hzs m0 m1 m2 m3 x0 x1
            generalize Z7.setCell ⟨bo, 0, none⟩ (.slice a5 (on + 1) c5) = Z8 at *
            generalize Z4.heap.size = z4 at *
            generalize ((colI (cmAt cols i)) ++ [(k : Int)]) = LCC at *
            clear Z7
            try clear cput fput
            clear Z4
            have m0 := (one_box g0).1
            have m1 := (one_box g1).1
            obtain ⟨x0, x1, -⟩ := box3s gb
            have HO8 := Lib.hid (And.intro h8 (And.intro hko (And.intro hbt (And.intro hav2 hav3))))
            have HG8 := Lib.hid (And.intro g0 g1)
            have hbsi : bs ≠ bi := fun e => by rw [e, g0] at gb; cases gb
            clear h8 hko hbt hav2 hav3 g0 g1 gb
            obtain ⟨X, Wf, hX, hS1, hS2⟩ := family (fun V : World => V.cell? ⟨bk, 0, none⟩ = some (.int .i64 (k : Int)) ∧ V.cell? ⟨bs, 0, none⟩ = some (.int .i64 (di : Int)) ∧ V.cell? ⟨bs, 1, none⟩ = some (.int .i64 (dk : Int))) Z8.drew ⟨m1, x0, x1⟩
            have HS2 := Lib.hid hS2
            have q_m1 := fun x => (hS1 x).1
            have q_x0 := fun x => (hS1 x).2.1
            have q_x1 := fun x => (hS1 x).2.2
            clear hS1 hS2
            have hd0 : Below Z8.heap.size Z8 Z8.drew := (Below.refl _ _).drew
            have hS0 := HS2.out Z8.drew ⟨m1, x0, x1⟩
            refine wpIn_region_round (by kernel_rfl) (by kernel_rfl) (fun _ _ h => h) (wpAny_tree (Wf := Wf) 9 (.read 4 (.read 5 (.read 6 (.read 7 (.read 1 (.read 2 (.act 0 (.read 3 (.act 8 .fin))))))))) (by kernel_rfl) (fun _ _ d _ _ h => by cases d <;> exact h) hS0 ?_)
            refine wpTree_read _ rfl (fun K hK => ?_); unfold rOp; go_simp; (refine hK _ ?_; clear hK K)
            refine wpTree_read _ rfl (fun K hK => ?_); unfold rOp; go_simp; (refine hK _ ?_; clear hK K)
            refine wpTree_read _ rfl (fun K hK => ?_); unfold rOp; go_simp; (refine hK _ ?_; clear hK K)
            refine wpTree_read _ rfl (fun K hK => ?_); unfold rOp; go_simp; (refine hK _ ?_; clear hK K)
            refine wpTree_read _ rfl (fun K hK => ?_); unfold rOp; go_simp; (refine hK _ ?_; clear hK K)
            refine wpTree_read _ rfl (fun K hK => ?_); unfold rOp; go_simp; (refine hK _ ?_; clear hK K)
            refine wpTree_act _ rfl ?_
            have m0' : Z8.drew.cell? ⟨bi, 0, none⟩ = some (.int .i64 (i : Int)) := m0
            go_wp2_with fail
            refine ⟨hS0, ?_⟩
            refine wpTree_read _ rfl (fun K hK => ?_); unfold rOp; go_simp; (refine hK _ ?_; clear hK K)
            clear m0'
            have h8 := HO8.out.1.below hd0
            have hko : KeepsOthers Z Z8.drew := HO8.out.2.1.trans (ko_below hd0)
            have hbt := HO8.out.2.2.1.trans (But.below hd0)
            have g0 := (hd0.block _ (Array.getElem?_eq_some_iff.1 HG8.out.1).1).trans HG8.out.1
            have g1 := (hd0.block _ (Array.getElem?_eq_some_iff.1 HG8.out.2).1).trans HG8.out.2
            have y0 : Z8.drew.cell? ⟨bk, 0, none⟩ = some (.int .i64 (k : Int)) := m1
            have y1 : Z8.drew.cell? ⟨bs, 0, none⟩ = some (.int .i64 (di : Int)) := x0
            have y2 : Z8.drew.cell? ⟨bs, 1, none⟩ = some (.int .i64 (dk : Int)) := x1
            clear hd0 m0 m1 x0 x1 hS0
            generalize Z8.drew = Z9 at *
            have c90 := (one_box g0).1
            have f90 := (one_box g0).2
            have g1' := (heap_setCell_other (j := 0) (v := .int .i64 (I2 : Int)) (Ne.symm hik) ).trans g1
            have c91 := (one_box g1').1
            have f91 := (one_box g1').2
            have e0 : ((Z9.setCell ⟨bi, 0, none⟩ (.int .i64 (I2 : Int))).setCell ⟨bk, 0, none⟩ (.int .i64 (K2 : Int))).heap[bi]? = some (.cells #[.int .i64 ((i + di : Nat) : Int)] 3 (0, 0)) := by
              rw [← HEQ.out.1]; exact (heap_setCell_other hik _).trans (one_set g0 _)
            have e1' : ((Z9.setCell ⟨bi, 0, none⟩ (.int .i64 (I2 : Int))).setCell ⟨bk, 0, none⟩ (.int .i64 (K2 : Int))).heap[bk]? = some (.cells #[.int .i64 ((k + dk : Nat) : Int)] 3 (0, 0)) := by
              rw [← HEQ.out.2]; exact one_set g1' _
            have hob : bi ≠ bo ∧ bk ≠ bo := by omega
            have h9 := (h8.set hob.1 HO8.out.2.2.2.1 (j := 0) (.int .i64 (I2 : Int))).set hob.2 HO8.out.2.2.2.2 (j := 0) (.int .i64 (K2 : Int))
            have hk9 := (hko.trans (KeepsOthers.setCell Z9 ⟨bi, 0, none⟩ (.int .i64 (I2 : Int)))).trans (KeepsOthers.setCell (Z9.setCell ⟨bi, 0, none⟩ (.int .i64 (I2 : Int))) ⟨bk, 0, none⟩ (.int .i64 (K2 : Int)))
            have hb9 := (hbt.setc (b := bi) (j := 0) (.int .i64 (I2 : Int)) (fun h => by omega)).setc (b := bk) (j := 0) (.int .i64 (K2 : Int)) (fun h => by omega)
            have HEND := Lib.hid (And.intro e0 (And.intro e1' (And.intro h9 (And.intro hk9 hb9))))
            have hS9 := HS2.out (Z9.setCell ⟨bi, 0, none⟩ (.int .i64 (I2 : Int))) ⟨c91, cell?_setc_other (j' := 0) hbsi y1, cell?_setc_other (j' := 1) hbsi y2⟩
            clear e0 e1' h9 hk9 hb9 h8 hko hbt g0 g1 g1' y0 y1 y2
            refine wpTree_act _ rfl ?_
            go_wp2_with fail
            refine ⟨hS9, ?_⟩
            refine wpTree_fin ?_
            clear hS9 q_m1 q_x0 q_x1 HS2 hX
            clear X Wf
            go_wp2_with fail
            gi_wp2_with (fail)
            obtain ⟨z0, z1', z2, z3, z4'⟩ := HEND.out
            refine ⟨z3.from _, pre, ⟨(di, dk, cst), hx⟩, a5, c5, bc, rfl, HNO.out, HMY.out, rfl, z0, z1', ?_, z4', (keepsFrom_below HBV.out).trans (z3.from _)⟩
            dsimp only
            rw [HLCF.out, ← HN1.out]
            exact z2
          · have HLC : Hid (ext ln (if di = 1 then some (cmAt cols i) else none, if dk = 1 then some k else none) = ext ln (some (cmAt cols i), none)) := by show _ = _; rw [if_pos hd1, if_neg (by omega)]
            have p1 : ((di : Int) == 1) = true := by rw [hd1]; rfl
            have p2 : (di == 1) = true := by rw [hd1]; rfl
            have p3 : ((dk : Int) == 1) = false := by rw [hd2]; rfl
            have p4 : (dk == 1) = false := by rw [hd2]; rfl
            have HD := Lib.hid (And.intro hd1 hd2)
            clear hd1 hd2
            obtain ⟨u0, bX, oX, xr, q, xc, hu, -, hxe, -, -, hrow, hcx⟩ := HRW.out.1.hx.row (show i < xn by have := HLN.out; omega)
            subst hxe
            rw [List.getElem?_map, cm_get hlc] at hu
            have hu1 : u0 = colI (cmAt cols i) := (Option.some.inj hu).symm
            subst hu1
            have hql : (cmAt cols i).length = ln := by
              have := (HV.out.vc (cmAt cols i) (List.mem_of_getElem? (cm_get hlc))).1
              have := HLN.out; omega
            have hq : q = ln := by have := hrow.len; rw [colI, List.length_map] at this; omega
            subst hq
            have HQL := Lib.hid hql
            have cx3 := cell_later (HWV.out.trans (hz13.mono HWV.out.size)) hcx
            have hrow3 := hrow.below rInt_ok (HWV.out.trans (hz13.mono HWV.out.size))
            have HROW := Lib.hid hrow3
            have hixn : i < xn := by have := HLN.out; omega
            clear hu hql hrow hcx hrow3 hlc
            have HSZ : Hid ((Tryz.prog.info? 3).map (·.size) = some 1) := by
              obtain ⟨i1, ki, kz0, kz1, kz2⟩ := info_parts Tryz.infoInt
              show _ = _; rw [ki]; simp [kz1]
            have HCL : Hid ((colI (cmAt cols i)).length = q) := by show _ = _; rw [colI, List.length_map]; exact HQL.out
            gi_wp2_with (refine wpListIn_of (fun _ _ h => h) [_] _ _ (by kernel_rfl) ?_; refine wpList_copy_splice rfl (.tmp 87) (.tmp 91) 27 27 rfl 3 Tryz.underlying27 HSZ.out (some ⟨bc, 0, none⟩) xr n1 n1 q xc rfl rfl bc 0 (List.replicate n1 (Value.int .i64 (-1))) 3 F3 ((colI (cmAt cols i)).map (Value.int .i64)) (by rw [List.length_map, HCL.out]; exact (Nat.min_eq_left (by have := HN1.out; omega)).symm) (fun h0 => ⟨rfl, nums_src HROW.out (by simpa using h0)⟩) (by rw [List.length_map, List.length_replicate, HCL.out]; have := HN1.out; omega) (fun v hv => by obtain ⟨y, -, rfl⟩ := List.mem_map.1 hv; rfl) bc Z3 (Below.refl _ _) (Nat.le_refl _) ?_)
            intro Z4 hg4 hb4
            have F4 := hg4.out
            rw [splice_col HN1.out HCL.out] at F4
            have hz14 : Below Z.heap.size Z Z4 := hz13.trans (hb4.mono (Nat.le_of_lt HLO3.out))
            clear hg4 hb4 m0 m1 m2 m3 x0 x1 cx3 HROW hixn F3 hz13
            clear Z3
            obtain ⟨m0, m1, m2, m3, x0, x1⟩ := HZW.out Z4 hz14
            go_wp2_with fail
            have HLL : Hid (((colI (cmAt cols i))).length = q) := HCL.out
            clear HCL HQL HSZ
            have F5 := F4
            have hz15 := hz14
            have hzs : (Z4).heap.size = Z4.heap.size := rfl
            clear F4 hz14
            have HLCF : Hid (colI (ext q (if di = 1 then some (cmAt cols i) else none, if dk = 1 then some k else none)) = (colI (cmAt cols i)) ++ [(-1 : Int)]) := by show _ = _; rw [HLC.out, col_ext]; rfl
            have hal : Below (Z4).heap.size Z4 ((Z4).alloc (.cells #[.slice (some ⟨bc, 0, none⟩) n1 n1] 27)) := (Below.refl _ _).alloc (Nat.le_refl _) _
            have hz16 : Below Z.heap.size Z ((Z4).alloc (.cells #[.slice (some ⟨bc, 0, none⟩) n1 n1] 27)) := hz15.trans (hal.mono hz15.size)
            have h4s : bo + 1 ≤ Z.heap.size := by have h1 := HK.out.2.2.2.2.2.2.2; have h2 := hbut.out.size; have h3 := HWV.out.size; omega
            have hout5 := hout.out.below HWV.out
            have c11 := (one_box ((hz15.block bo (by omega)).trans hout5.box)).1
            have hcol : OwnQ 3 1 encI ((Z4).alloc (.cells #[.slice (some ⟨bc, 0, none⟩) n1 n1] 27)) (bo + 1) (some ⟨bc, 0, none⟩) n1 n1 ((colI (cmAt cols i)) ++ [(-1 : Int)]) := ownq_of ((hal.block bc (Array.getElem?_eq_some_iff.1 F5).1).trans F5) (by have := HLO3.out; omega) (by have h1 := HLL.out; have h2 := HN1.out; rw [List.length_append, h1]; exact h2) (by omega)
            have HO6 := Lib.hid (hout5.own.below hz16)
            have hbox6 := (hout5.below hz16).box
            have HV6 : Hid (∀ j u, ([((some ⟨bc, 0, none⟩, n1, n1) : Row)].flatMap encR)[j]? = some u → (((Z4).alloc (.cells #[.slice (some ⟨bc, 0, none⟩) n1 n1] 27))).cell? ((⟨Z4.heap.size, 0, none⟩ : Addr).add j) = some u) := fun j u hj => by
              rw [← hzs]; exact lit_cells (by exact hj)
            have HH := Lib.hid (And.intro hout5 (And.intro hz16 hcol))
            have hB9 : bo + 1 ≤ (((Z4).alloc (.cells #[.slice (some ⟨bc, 0, none⟩) n1 n1] 27))).heap.size := Nat.le_trans h4s hz16.size
            have HB6 := Lib.hid hbox6
            have hon2 : on ≤ 80 := by omega
            clear hal hz16 hout5 hcol hbox6 hz15 F5
            gi_wp2_with (gi_at_builtin; refine wpListIn_appQ (w0 := ((Z4).alloc (.cells #[.slice (some ⟨bc, 0, none⟩) n1 n1] 27))) (l := ps.map (·.1)) (ys := [((some ⟨bc, 0, none⟩, n1, n1) : Row)]) Tryz.infoInts Tryz.underlying31 rfl (by omega) (fun _ => rfl) (fun r v h => by rw [List.mem_singleton.1 h]; rfl) rfl _ _ rfl rfl rfl HO6.out rfl HV6.out (by unfold maxLen; omega) (by omega) hB9 (Below.refl _ _) ?_; intro a5 c5 Z7 ho5 hb7 hg5 hz5; have c77 := (one_box ((hb7.block bo (Nat.lt_succ_self _)).trans HB6.out)).1; have f77 := (one_box ((hb7.block bo (Nat.lt_succ_self _)).trans HB6.out)).2)
            obtain ⟨hout5, hz16, hcol⟩ := HH.out
            obtain ⟨h8, hav⟩ := hout5.app (Nat.lt_succ_self _) h4s hz16 (Nat.le_of_lt HLO3.out) hcol ho5 hg5 hz5
            have hF : ∀ (b : Nat) (o : Obj), b < Z.heap.size → b ≠ bo → (∀ x, oa = some x → x.block ≠ b) → Z.heap[b]? = some o → (Z7.setCell ⟨bo, 0, none⟩ (.slice a5 (on + 1) c5)).heap[b]? = some o := fun b o h1 h2 h3 h =>
              (heap_setCell_other h2 _).trans ((hg5.block b (by have := hz16.size; omega) (own_ne h3)).trans ((hz16.block b h1).trans h))
            have hZi := (HWV.out.block bi (Array.getElem?_eq_some_iff.1 hei.out).1).trans hei.out
            have hZk := (HWV.out.block bk (Array.getElem?_eq_some_iff.1 hek.out).1).trans hek.out
            have g0 := hF bi _ (Array.getElem?_eq_some_iff.1 hZi).1 (by omega) havd.out.1.1 hZi
            have g1 := hF bk _ (Array.getElem?_eq_some_iff.1 hZk).1 (by omega) havd.out.2.1 hZk
            have gb := hF bs _ (Array.getElem?_eq_some_iff.1 HBS.out).1 (fun e => by have := hout5.box; rw [← e, HBS.out] at this; cases this) (fun x hx e => by obtain ⟨cur, hcur⟩ := hout5.own.ty hx; rw [e, HBS.out] at hcur; cases hcur) HBS.out
            have hko : KeepsOthers Z (Z7.setCell ⟨bo, 0, none⟩ (.slice a5 (on + 1) c5)) := ((ko_below hz16).trans (KeepsOthers.of_grownBy hg5 (fun j o hj hoj => by obtain ⟨x, hx, e⟩ := own_eq hj; rw [← e] at hoj; exact HO6.out.isC hx hoj))).trans (KeepsOthers.setCell _ _ _)
            have h4w := HK.out.2.2.2.2.2.2.2
            have hbt : But (fun b => b = bo) w4 (Z7.setCell ⟨bo, 0, none⟩ (.slice a5 (on + 1) c5)) := (((hbut.out.trans (But.below HWV.out)).trans (But.below hz16)).grown hg5 (fun r e => by obtain ⟨x, hx, e⟩ := own_eq e; have := (hout5.own.lt x hx).1; omega)).setc _ (fun _ => rfl)
            have hav2 := hav bi (Array.getElem?_eq_some_iff.1 hZi).1 havd.out.1
            have hav3 := hav bk (Array.getElem?_eq_some_iff.1 hZk).1 havd.out.2
            clear hout5 hz16 hcol hF hZi hZk HH HO6 HV6 HB6 hB9 ho5 hb7 hg5 hz5 c77 f77 c11 hav hzs m0 m1 m2 m3 x0 x1
            generalize Z7.setCell ⟨bo, 0, none⟩ (.slice a5 (on + 1) c5) = Z8 at *
            generalize Z4.heap.size = z4 at *
            generalize ((colI (cmAt cols i)) ++ [(-1 : Int)]) = LCC at *
            clear Z7
            try clear cput fput
            clear Z4
            have m0 := (one_box g0).1
            have m1 := (one_box g1).1
            obtain ⟨x0, x1, -⟩ := box3s gb
            have HO8 := Lib.hid (And.intro h8 (And.intro hko (And.intro hbt (And.intro hav2 hav3))))
            have HG8 := Lib.hid (And.intro g0 g1)
            have hbsi : bs ≠ bi := fun e => by rw [e, g0] at gb; cases gb
            clear h8 hko hbt hav2 hav3 g0 g1 gb
            obtain ⟨X, Wf, hX, hS1, hS2⟩ := family (fun V : World => V.cell? ⟨bk, 0, none⟩ = some (.int .i64 (k : Int)) ∧ V.cell? ⟨bs, 0, none⟩ = some (.int .i64 (di : Int)) ∧ V.cell? ⟨bs, 1, none⟩ = some (.int .i64 (dk : Int))) Z8.drew ⟨m1, x0, x1⟩
            have HS2 := Lib.hid hS2
            have q_m1 := fun x => (hS1 x).1
            have q_x0 := fun x => (hS1 x).2.1
            have q_x1 := fun x => (hS1 x).2.2
            clear hS1 hS2
            have hd0 : Below Z8.heap.size Z8 Z8.drew := (Below.refl _ _).drew
            have hS0 := HS2.out Z8.drew ⟨m1, x0, x1⟩
            refine wpIn_region_round (by kernel_rfl) (by kernel_rfl) (fun _ _ h => h) (wpAny_tree (Wf := Wf) 9 (.read 4 (.read 5 (.read 6 (.read 7 (.read 1 (.read 2 (.act 0 (.read 3 (.act 8 .fin))))))))) (by kernel_rfl) (fun _ _ d _ _ h => by cases d <;> exact h) hS0 ?_)
            refine wpTree_read _ rfl (fun K hK => ?_); unfold rOp; go_simp; (refine hK _ ?_; clear hK K)
            refine wpTree_read _ rfl (fun K hK => ?_); unfold rOp; go_simp; (refine hK _ ?_; clear hK K)
            refine wpTree_read _ rfl (fun K hK => ?_); unfold rOp; go_simp; (refine hK _ ?_; clear hK K)
            refine wpTree_read _ rfl (fun K hK => ?_); unfold rOp; go_simp; (refine hK _ ?_; clear hK K)
            refine wpTree_read _ rfl (fun K hK => ?_); unfold rOp; go_simp; (refine hK _ ?_; clear hK K)
            refine wpTree_read _ rfl (fun K hK => ?_); unfold rOp; go_simp; (refine hK _ ?_; clear hK K)
            refine wpTree_act _ rfl ?_
            have m0' : Z8.drew.cell? ⟨bi, 0, none⟩ = some (.int .i64 (i : Int)) := m0
            go_wp2_with fail
            refine ⟨hS0, ?_⟩
            refine wpTree_read _ rfl (fun K hK => ?_); unfold rOp; go_simp; (refine hK _ ?_; clear hK K)
            clear m0'
            have h8 := HO8.out.1.below hd0
            have hko : KeepsOthers Z Z8.drew := HO8.out.2.1.trans (ko_below hd0)
            have hbt := HO8.out.2.2.1.trans (But.below hd0)
            have g0 := (hd0.block _ (Array.getElem?_eq_some_iff.1 HG8.out.1).1).trans HG8.out.1
            have g1 := (hd0.block _ (Array.getElem?_eq_some_iff.1 HG8.out.2).1).trans HG8.out.2
            have y0 : Z8.drew.cell? ⟨bk, 0, none⟩ = some (.int .i64 (k : Int)) := m1
            have y1 : Z8.drew.cell? ⟨bs, 0, none⟩ = some (.int .i64 (di : Int)) := x0
            have y2 : Z8.drew.cell? ⟨bs, 1, none⟩ = some (.int .i64 (dk : Int)) := x1
            clear hd0 m0 m1 x0 x1 hS0
            generalize Z8.drew = Z9 at *
            have c90 := (one_box g0).1
            have f90 := (one_box g0).2
            have g1' := (heap_setCell_other (j := 0) (v := .int .i64 (I2 : Int)) (Ne.symm hik) ).trans g1
            have c91 := (one_box g1').1
            have f91 := (one_box g1').2
            have e0 : ((Z9.setCell ⟨bi, 0, none⟩ (.int .i64 (I2 : Int))).setCell ⟨bk, 0, none⟩ (.int .i64 (K2 : Int))).heap[bi]? = some (.cells #[.int .i64 ((i + di : Nat) : Int)] 3 (0, 0)) := by
              rw [← HEQ.out.1]; exact (heap_setCell_other hik _).trans (one_set g0 _)
            have e1' : ((Z9.setCell ⟨bi, 0, none⟩ (.int .i64 (I2 : Int))).setCell ⟨bk, 0, none⟩ (.int .i64 (K2 : Int))).heap[bk]? = some (.cells #[.int .i64 ((k + dk : Nat) : Int)] 3 (0, 0)) := by
              rw [← HEQ.out.2]; exact one_set g1' _
            have hob : bi ≠ bo ∧ bk ≠ bo := by omega
            have h9 := (h8.set hob.1 HO8.out.2.2.2.1 (j := 0) (.int .i64 (I2 : Int))).set hob.2 HO8.out.2.2.2.2 (j := 0) (.int .i64 (K2 : Int))
            have hk9 := (hko.trans (KeepsOthers.setCell Z9 ⟨bi, 0, none⟩ (.int .i64 (I2 : Int)))).trans (KeepsOthers.setCell (Z9.setCell ⟨bi, 0, none⟩ (.int .i64 (I2 : Int))) ⟨bk, 0, none⟩ (.int .i64 (K2 : Int)))
            have hb9 := (hbt.setc (b := bi) (j := 0) (.int .i64 (I2 : Int)) (fun h => by omega)).setc (b := bk) (j := 0) (.int .i64 (K2 : Int)) (fun h => by omega)
            have HEND := Lib.hid (And.intro e0 (And.intro e1' (And.intro h9 (And.intro hk9 hb9))))
            have hS9 := HS2.out (Z9.setCell ⟨bi, 0, none⟩ (.int .i64 (I2 : Int))) ⟨c91, cell?_setc_other (j' := 0) hbsi y1, cell?_setc_other (j' := 1) hbsi y2⟩
            clear e0 e1' h9 hk9 hb9 h8 hko hbt g0 g1 g1' y0 y1 y2
            refine wpTree_act _ rfl ?_
            go_wp2_with fail
            refine ⟨hS9, ?_⟩
            refine wpTree_fin ?_
            clear hS9 q_m1 q_x0 q_x1 HS2 hX
            clear X Wf
            go_wp2_with fail
            gi_wp2_with (fail)
            obtain ⟨z0, z1', z2, z3, z4'⟩ := HEND.out
            refine ⟨z3.from _, pre, ⟨(di, dk, cst), hx⟩, a5, c5, bc, rfl, HNO.out, HMY.out, rfl, z0, z1', ?_, z4', (keepsFrom_below HBV.out).trans (z3.from _)⟩
            dsimp only
            rw [HLCF.out, ← HN1.out]
            exact z2
          · have HLC : Hid (ext ln (if di = 1 then some (cmAt cols i) else none, if dk = 1 then some k else none) = ext ln (none, some k)) := by show _ = _; rw [if_neg (by omega), if_pos hd2]
            have p1 : ((di : Int) == 1) = false := by rw [hd1]; rfl
            have p2 : (di == 1) = false := by rw [hd1]; rfl
            have p3 : ((dk : Int) == 1) = true := by rw [hd2]; rfl
            have p4 : (dk == 1) = true := by rw [hd2]; rfl
            have HD := Lib.hid (And.intro hd1 hd2)
            clear hd1 hd2 hlt
            have F4 : Z3.heap[bc]? = some (.cells (((List.replicate ln (-1 : Int)) ++ [(-1 : Int)]).map (Value.int .i64)).toArray 3 (0, 0)) := by
              rw [F3, HN1.out]
              congr 2
              rw [List.replicate_succ', List.map_append, List.map_replicate]; rfl
            have HLL : Hid (((List.replicate ln (-1 : Int))).length = ln) := List.length_replicate
            have hz14 := hz13
            clear F3 hz13
            generalize Z3 = Z4 at *
            have hq1 : ln < n1 := by have := HN1.out; omega
            have cput : Z4.cell? ⟨bc, ln, none⟩ = some (.int .i64 (-1)) := by
              rw [cell_row F4, List.getElem?_toArray, List.getElem?_map, List.getElem?_append_right (by rw [HLL.out]; exact Nat.le_refl _), HLL.out, Nat.sub_self]; rfl
            have fput : Z4.frozen? ⟨bc, ln, none⟩ = false := by simp [World.frozen?, F4]
            have F5 : ((Z4.setCell ⟨bc, ln, none⟩ (.int .i64 (k : Int)))).heap[bc]? = some (.cells ((((List.replicate ln (-1 : Int)) ++ [(k : Int)])).map (Value.int .i64)).toArray 3 (0, 0)) := by
              rw [heap_setCell_self F4, set_last_map (-1) (k : Int) HLL.out]
            have hz15 : Below Z.heap.size Z (Z4.setCell ⟨bc, ln, none⟩ (.int .i64 (k : Int))) := below_setc hz14 (Nat.le_of_lt HLO3.out) ln _
            have hzs : ((Z4.setCell ⟨bc, ln, none⟩ (.int .i64 (k : Int)))).heap.size = Z4.heap.size := by simp [World.setCell]
            clear F4 hz14
            have HLCF : Hid (colI (ext ln (if di = 1 then some (cmAt cols i) else none, if dk = 1 then some k else none)) = (List.replicate ln (-1 : Int)) ++ [(k : Int)]) := by
              show _ = _
              rw [HLC.out, col_ext]
              unfold colI
              rw [Option.getD_none, List.map_replicate]; rfl
            have hal : Below ((Z4.setCell ⟨bc, ln, none⟩ (.int .i64 (k : Int)))).heap.size (Z4.setCell ⟨bc, ln, none⟩ (.int .i64 (k : Int))) (((Z4.setCell ⟨bc, ln, none⟩ (.int .i64 (k : Int)))).alloc (.cells #[.slice (some ⟨bc, 0, none⟩) n1 n1] 27)) := (Below.refl _ _).alloc (Nat.le_refl _) _
            have hz16 : Below Z.heap.size Z (((Z4.setCell ⟨bc, ln, none⟩ (.int .i64 (k : Int)))).alloc (.cells #[.slice (some ⟨bc, 0, none⟩) n1 n1] 27)) := hz15.trans (hal.mono hz15.size)
            have h4s : bo + 1 ≤ Z.heap.size := by have h1 := HK.out.2.2.2.2.2.2.2; have h2 := hbut.out.size; have h3 := HWV.out.size; omega
            have hout5 := hout.out.below HWV.out
            have c11 := (one_box ((hz15.block bo (by omega)).trans hout5.box)).1
            have hcol : OwnQ 3 1 encI (((Z4.setCell ⟨bc, ln, none⟩ (.int .i64 (k : Int)))).alloc (.cells #[.slice (some ⟨bc, 0, none⟩) n1 n1] 27)) (bo + 1) (some ⟨bc, 0, none⟩) n1 n1 ((List.replicate ln (-1 : Int)) ++ [(k : Int)]) := ownq_of ((hal.block bc (Array.getElem?_eq_some_iff.1 F5).1).trans F5) (by have := HLO3.out; omega) (by have h1 := HLL.out; have h2 := HN1.out; rw [List.length_append, h1]; exact h2) (by omega)
            have HO6 := Lib.hid (hout5.own.below hz16)
            have hbox6 := (hout5.below hz16).box
            have HV6 : Hid (∀ j u, ([((some ⟨bc, 0, none⟩, n1, n1) : Row)].flatMap encR)[j]? = some u → ((((Z4.setCell ⟨bc, ln, none⟩ (.int .i64 (k : Int)))).alloc (.cells #[.slice (some ⟨bc, 0, none⟩) n1 n1] 27))).cell? ((⟨Z4.heap.size, 0, none⟩ : Addr).add j) = some u) := fun j u hj => by
              rw [← hzs]; exact lit_cells (by exact hj)
            have HH := Lib.hid (And.intro hout5 (And.intro hz16 hcol))
            have hB9 : bo + 1 ≤ ((((Z4.setCell ⟨bc, ln, none⟩ (.int .i64 (k : Int)))).alloc (.cells #[.slice (some ⟨bc, 0, none⟩) n1 n1] 27))).heap.size := Nat.le_trans h4s hz16.size
            have HB6 := Lib.hid hbox6
            have hon2 : on ≤ 80 := by omega
            clear hal hz16 hout5 hcol hbox6 hz15 F5
            gi_wp2_with (gi_at_builtin; refine wpListIn_appQ (w0 := (((Z4.setCell ⟨bc, ln, none⟩ (.int .i64 (k : Int)))).alloc (.cells #[.slice (some ⟨bc, 0, none⟩) n1 n1] 27))) (l := ps.map (·.1)) (ys := [((some ⟨bc, 0, none⟩, n1, n1) : Row)]) Tryz.infoInts Tryz.underlying31 rfl (by omega) (fun _ => rfl) (fun r v h => by rw [List.mem_singleton.1 h]; rfl) rfl _ _ rfl rfl rfl HO6.out rfl HV6.out (by unfold maxLen; omega) (by omega) hB9 (Below.refl _ _) ?_; intro a5 c5 Z7 ho5 hb7 hg5 hz5; have c77 := (one_box ((hb7.block bo (Nat.lt_succ_self _)).trans HB6.out)).1; have f77 := (one_box ((hb7.block bo (Nat.lt_succ_self _)).trans HB6.out)).2)
            obtain ⟨hout5, hz16, hcol⟩ := HH.out
            obtain ⟨h8, hav⟩ := hout5.app (Nat.lt_succ_self _) h4s hz16 (Nat.le_of_lt HLO3.out) hcol ho5 hg5 hz5
            have hF : ∀ (b : Nat) (o : Obj), b < Z.heap.size → b ≠ bo → (∀ x, oa = some x → x.block ≠ b) → Z.heap[b]? = some o → (Z7.setCell ⟨bo, 0, none⟩ (.slice a5 (on + 1) c5)).heap[b]? = some o := fun b o h1 h2 h3 h =>
              (heap_setCell_other h2 _).trans ((hg5.block b (by have := hz16.size; omega) (own_ne h3)).trans ((hz16.block b h1).trans h))
            have hZi := (HWV.out.block bi (Array.getElem?_eq_some_iff.1 hei.out).1).trans hei.out
            have hZk := (HWV.out.block bk (Array.getElem?_eq_some_iff.1 hek.out).1).trans hek.out
            have g0 := hF bi _ (Array.getElem?_eq_some_iff.1 hZi).1 (by omega) havd.out.1.1 hZi
            have g1 := hF bk _ (Array.getElem?_eq_some_iff.1 hZk).1 (by omega) havd.out.2.1 hZk
            have gb := hF bs _ (Array.getElem?_eq_some_iff.1 HBS.out).1 (fun e => by have := hout5.box; rw [← e, HBS.out] at this; cases this) (fun x hx e => by obtain ⟨cur, hcur⟩ := hout5.own.ty hx; rw [e, HBS.out] at hcur; cases hcur) HBS.out
            have hko : KeepsOthers Z (Z7.setCell ⟨bo, 0, none⟩ (.slice a5 (on + 1) c5)) := ((ko_below hz16).trans (KeepsOthers.of_grownBy hg5 (fun j o hj hoj => by obtain ⟨x, hx, e⟩ := own_eq hj; rw [← e] at hoj; exact HO6.out.isC hx hoj))).trans (KeepsOthers.setCell _ _ _)
            have h4w := HK.out.2.2.2.2.2.2.2
            have hbt : But (fun b => b = bo) w4 (Z7.setCell ⟨bo, 0, none⟩ (.slice a5 (on + 1) c5)) := (((hbut.out.trans (But.below HWV.out)).trans (But.below hz16)).grown hg5 (fun r e => by obtain ⟨x, hx, e⟩ := own_eq e; have := (hout5.own.lt x hx).1; omega)).setc _ (fun _ => rfl)
            have hav2 := hav bi (Array.getElem?_eq_some_iff.1 hZi).1 havd.out.1
            have hav3 := hav bk (Array.getElem?_eq_some_iff.1 hZk).1 havd.out.2
            clear hout5 hz16 hcol hF hZi hZk HH HO6 HV6 HB6 hB9 ho5 hb7 hg5 hz5 c77 f77 c11 hav hzs m0 m1 m2 m3 x0 x1
            generalize Z7.setCell ⟨bo, 0, none⟩ (.slice a5 (on + 1) c5) = Z8 at *
            generalize Z4.heap.size = z4 at *
            generalize ((List.replicate ln (-1 : Int)) ++ [(k : Int)]) = LCC at *
            clear Z7
            try clear cput fput
            clear Z4
            have m0 := (one_box g0).1
            have m1 := (one_box g1).1
            obtain ⟨x0, x1, -⟩ := box3s gb
            have HO8 := Lib.hid (And.intro h8 (And.intro hko (And.intro hbt (And.intro hav2 hav3))))
            have HG8 := Lib.hid (And.intro g0 g1)
            have hbsi : bs ≠ bi := fun e => by rw [e, g0] at gb; cases gb
            clear h8 hko hbt hav2 hav3 g0 g1 gb
            obtain ⟨X, Wf, hX, hS1, hS2⟩ := family (fun V : World => V.cell? ⟨bk, 0, none⟩ = some (.int .i64 (k : Int)) ∧ V.cell? ⟨bs, 0, none⟩ = some (.int .i64 (di : Int)) ∧ V.cell? ⟨bs, 1, none⟩ = some (.int .i64 (dk : Int))) Z8.drew ⟨m1, x0, x1⟩
            have HS2 := Lib.hid hS2
            have q_m1 := fun x => (hS1 x).1
            have q_x0 := fun x => (hS1 x).2.1
            have q_x1 := fun x => (hS1 x).2.2
            clear hS1 hS2
            have hd0 : Below Z8.heap.size Z8 Z8.drew := (Below.refl _ _).drew
            have hS0 := HS2.out Z8.drew ⟨m1, x0, x1⟩
            refine wpIn_region_round (by kernel_rfl) (by kernel_rfl) (fun _ _ h => h) (wpAny_tree (Wf := Wf) 9 (.read 4 (.read 5 (.read 6 (.read 7 (.read 1 (.read 2 (.act 0 (.read 3 (.act 8 .fin))))))))) (by kernel_rfl) (fun _ _ d _ _ h => by cases d <;> exact h) hS0 ?_)
            refine wpTree_read _ rfl (fun K hK => ?_); unfold rOp; go_simp; (refine hK _ ?_; clear hK K)
            refine wpTree_read _ rfl (fun K hK => ?_); unfold rOp; go_simp; (refine hK _ ?_; clear hK K)
            refine wpTree_read _ rfl (fun K hK => ?_); unfold rOp; go_simp; (refine hK _ ?_; clear hK K)
            refine wpTree_read _ rfl (fun K hK => ?_); unfold rOp; go_simp; (refine hK _ ?_; clear hK K)
            refine wpTree_read _ rfl (fun K hK => ?_); unfold rOp; go_simp; (refine hK _ ?_; clear hK K)
            refine wpTree_read _ rfl (fun K hK => ?_); unfold rOp; go_simp; (refine hK _ ?_; clear hK K)
            refine wpTree_act _ rfl ?_
            have m0' : Z8.drew.cell? ⟨bi, 0, none⟩ = some (.int .i64 (i : Int)) := m0
            go_wp2_with fail
            refine ⟨hS0, ?_⟩
            refine wpTree_read _ rfl (fun K hK => ?_); unfold rOp; go_simp; (refine hK _ ?_; clear hK K)
            clear m0'
            have h8 := HO8.out.1.below hd0
            have hko : KeepsOthers Z Z8.drew := HO8.out.2.1.trans (ko_below hd0)
            have hbt := HO8.out.2.2.1.trans (But.below hd0)
            have g0 := (hd0.block _ (Array.getElem?_eq_some_iff.1 HG8.out.1).1).trans HG8.out.1
            have g1 := (hd0.block _ (Array.getElem?_eq_some_iff.1 HG8.out.2).1).trans HG8.out.2
            have y0 : Z8.drew.cell? ⟨bk, 0, none⟩ = some (.int .i64 (k : Int)) := m1
            have y1 : Z8.drew.cell? ⟨bs, 0, none⟩ = some (.int .i64 (di : Int)) := x0
            have y2 : Z8.drew.cell? ⟨bs, 1, none⟩ = some (.int .i64 (dk : Int)) := x1
            clear hd0 m0 m1 x0 x1 hS0
            generalize Z8.drew = Z9 at *
            have c90 := (one_box g0).1
            have f90 := (one_box g0).2
            have g1' := (heap_setCell_other (j := 0) (v := .int .i64 (I2 : Int)) (Ne.symm hik) ).trans g1
            have c91 := (one_box g1').1
            have f91 := (one_box g1').2
            have e0 : ((Z9.setCell ⟨bi, 0, none⟩ (.int .i64 (I2 : Int))).setCell ⟨bk, 0, none⟩ (.int .i64 (K2 : Int))).heap[bi]? = some (.cells #[.int .i64 ((i + di : Nat) : Int)] 3 (0, 0)) := by
              rw [← HEQ.out.1]; exact (heap_setCell_other hik _).trans (one_set g0 _)
            have e1' : ((Z9.setCell ⟨bi, 0, none⟩ (.int .i64 (I2 : Int))).setCell ⟨bk, 0, none⟩ (.int .i64 (K2 : Int))).heap[bk]? = some (.cells #[.int .i64 ((k + dk : Nat) : Int)] 3 (0, 0)) := by
              rw [← HEQ.out.2]; exact one_set g1' _
            have hob : bi ≠ bo ∧ bk ≠ bo := by omega
            have h9 := (h8.set hob.1 HO8.out.2.2.2.1 (j := 0) (.int .i64 (I2 : Int))).set hob.2 HO8.out.2.2.2.2 (j := 0) (.int .i64 (K2 : Int))
            have hk9 := (hko.trans (KeepsOthers.setCell Z9 ⟨bi, 0, none⟩ (.int .i64 (I2 : Int)))).trans (KeepsOthers.setCell (Z9.setCell ⟨bi, 0, none⟩ (.int .i64 (I2 : Int))) ⟨bk, 0, none⟩ (.int .i64 (K2 : Int)))
            have hb9 := (hbt.setc (b := bi) (j := 0) (.int .i64 (I2 : Int)) (fun h => by omega)).setc (b := bk) (j := 0) (.int .i64 (K2 : Int)) (fun h => by omega)
            have HEND := Lib.hid (And.intro e0 (And.intro e1' (And.intro h9 (And.intro hk9 hb9))))
            have hS9 := HS2.out (Z9.setCell ⟨bi, 0, none⟩ (.int .i64 (I2 : Int))) ⟨c91, cell?_setc_other (j' := 0) hbsi y1, cell?_setc_other (j' := 1) hbsi y2⟩
            clear e0 e1' h9 hk9 hb9 h8 hko hbt g0 g1 g1' y0 y1 y2
            refine wpTree_act _ rfl ?_
            go_wp2_with fail
            refine ⟨hS9, ?_⟩
            refine wpTree_fin ?_
            clear hS9 q_m1 q_x0 q_x1 HS2 hX
            clear X Wf
            go_wp2_with fail
            gi_wp2_with (fail)
            obtain ⟨z0, z1', z2, z3, z4'⟩ := HEND.out
            refine ⟨z3.from _, pre, ⟨(di, dk, cst), hx⟩, a5, c5, bc, rfl, HNO.out, HMY.out, rfl, z0, z1', ?_, z4', (keepsFrom_below HBV.out).trans (z3.from _)⟩
            dsimp only
            rw [HLCF.out, ← HN1.out]
            exact z2
        · have e1 : ((Zx : Int) != (t0 : Int)) = true := by simp; omega
          have e2 : (Zx != t0) = true := by simpa using hz
          have HMY := Lib.hid (fun h => hz (HMT.out.1 h))
          clear hz HMT
          gi_wp2_with (fail)
          obtain ⟨X, Wf, hX, hS1, hS2⟩ := family (fun V => Below Z.heap.size Z V) Z (Below.refl _ _)
          have HS2 := Lib.hid hS2
          have q_m0 := fun x => cell_later (hS1 x) m0
          have q_m1 := fun x => cell_later (hS1 x) m1
          have q_m4 := fun x => cell_later (hS1 x) m4
          have q_s7 := fun x => cell_later (hS1 x) s7
          have q_x0 := fun x => cell_later (hS1 x) x0
          have q_x1 := fun x => cell_later (hS1 x) x1
          have q_x2 := fun x => cell_later (hS1 x) x2
          have q_o1 := fun x => cell_later (hS1 x) o1
          have q_r1 := fun x => cell_later (hS1 x) r1
          have q_o2 := fun x => cell_later (hS1 x) o2
          have q_r2 := fun x => cell_later (hS1 x) r2
          clear hS1 hS2
          have hd0 : Below Z.heap.size Z Z.drew := (Below.refl _ _).drew
          refine wpIn_region_round (by kernel_rfl) (by kernel_rfl) (fun _ _ h => h) (wpAny_tree (Wf := Wf) 29 (.read 0 (.read 1 (.read 2 (.read 3 (.read 4 (.read 5 (.read 6 (.read 7 (.read 8 (.read 9 (.read 10 (.read 11 (.read 12 (.read 13 (.read 14 (.read 15 (.read 16 (.read 17 (.read 18 (.read 19 (.read 20 (.read 21 (.read 22 (.read 23 (.read 24 (.read 25 (.read 26 (.read 27 (.read 28 .fin))))))))))))))))))))))))))))) (by kernel_rfl) (fun _ _ d _ _ h => by cases d <;> exact h) (HS2.out _ hd0) ?_)
          refine wpTree_read _ rfl (fun K hK => ?_); unfold rOp; go_simp; (refine hK _ ?_; clear hK K)
          refine wpTree_read _ rfl (fun K hK => ?_); unfold rOp; go_simp; (refine hK _ ?_; clear hK K)
          refine wpTree_read _ rfl (fun K hK => ?_); unfold rOp; go_simp; (refine hK _ ?_; clear hK K)
          refine wpTree_read _ rfl (fun K hK => ?_); unfold rOp; go_simp; (refine hK _ ?_; clear hK K)
          refine wpTree_read _ rfl (fun K hK => ?_); unfold rOp; go_simp; (refine hK _ ?_; clear hK K)
          refine wpTree_read _ rfl (fun K hK => ?_); unfold rOp; go_simp; (refine hK _ ?_; clear hK K)
          refine wpTree_read _ rfl (fun K hK => ?_); unfold rOp; go_simp; (refine hK _ ?_; clear hK K)
          refine wpTree_read _ rfl (fun K hK => ?_); unfold rOp; go_simp; (refine hK _ ?_; clear hK K)
          refine wpTree_read _ rfl (fun K hK => ?_); unfold rOp; go_simp; (refine hK _ ?_; clear hK K)
          refine wpTree_read _ rfl (fun K hK => ?_); unfold rOp; go_simp; (refine hK _ ?_; clear hK K)
          refine wpTree_read _ rfl (fun K hK => ?_); unfold rOp; go_simp; (refine hK _ ?_; clear hK K)
          refine wpTree_read _ rfl (fun K hK => ?_); unfold rOp; go_simp; (refine hK _ ?_; clear hK K)
          refine wpTree_read _ rfl (fun K hK => ?_); unfold rOp; go_simp; (refine hK _ ?_; clear hK K)
          refine wpTree_read _ rfl (fun K hK => ?_); unfold rOp; go_simp; (refine hK _ ?_; clear hK K)
          refine wpTree_read _ rfl (fun K hK => ?_); unfold rOp; go_simp; (refine hK _ ?_; clear hK K)
          refine wpTree_read _ rfl (fun K hK => ?_); unfold rOp; go_simp; (refine hK _ ?_; clear hK K)
          refine wpTree_read _ rfl (fun K hK => ?_); unfold rOp; go_simp; (refine hK _ ?_; clear hK K)
          refine wpTree_read _ rfl (fun K hK => ?_); unfold rOp; go_simp; (refine hK _ ?_; clear hK K)
          refine wpTree_read _ rfl (fun K hK => ?_); unfold rOp; go_simp; (refine hK _ ?_; clear hK K)
          refine wpTree_read _ rfl (fun K hK => ?_); unfold rOp; go_simp; (refine hK _ ?_; clear hK K)
          refine wpTree_read _ rfl (fun K hK => ?_); unfold rOp; go_simp; (refine hK _ ?_; clear hK K)
          refine wpTree_read _ rfl (fun K hK => ?_); unfold rOp; go_simp; (refine hK _ ?_; clear hK K)
          refine wpTree_read _ rfl (fun K hK => ?_); unfold rOp; go_simp; (refine hK _ ?_; clear hK K)
          refine wpTree_read _ rfl (fun K hK => ?_); unfold rOp; go_simp; (refine hK _ ?_; clear hK K)
          refine wpTree_read _ rfl (fun K hK => ?_); unfold rOp; go_simp; (refine hK _ ?_; clear hK K)
          refine wpTree_read _ rfl (fun K hK => ?_); unfold rOp; go_simp; (refine hK _ ?_; clear hK K)
          refine wpTree_read _ rfl (fun K hK => ?_); unfold rOp; go_simp; (refine hK _ ?_; clear hK K)
          refine wpTree_read _ rfl (fun K hK => ?_); unfold rOp; go_simp; (refine hK _ ?_; clear hK K)
          refine wpTree_read _ rfl (fun K hK => ?_); unfold rOp; go_simp; (refine hK _ ?_; clear hK K)
          refine wpTree_fin ?_
          clear q_m0 q_m1 q_m4 q_s7 q_x0 q_x1 q_x2 q_o1 q_r1 q_o2 q_r2 HS2 hX
          clear X Wf
          replace m0 := cell_later hd0 m0
          replace m1 := cell_later hd0 m1
          replace m2 := cell_later hd0 m2
          replace m3 := cell_later hd0 m3
          replace x0 := cell_later hd0 x0
          replace x1 := cell_later hd0 x1
          have HV1 := Lib.hid hd0
          clear hd0 m4 s7 x2 o1 r1 o2 r2 y1 y2 y3 y4
          generalize Z.drew = Z1 at *
          go_wp2_with fail
          gi_wp2_with (fail)
          refine ⟨keepsFrom_below HV1.out, KeepS.below HV1.out, ?_, HBV.out.trans (HV1.out.mono HBV.out.size)⟩
          intro y hy
          rcases List.mem_append.1 hy with hy | hy
          · exact HNO.out y hy
          · rw [List.mem_singleton] at hy; subst hy; exact HMY.out
      case stop =>
        rintro D c'' pr V hD hpr ⟨pr', ⟨⟨di, dk, cst⟩, hx⟩, oa', oc', bc, rfl, q2, q3, rfl, q5, q6, q7, q8, q9⟩ hd
        have hpx : pr'.map (fun y => y.1) ++ [(di, dk, cst)] <+: stL ⟨cg, cn, cl, cm⟩ l t cols i k := by
          obtain ⟨r, hr⟩ := hpr
          refine ⟨r.map (fun y => y.1), ?_⟩
          have := congrArg (List.map (fun y : Stp (stL ⟨cg, cn, cl, cm⟩ l t cols i k) => y.1)) hr
          rw [show (stL ⟨cg, cn, cl, cm⟩ l t cols i k).attach.map (fun y => y.1) = stL ⟨cg, cn, cl, cm⟩ l t cols i k from List.attach_map_subtype_val _] at this
          simp only [List.map_append, List.map_cons, List.map_nil] at this
          exact this
        have hway := way_step hpx (fun y hy => by obtain ⟨z, hz, rfl⟩ := List.mem_map.1 hy; exact q2 z hz) q3
        have hmem := (stL_mem hx).1
        dsimp only at q5 q6 q7 hway hmem
        have hlen := HLN.out
        have hdd : i + di ≤ xn ∧ k + dk ≤ tn ∧ 1 ≤ di + dk := by omega
        have HPR : Hid (∃ pre : List (Cln Cm Nat), (ps ++ [((some ⟨bc, 0, none⟩, ln + 1, ln + 1), colI (ext ln (if di = 1 then some (cmAt cols i) else none, if dk = 1 then some k else none)))] : List (Row × List Int)).map (fun p => p.2) = (pre.map (ext ln)).map colI ∧ pre ++ wayB ⟨cg, cn, cl, cm⟩ l t cols (i + di) (k + dk) = wayB ⟨cg, cn, cl, cm⟩ l t cols 0 0) := by
          obtain ⟨pre, h1, h2⟩ := hpre.out
          refine ⟨pre ++ [(if di = 1 then some (cmAt cols i) else none, if dk = 1 then some k else none)], ?_, ?_⟩
          · rw [List.map_append, h1, List.map_append, List.map_append]; rfl
          · rw [← h2, hway, List.append_assoc]; rfl
        obtain ⟨I2, hI2⟩ : ∃ I2, I2 = i + di := ⟨_, rfl⟩
        obtain ⟨K2, hK2⟩ : ∃ K2, K2 = k + dk := ⟨_, rfl⟩
        rw [← hI2, ← hK2] at hdd HPR
        rw [← hI2] at q5
        rw [← hK2] at q6
        generalize colI (ext ln (if di = 1 then some (cmAt cols i) else none, if dk = 1 then some k else none)) = LC at *
        have cbi := (one_box q5).1
        have cbk := (one_box q6).1
        have hVs : bo + 1 ≤ V.heap.size := by have h1 := HK.out.2.2.2.2.2.2.2; have h2 := hbut.out.size; have h3 := HB5.out.size; have h4 := q9.size; omega
        have hbel : Below V.heap.size V ((V.alloc (.cells #[.int .i64 (I2 : Int)] 3)).alloc (.cells #[.int .i64 (K2 : Int)] 3)) := ((Below.refl _ _).alloc (Nat.le_refl _) _).alloc (by simp) _
        have n1 : ((V.alloc (.cells #[.int .i64 (I2 : Int)] 3)).alloc (.cells #[.int .i64 (K2 : Int)] 3)).heap[V.heap.size]? = some (.cells #[.int .i64 (I2 : Int)] 3 (0, 0)) := by
          rw [Below.heap_alloc _ _ _ (by simp)]; exact World.alloc_heap_new _ _
        have n2 : ((V.alloc (.cells #[.int .i64 (I2 : Int)] 3)).alloc (.cells #[.int .i64 (K2 : Int)] 3)).heap[V.heap.size + 1]? = some (.cells #[.int .i64 (K2 : Int)] 3 (0, 0)) := by
          have := World.alloc_heap_new (V.alloc (.cells #[.int .i64 (I2 : Int)] 3)) (.cells #[.int .i64 (K2 : Int)] 3)
          rwa [World.size_alloc] at this
        have n3 := q7.below hbel
        have n4 : But (fun b => b = bo) w4 ((V.alloc (.cells #[.int .i64 (I2 : Int)] 3)).alloc (.cells #[.int .i64 (K2 : Int)] 3)) := (q8.alloc _).alloc _
        have n5 : Marks (bo + 1) ({ target := .collected D, args := #[] } :: ds) ((V.alloc (.cells #[.int .i64 (I2 : Int)] 3)).alloc (.cells #[.int .i64 (K2 : Int)] 3)) := by
          refine Marks.cons (hM.out.keep (fun D' hD' h => ?_)) (by have h1 := HK.out.2.2.2.2.2.2.2; have h2 := hbut.out.size; have h3 := HB5.out.size; omega) ((hbel.block _ (Array.getElem?_eq_some_iff.1 hd).1).trans hd) (fun h => ?_)
          · have h5 := q9.same D' _ hD' ((HB5.out.block D' (Array.getElem?_eq_some_iff.1 h).1).trans h) rfl
            exact (hbel.block _ (Array.getElem?_eq_some_iff.1 h5).1).trans h5
          · have h1 := hM.out.lt D h
            have h2 := HB5.out.size
            omega
        have n6 : Avd oa' (ps ++ [((some ⟨bc, 0, none⟩, ln + 1, ln + 1), LC)]) V.heap.size ∧ Avd oa' (ps ++ [((some ⟨bc, 0, none⟩, ln + 1, ln + 1), LC)]) (V.heap.size + 1) := ⟨q7.fresh (Nat.le_refl _), q7.fresh (Nat.le_succ _)⟩
        have HNX := Lib.hid (And.intro n1 (And.intro n2 (And.intro n3 (And.intro n4 (And.intro n5 (And.intro n6 hVs))))))
        have HBD : Hid (I2 ≤ xn ∧ K2 ≤ tn ∧ on + 1 ≤ I2 + K2 ∧ i + k < I2 + K2) := ⟨hdd.1, hdd.2.1, by omega, by omega⟩
        clear n1 n2 n3 n4 n5 n6 hVs hbel hdd q2 q3 q5 q6 q7 q8 q9 hd hpr hpx hway hmem hlen hI2 hK2 hx
        dsimp only
        gi_wp2
        refine HHK.out _ _ (Handed.intro (xn + tn - (I2 + K2)) (by have h1 := HC.out; have h2 := HBD.out; omega) (HHJ.out _ _ _ (addI_mk V.heap.size (V.heap.size + 1) I2 K2 (on + 1) oc' oa' (ps ++ [((some ⟨bc, 0, none⟩, ln + 1, ln + 1), LC)]) ({ target := .collected D, args := #[] } :: ds) _ _ _ _ _ _ _ _ _ _ _ _ _ _ _ _ _ _ _ _ _ _ _ _ _ _ _ _ _ _ _ _ _ _
          ⟨by have h2 := HBD.out; omega, HBD.out.1, HBD.out.2.1, HNX.out.2.2.2.2.2.2, Nat.lt_succ_of_lt HNX.out.2.2.2.2.2.2, by omega, Lib.hid HNX.out.1, Lib.hid HNX.out.2.1, Lib.hid HNX.out.2.2.2.2.2.1, Lib.hid HNX.out.2.2.1, Lib.hid HNX.out.2.2.2.1, Lib.hid HNX.out.2.2.2.2.1, HBD.out.2.2.1, HPR⟩)))
    · have d1 : decide ((i : Int) < (xn : Int)) = false := decide_eq_false (by omega)
      have d2 : decide ((k : Int) < (tn : Int)) = false := decide_eq_false (by omega)
      have e1 : decide (i < xn) = false := decide_eq_false h1
      have e2 : decide (k < tn) = false := decide_eq_false h2
      have c11 := (one_box hout.out.box).1
      have hfin : ∃ pre : List (Cln Cm Nat), ps.map (·.2) = (pre.map (ext ln)).map colI ∧ pre = wayB ⟨cg, cn, cl, cm⟩ l t cols 0 0 := by
        obtain ⟨pre, g1, g2⟩ := hpre.out
        refine ⟨pre, g1, ?_⟩
        have hlen := HLN.out
        rw [← g2]
        unfold wayB
        rw [way_end _ _ _ (by omega) (by rw [List.length_range]; omega), List.append_nil]
      have HFN := Lib.hid hfin
      clear hfin h1 h2 s0 s1 s2 s3 s4 s5 s6 s7 m4
      have hbW : Below w.heap.size w W := HK.out.2.2.2.2.2.2.1.trans (hbut.out.toBelow HK.out.2.2.2.2.2.2.1.size (fun b e => by have e : b = bo := e; have := HLT.out; omega))
      have HBW := Lib.hid hbW
      clear hbW
      gi_wp2_with (fail)
      refine leaves_marks (hi := bo + 1) (by simp) (Φ := fun V => OutS V (bo + 1) bo oa on oc ps ∧ Below w.heap.size w V) ?_ ?_ ds _ hM.out ⟨hout.out, HBW.out⟩
      · rintro V D ⟨h1, h2⟩ hD hd
        exact ⟨h1.kept (n := bo + 1) (grownBy_putObj' V D _) (fun r e => by cases e; exact ⟨hD, _, hd, rfl⟩), below_putObj h2 (by have := HLT.out; omega) hd _⟩
      · rintro V ⟨h1, h2⟩
        obtain ⟨pre, g1, rfl⟩ := HFN.out
        have hlen := HLN.out
        refine ⟨_, results_tmp2 rfl _ _ _, oa, on, oc, rfl, ?_, h2⟩
        have hw := wayB_ok (c := ⟨cg, cn, cl, cm⟩) (l := l) (t := t) (cols := cols) (ln := ln) HV.out.vc (fun col hm x hx => numss_i64 HR.out.hx (colI col) (List.mem_map.2 ⟨col, hm, rfl⟩) x hx) hlen.2.2 (by omega)
        have hs := h1.rows.sq (R := rInt) (s := 8) (S := fun b => w.heap.size ≤ b) h1.own (fun _ => rfl) (by omega) (fun b hb _ => by have := HLT.out; omega) (fun x hx => by have h3 := (h1.own.lt x hx).1; have h4 := HLT.out; show w.heap.size ≤ x.block; omega) (fun p hp => by
          have hm : p.2 ∈ ((wayB ⟨cg, cn, cl, cm⟩ l t cols 0 0).map (ext ln)).map colI := by rw [← g1]; exact List.mem_map.2 ⟨p, hp, rfl⟩
          obtain ⟨z, hz, e⟩ := List.mem_map.1 hm
          obtain ⟨y, hy, rfl⟩ := List.mem_map.1 hz
          have hy2 := hw y hy
          rw [e] at hy2
          exact ⟨by omega, fun x hx => ⟨rfl, hy2.2 x hx⟩⟩)
        rw [g1, wayB_zero, hlen.2.2] at hs
        exact hs
end Go.Proofs.YtaelfjlmkgimhaaGreatDoor
