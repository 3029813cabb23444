/-
  The given statement Rows.DagMoreSaid: for every input the law apographlaw05.DagMore returns true, and each argument reads afterwards as it read before. No condition.
-/
import Derived.Test.YtebmachppbpdmaaLawMor
import Derived.Test.YtebmachppbpdmaaDRow
import Derived.ProofKit
import Derived.OpenShut
import Derived.ShutString
import Derived.ChangeOld
import Derived.Lib.SmallJoins
import Derived.SizedLaws
namespace Go.Proofs.Ytebmachppbpdmaa.dagMore
open Go.ChangeShapes Go.WideShapes Go.ChangeAt Go.RowKit
open Go.ChangeMaps (open_string shut_string)
set_option linter.unusedVariables false

theorem own : ownKnob Try.prog.godebug = none := by kernel_rfl
theorem laidOut : laidOutB Try.prog = true := by kernel_rfl

theorem walk (a0 : Int) (a1 : Option Addr) (len1 cap1 : Nat) (z1 : List Lk) (a2 : Int) (a3 : Int) (x4 y4 z4 : Int) (w : World) (w0 : (Lit.int .i64 a0).wf = true) (w1 : LRow w a1 len1 cap1 z1) (s1 : len1 * 24 ≤ 140737488351232) (w2 : (Lit.int .u8 a2).wf = true) (w3 : (Lit.int .u8 a3).wf = true) (w4 : I64 x4 ∧ I64 y4 ∧ I64 z4) :
    Calls Try.prog 5 #[.int .i64 a0, .slice a1 len1 cap1, .int .u8 a2, .int .u8 a3, .agg #[.int .i64 x4, .int .i64 y4, .int .i64 z4]] w fun e w' => e = .returned (.bool true) ∧ Below w.heap.size w w' := by
  have hb2 : 0 ≤ a2 ∧ a2 ≤ 255 := by
    simp [Lit.wf, IntKind.min, IntKind.max, IntKind.signed, IntKind.bits] at w2
    exact ⟨by omega, by omega⟩
  have hb3 : 0 ≤ a3 ∧ a3 ≤ 255 := by
    simp [Lit.wf, IntKind.min, IntKind.max, IntKind.signed, IntKind.bits] at w3
    exact ⟨by omega, by omega⟩
  exact law_more a0 a1 len1 cap1 z1 a2 a3 x4 y4 z4 w w1.2.1 (w1.2.2 (by omega)) (by omega) hb2 hb3 w4

set_option maxRecDepth 100000 in
theorem lifted (os : Os) (started : os.Started) (H : Type) (enc : TypeId × Value → H) :
    ReturnsInHanded {} Try.checked os 5 .any (Rows.dagMoreSpec.pre6 enc Try.prog Try.f5 Rows.dagMoreRow.domain false) (Rows.dagMoreSpec.post enc Try.prog Try.f5 false true false false) := by
  refine returnsInHanded_of_change_sized (C := Try.checked) own started (by kernel_rfl) Try.func5
    (ChangeSpec.witness6 (enc := enc) (C := Try.checked) false ⟨#[], #[.int .i64 0, .slice none 0 0, .int .u8 0, .int .u8 0, .agg #[.int .i64 0, .int .i64 0, .int .i64 0]], []⟩ 8 (by kernel_rfl) (by kernel_rfl) (by kernel_rfl) (by kernel_rfl)) ?_
  intro W base args ds gs before hval0 hW hcnd hsized _
  have hval : ∀ (j : Nat) t v, Try.f5.params[j]? = some t → args[j]? = some v → Value.okWide Try.prog W .any base t v := hval0
  have hW' := hW
  obtain ⟨p, q, hA0, hV, rfl, hfz, hnd⟩ := hW
  have hA : DataW.TrodAll enc Try.prog W 0 (fun _ => true) true Try.f5.params.toList args.toList ds p := hA0
  rw [Try.params5] at hA hval
  obtain ⟨v0, vs0, d0, ds0, p0, q0, hargs, rfl, rfl, h0, r0⟩ := trodAll_cons hA
  obtain ⟨v1, vs1, d1, ds1, p1, q1, rfl, rfl, rfl, h1, r1⟩ := trodAll_cons r0
  obtain ⟨v2, vs2, d2, ds2, p2, q2, rfl, rfl, rfl, h2, r2⟩ := trodAll_cons r1
  obtain ⟨v3, vs3, d3, ds3, p3, q3, rfl, rfl, rfl, h3, r3⟩ := trodAll_cons r2
  obtain ⟨v4, vs4, d4, ds4, p4, q4, rfl, rfl, rfl, h4, r4⟩ := trodAll_cons r3
  obtain ⟨rfl, rfl, rfl⟩ := trodAll_nil r4
  obtain rfl : args = #[v0, v1, v2, v3, v4] := by cases args; simp_all
  obtain ⟨rfl, rfl⟩ := trodVars_none hV
  obtain ⟨a0, rfl, rfl, rfl, w0⟩ := open_int Try.underlying3 (hval 0 3 v0 rfl rfl) h0
  obtain ⟨a1, len1, cap1, rfl⟩ := okWide_slice Try.underlying22 (hval 1 22 v1 rfl rfl)
  have k1 := h1
  have lt1 : ∀ x ∈ p1, x.block < W.heap.size := by obtain ⟨m, hm⟩ := k1; exact DataW.trod_lt m _ _ _ hm
  obtain ⟨z1, w1⟩ : ∃ zs, LRow W a1 len1 cap1 zs := by
    obtain ⟨fuel, hf⟩ := h1
    exact open_links Try.underlying22 Try.underlying36 (by kernel_rfl) (by kernel_rfl) Try.underlying3 Try.underlying3 Try.underlying3 hf
  obtain ⟨a2, rfl, rfl, rfl, w2⟩ := open_int Try.underlying5 (hval 2 5 v2 rfl rfl) h2
  obtain ⟨a3, rfl, rfl, rfl, w3⟩ := open_int Try.underlying5 (hval 3 5 v3 rfl rfl) h3
  have k4 := h4
  have lt4 : ∀ x ∈ p4, x.block < W.heap.size := by obtain ⟨m, hm⟩ := k4; exact DataW.trod_lt m _ _ _ hm
  obtain ⟨x4, y4, z4, rfl, w4⟩ : ∃ x y z, v4 = .agg #[.int .i64 x, .int .i64 y, .int .i64 z] ∧ I64 x ∧ I64 y ∧ I64 z := by
    obtain ⟨cs, rfl, hsz⟩ := okWide_struct Try.underlying36 (hval 4 36 v4 rfl rfl)
    obtain ⟨fuel, hf⟩ := h4
    obtain ⟨l, hl, q⟩ := open_lk Try.underlying36 (by kernel_rfl) (by kernel_rfl) Try.underlying3 Try.underlying3 Try.underlying3 hf
    have hl' : cs.toList = _ := hl
    exact ⟨l.1, l.2.1, l.2.2, by obtain ⟨cs⟩ := cs; simp at hl'; rw [hl'], q⟩
  have s1 : len1 * 24 ≤ 140737488351232 := by
    obtain ⟨fuel, hf⟩ := h1
    rcases links_len Try.underlying22 hf with e | ⟨el, sp, he, hlen⟩
    · omega
    · have hz := sized_slice hsized (j := 1) (t := 22) (e := 36) (elems := el) (spare := sp) (by rw [Try.params5]; rfl) (by show some d1 = _; exact congrArg some he) Try.underlying22
      have hb : Try.checked.prog.bytesOf 36 = 24 := by kernel_rfl
      rw [hb, hlen] at hz
      have : reachBytes = 140737488351232 := by decide
      omega
  clear hA0 hval0
  refine (walk a0 a1 len1 cap1 z1 a2 a3 x4 y4 z4 W w0 w1 s1 w2 w3 w4).mono fun e W' ⟨he, bel⟩ => ?_
  subst he
  exact ⟨_, rfl, _, _, _, [], _, [], hW', trodAll_mk1 (shut_bool Try.underlying4 _), (trodAll_cons_mk (shut_int Try.underlying3 w0) (trodAll_cons_mk (Below.trod laidOut (by kernel_rfl) (of_decide_eq_true (by kernel_rfl)) k1 bel lt1) (trodAll_cons_mk (shut_int Try.underlying5 w2) (trodAll_cons_mk (shut_int Try.underlying5 w3) (trodAll_cons_mk (Below.trod laidOut (by kernel_rfl) (of_decide_eq_true (by kernel_rfl)) k4 bel lt4) trodAll_mk0))))), rfl, bel.frame _, fun h => by cases h⟩

theorem over : Rows.dagMoreRow.holds Try.pinned (OpenSpec.ofChange Rows.dagMoreSpec) :=
  OpenClaim.holds_of_wide 5 Try.f5 rfl rfl rfl rfl rfl rfl rfl ⟨rfl, rfl, rfl, rfl, rfl⟩ rfl rfl rfl rfl rfl (by kernel_rfl) Try.func5 (by kernel_rfl)
    (of_decide_eq_true (by kernel_rfl)) (by unfold Func.isWrapper; first | (rw [if_pos (by decide +kernel)]; kernel_rfl) | (rw [if_neg (by decide +kernel)]; exact ⟨rfl, rfl⟩))
    (fun os started H enc _ => lifted os started H enc)

/-- THE STATEMENT -/
theorem proved : Rows.DagMoreSaid := over
#print axioms proved
end Go.Proofs.Ytebmachppbpdmaa.dagMore
