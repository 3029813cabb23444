/- Joined: IRw. -/
import Derived.Test.YtlbcmeebcfalpaaGreatDoorP10
import Derived.Test.YtlbcmeebcfalpaaGreatDoorP03
import Derived.Test.YtlbcmeebcfalpaaGreatDoorP01
import Derived.Test.YtlbcmeebcfalpaaGreatDoorTie
import Derived.ProofKit
import Derived.Deep.Slices
import Derived.Deep.Fields
import Derived.ChangeSame
import Derived.SizedLaws
import Derived.LaidMore
import Derived.Stop.Joined
set_option linter.unusedVariables false
set_option linter.unusedSimpArgs false
set_option maxRecDepth 100000
set_option maxHeartbeats 16000000
namespace Go.Proofs.YtlbcmeebcfalpaaGreatDoor
open Go.RowKit Go.ChangeShapes Go.WideShapes Go.Deep

theorem tyof_int : TyOf .int 3 := .int Tryz.underlying3
theorem tyof_bool : TyOf .bool 4 := .bool Tryz.underlying4
theorem tyof_text : TyOf .text 9 := .text Tryz.underlying9
theorem tyof_Node : TyOf nodeTy 64 := .struc Tryz.underlying64 (.cons (by kernel_rfl) tyof_int (.cons (by kernel_rfl) tyof_text (.cons (by kernel_rfl) tyof_int (.cons (by kernel_rfl) (.list Tryz.underlying62 (by kernel_rfl) (by kernel_rfl) (by decide) (.node rfl)) .nil)))) (by kernel_rfl)
theorem tyof_Expr : TyOf exprTy 113 := .struc Tryz.underlying113 (.cons (by kernel_rfl) tyof_int (.cons (by kernel_rfl) tyof_int (.cons (by kernel_rfl) tyof_text (.cons (by kernel_rfl) (.list Tryz.underlying111 (by kernel_rfl) (by kernel_rfl) (by decide) (.expr rfl)) .nil)))) (by kernel_rfl)
theorem tyof_Witness : TyOf tyWitness 66 := .struc Tryz.underlying66 (.cons (by kernel_rfl) tyof_text (.cons (by kernel_rfl) (.list Tryz.underlying62 (by kernel_rfl) (by kernel_rfl) (by decide) (.node rfl)) .nil)) (by kernel_rfl)
theorem tyof_Rewrite : TyOf tyRewrite 106 := .struc Tryz.underlying106 (.cons (by kernel_rfl) tyof_text (.cons (by kernel_rfl) tyof_text .nil)) (by kernel_rfl)
theorem tyof_Costs : TyOf tyCosts 30 := .struc Tryz.underlying30 (.cons (by kernel_rfl) tyof_int (.cons (by kernel_rfl) tyof_int (.cons (by kernel_rfl) tyof_int (.cons (by kernel_rfl) tyof_int .nil)))) (by kernel_rfl)
theorem tyof_Rule : TyOf tyRule 115 := .struc Tryz.underlying115 (.cons (by kernel_rfl) tyof_text (.cons (by kernel_rfl) (.expr rfl) .nil)) (by kernel_rfl)
theorem tyof_Group : TyOf tyGroup 120 := .struc Tryz.underlying120 (.cons (by kernel_rfl) tyof_text (.cons (by kernel_rfl) (.list Tryz.underlying118 (by kernel_rfl) (by kernel_rfl) (by decide) tyof_int) .nil)) (by kernel_rfl)
theorem tyof_Pattern : TyOf tyPattern 124 := .struc Tryz.underlying124 (.cons (by kernel_rfl) tyof_text (.cons (by kernel_rfl) (.list Tryz.underlying118 (by kernel_rfl) (by kernel_rfl) (by decide) tyof_int) .nil)) (by kernel_rfl)
theorem tyof_Op : TyOf tyOp 201 := .struc Tryz.underlying201 (.cons (by kernel_rfl) tyof_int (.cons (by kernel_rfl) tyof_text (.cons (by kernel_rfl) tyof_int (.cons (by kernel_rfl) tyof_int (.cons (by kernel_rfl) tyof_text .nil))))) (by kernel_rfl)
theorem tyof_Decision : TyOf tyDecision 207 := .struc Tryz.underlying207 (.cons (by kernel_rfl) tyof_int (.cons (by kernel_rfl) tyof_text (.cons (by kernel_rfl) tyof_int (.cons (by kernel_rfl) tyof_text .nil)))) (by kernel_rfl)
theorem tyof_Position : TyOf tyPosition 192 := .struc Tryz.underlying192 (.cons (by kernel_rfl) tyof_text (.cons (by kernel_rfl) tyof_int .nil)) (by kernel_rfl)
theorem tyof_Token : TyOf tyToken 194 := .struc Tryz.underlying194 (.cons (by kernel_rfl) tyof_text (.cons (by kernel_rfl) tyof_text (.cons (by kernel_rfl) tyof_Position (.cons (by kernel_rfl) tyof_int (.cons (by kernel_rfl) tyof_text .nil))))) (by kernel_rfl)
theorem tyof_Section : TyOf tySection 87 := .struc Tryz.underlying87 (.cons (by kernel_rfl) tyof_text (.cons (by kernel_rfl) (.list Tryz.underlying55 (by kernel_rfl) (by kernel_rfl) (by decide) tyof_Op) (.cons (by kernel_rfl) (.list Tryz.underlying35 (by kernel_rfl) (by kernel_rfl) (by decide) tyof_bool) (.cons (by kernel_rfl) (.list Tryz.underlying56 (by kernel_rfl) (by kernel_rfl) (by decide) tyof_Decision) (.cons (by kernel_rfl) tyof_text .nil))))) (by kernel_rfl)
theorem tyof_Style : TyOf tyStyle 38 := .struc Tryz.underlying38 (.cons (by kernel_rfl) tyof_int (.cons (by kernel_rfl) tyof_int (.cons (by kernel_rfl) tyof_int (.cons (by kernel_rfl) tyof_int (.cons (by kernel_rfl) tyof_int (.cons (by kernel_rfl) tyof_int (.cons (by kernel_rfl) tyof_int (.cons (by kernel_rfl) tyof_int (.cons (by kernel_rfl) tyof_int (.cons (by kernel_rfl) tyof_int (.cons (by kernel_rfl) tyof_int (.cons (by kernel_rfl) (.list Tryz.underlying35 (by kernel_rfl) (by kernel_rfl) (by decide) tyof_bool) (.cons (by kernel_rfl) (.list Tryz.underlying36 (by kernel_rfl) (by kernel_rfl) (by decide) tyof_text) .nil))))))))))))) (by kernel_rfl)
theorem tyof_Edition : TyOf tyEdition 40 := .struc Tryz.underlying40 (.cons (by kernel_rfl) tyof_text (.cons (by kernel_rfl) (.list Tryz.underlying27 (by kernel_rfl) (by kernel_rfl) (by decide) tyof_Witness) (.cons (by kernel_rfl) (.list Tryz.underlying28 (by kernel_rfl) (by kernel_rfl) (by decide) tyof_Rewrite) (.cons (by kernel_rfl) tyof_Costs (.cons (by kernel_rfl) (.list Tryz.underlying31 (by kernel_rfl) (by kernel_rfl) (by decide) tyof_Rule) (.cons (by kernel_rfl) (.list Tryz.underlying32 (by kernel_rfl) (by kernel_rfl) (by decide) tyof_Group) (.cons (by kernel_rfl) (.list Tryz.underlying33 (by kernel_rfl) (by kernel_rfl) (by decide) tyof_Pattern) (.cons (by kernel_rfl) tyof_int (.cons (by kernel_rfl) (.list Tryz.underlying34 (by kernel_rfl) (by kernel_rfl) (by decide) tyof_Section) (.cons (by kernel_rfl) tyof_Style .nil)))))))))) (by kernel_rfl)
theorem tyof_Input : TyOf tyInput 58 := .struc Tryz.underlying58 (.cons (by kernel_rfl) tyof_text (.cons (by kernel_rfl) (.list Tryz.underlying36 (by kernel_rfl) (by kernel_rfl) (by decide) tyof_text) (.cons (by kernel_rfl) (.list Tryz.underlying54 (by kernel_rfl) (by kernel_rfl) (by decide) (.list Tryz.underlying88 (by kernel_rfl) (by kernel_rfl) (by decide) tyof_Token)) (.cons (by kernel_rfl) tyof_Costs (.cons (by kernel_rfl) (.list Tryz.underlying31 (by kernel_rfl) (by kernel_rfl) (by decide) tyof_Rule) (.cons (by kernel_rfl) (.list Tryz.underlying32 (by kernel_rfl) (by kernel_rfl) (by decide) tyof_Group) (.cons (by kernel_rfl) (.list Tryz.underlying33 (by kernel_rfl) (by kernel_rfl) (by decide) tyof_Pattern) (.cons (by kernel_rfl) tyof_int (.cons (by kernel_rfl) (.list Tryz.underlying55 (by kernel_rfl) (by kernel_rfl) (by decide) tyof_Op) (.cons (by kernel_rfl) (.list Tryz.underlying35 (by kernel_rfl) (by kernel_rfl) (by decide) tyof_bool) (.cons (by kernel_rfl) (.list Tryz.underlying56 (by kernel_rfl) (by kernel_rfl) (by decide) tyof_Decision) (.cons (by kernel_rfl) tyof_text (.cons (by kernel_rfl) tyof_Style .nil))))))))))))) (by kernel_rfl)
section
variable {H : Type} {enc : TypeId × Value -> H} {w : World} {base : Nat} {held : Bool} {spare : Nat -> Bool}
end
/-- The library's variables, as every row of the seat lists them. -/
def laid5 : List (String × DataW Unit) := [("math/bits.deBruijn32tab", Rows.laid_math_bits_deBruijn32tab), ("math/bits.deBruijn64tab", Rows.laid_math_bits_deBruijn64tab), ("internal/strconv.uint64pow10", Rows.laid_internal_strconv_uint64pow10), ("strconv.ErrRange", Rows.laid_strconv_ErrRange), ("strconv.ErrSyntax", Rows.laid_strconv_ErrSyntax)]
theorem door_met (os : Os) (args : Array Value) : laidMetH Tryz.prog laid5 ((World.doorLaid Tryz.prog 62 os).forCall (fun _ _ => 0) ⟨#[], args, []⟩).memory :=
  laidMetH_of_parts3 (fuel := 8) (laidMet_of_run' 8 (by kernel_rfl) (by kernel_rfl)) (by kernel_rfl) (by kernel_rfl)
theorem pow10_data : (Rows.laid_internal_strconv_uint64pow10 : DataW Unit) = Lib.tabData .u64 Lib.pow10Tab := by rfl
theorem iface_of {P : Program} {W : World} {held : Bool} {fuel : Nat} {t : TypeId} {ms : Array (String × TypeId)} {cs : List Value} {nm : String} {d : DataW Unit} {p : List MemPlace} {enc : TypeId × Value -> Unit} (ht : P.underlying t = some (.interface ms))
    (h : DataW.trod enc P W 0 (fun _ => true) held fuel t cs = some (.iface nm d, p)) : ∃ u v, cs = [.iface u v] := by
  cases fuel with
  | zero => simp [DataW.trod] at h
  | succ fuel =>
    unfold DataW.trod at h
    rw [ht] at h
    split at h <;> simp_all
theorem env_of_laid {W : World} (h : laidMetH Tryz.prog laid5 W) : Env W := by
  rw [MakeChecks.laidMetH_plain _ _ _ (by kernel_rfl)] at h
  obtain ⟨ps, ⟨g0, t0, cs0, f0, p0, q0, -, -, -, -, ⟨g1, t1, cs1, f1, p1, q1, -, -, -, -, ⟨g2, t2, cs2, f2, p2, q2, hg2, ht2, hv2, hd2, ⟨g3, t3, cs3, f3, p3, q3, hg3, ht3, hv3, hd3, ⟨g4, t4, cs4, f4, p4, q4, hg4, ht4, hv4, hd4, -, -⟩, -⟩, -⟩, -⟩, -⟩, -⟩ := h
  obtain rfl := Option.some.inj ((show Tryz.prog.globalNamed "internal/strconv.uint64pow10" = some 3 by kernel_rfl).symm.trans hg2)
  obtain rfl := Option.some.inj ((show Tryz.prog.globalNamed "strconv.ErrRange" = some 2 by kernel_rfl).symm.trans hg3)
  obtain rfl := Option.some.inj ((show Tryz.prog.globalNamed "strconv.ErrSyntax" = some 1 by kernel_rfl).symm.trans hg4)
  obtain rfl := Option.some.inj ((show (Tryz.prog.globals[3]?).map (·.type) = some 341 by kernel_rfl).symm.trans ht2)
  obtain rfl := Option.some.inj ((show (Tryz.prog.globals[2]?).map (·.type) = some 267 by kernel_rfl).symm.trans ht3)
  obtain rfl := Option.some.inj ((show (Tryz.prog.globals[1]?).map (·.type) = some 267 by kernel_rfl).symm.trans ht4)
  obtain ⟨u3, v3, e3⟩ := iface_of Tryz.underlying267 hd3
  obtain ⟨u4, v4, e4⟩ := iface_of Tryz.underlying267 hd4
  refine ⟨?_, ⟨u4, v4, ?_⟩, ⟨u3, v3, ?_⟩⟩
  · rw [pow10_data] at hd2
    unfold Lib.TabIs
    rw [hv2, <- Lib.cells_of_tab Tryz.underlying341 Tryz.underlying327 (by kernel_rfl) (by kernel_rfl) hd2]
  · rw [hv4, Array.eq_one_of_toList e4]
  · rw [hv3, Array.eq_one_of_toList e3]
end Go.Proofs.YtlbcmeebcfalpaaGreatDoor
