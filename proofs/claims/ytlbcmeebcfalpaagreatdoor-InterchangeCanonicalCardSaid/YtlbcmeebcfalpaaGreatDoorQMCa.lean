/-
  The given statement Rows.InterchangeCanonicalCardSaid: for every input the law apographlaw58.InterchangeCanonical returns true, and each argument reads afterwards as it read before, where the listed variables of the library read as the program lays them (the card ties them to its text). No other condition.
-/
import Derived.Test.YtlbcmeebcfalpaaGreatDoorQLc
import Derived.Test.YtlbcmeebcfalpaaGreatDoorP32
import Derived.Test.YtlbcmeebcfalpaaGreatDoorCards
import Derived.ProofKit
import Derived.OpenShut
import Derived.ShutString
import Derived.ChangeOld
import Derived.Lib.SmallJoins
import Derived.SevenTiedAt
set_option linter.unusedVariables false
set_option linter.unusedSimpArgs false
set_option maxRecDepth 100000
set_option maxHeartbeats 16000000
namespace Go.Proofs.YtlbcmeebcfalpaaGreatDoor.interchangeCanonical
open Go Go.ChangeShapes Go.WideShapes Go.ChangeAt Go.RowKit
open Go.ChangeMaps (open_string shut_string)

theorem own : ownKnob Tryz.prog.godebug = none := by kernel_rfl
theorem laidOut : laidOutB Tryz.prog = true := by kernel_rfl

theorem lifted (os : Os) (started : os.Started) (H : Type) (enc : TypeId × Value -> H) :
    ReturnsInHanded {} Tryz.checked os 4 .any (fun w args => (Rows.interchangeCanonicalSpec.pre enc Tryz.prog Tryz.f4 [] false w args /\ laidMetH Tryz.prog laid5 w) /\ sizedMet enc Tryz.prog Tryz.f4 (OpenSpec.ofChange Rows.interchangeCanonicalSpec) false w args)
      (Rows.interchangeCanonicalSpec.post enc Tryz.prog Tryz.f4 false true false false) := by
  refine returnsInHanded_of_change_and (C := Tryz.checked) (X := fun w _ => laidMetH Tryz.prog laid5 w) (fun _ _ _ hh h => h.of_heap hh) own started (by kernel_rfl) Tryz.func4
    (ChangeSpec.witness_shaped (enc := enc) (C := Tryz.checked) (os := os) (X := fun w _ => laidMetH Tryz.prog laid5 w) false (World.doorLaid Tryz.prog 62 os) #[.string ⟨#[]⟩] 8 rfl (World.shaped_of_RefB (by kernel_rfl) (by kernel_rfl)) (by kernel_rfl) (by kernel_rfl) (by kernel_rfl) (door_met os _)) ?_
  intro W base args ds gs before hval0 hW hcnd hsz hL _
  have hval : ∀ (j : Nat) t v, Tryz.f4.params[j]? = some t -> args[j]? = some v -> Value.okWide Tryz.prog W .any base t v := hval0
  have hW' := hW
  have hE := env_of_laid hL
  obtain ⟨p, q, hA0, hV, rfl, hfz, hnd⟩ := hW
  have hA : DataW.TrodAll enc Tryz.prog W 0 (fun _ => true) true Tryz.f4.params.toList args.toList ds p := hA0
  rw [Tryz.params4] at hA hval
  have hsz1 : ∀ (j : Nat) t d, Tryz.f4.params.toList[j]? = some t -> (ds ++ gs)[j]? = some d -> ∀ k ∈ DataW.weights Tryz.prog t d, k <= reachBytes := fun j t d ht hd k hk => by
    have := List.all_eq_true.1 hsz k (DataW.weights_mem_each (j := j) (t := t) (d := d) (by rw [List.getElem?_append_left (List.getElem?_eq_some_iff.1 ht).1]; exact ht) hd k hk)
    simpa using this
  rw [Tryz.params4] at hsz1
  obtain ⟨v0, vs0, d0, ds0, p0, q0, hargs, rfl, rfl, h0, r0⟩ := trodAll_cons hA
  obtain ⟨rfl, rfl, rfl⟩ := trodAll_nil r0
  obtain rfl : args = #[v0] := by cases args; simp_all
  obtain ⟨rfl, rfl⟩ := trodVars_none hV
  have k0 := h0
  have lt0 : ∀ x ∈ p0, x.block < W.heap.size := by obtain ⟨m, hm⟩ := k0; exact DataW.trod_lt m _ _ _ hm
  obtain ⟨s0, rfl, e0, f0⟩ : ∃ s : ByteArray, v0 = .string s /\ True /\ True := by
    obtain ⟨s, hs, _⟩ := open_string Tryz.underlying9 (hval 0 9 v0 rfl rfl) h0
    exact ⟨s, hs, trivial, trivial⟩
  clear hA0 hval0
  refine (canon_law s0 W  hE).mono fun e W' ⟨he, bel⟩ => ?_
  subst he
  exact ⟨_, rfl, _, _, _, [], _, [], hW', trodAll_mk1 (shut_bool Tryz.underlying4 _), (trodAll_cons_mk (Below.trod laidOut (by kernel_rfl) (of_decide_eq_true (by kernel_rfl)) k0 bel lt0) trodAll_mk0), rfl, bel.frame _, fun h => by cases h⟩

theorem closed : joinedFacts Tryz.pinned.checked.prog 4 Tryz.f4 Rows.interchangeCanonicalSpec Rows.interchangeCanonicalRow = true := by
  unfold joinedFacts
  repeat' (with_reducible refine Bool.and_eq_true_iff.2 ⟨?_, ?_⟩)
  all_goals as_aux_lemma => kernel_rfl
theorem over : Rows.interchangeCanonicalRow.holds Tryz.pinned (OpenSpec.ofChange Rows.interchangeCanonicalSpec) :=
  OpenClaim.holds_of_wide 4 Tryz.f4 rfl rfl rfl rfl rfl rfl rfl ⟨rfl, rfl, rfl, rfl, rfl⟩ rfl rfl rfl rfl rfl (by kernel_rfl) Tryz.func4 closed
    (of_decide_eq_true (by kernel_rfl)) (by unfold Func.isWrapper; first | (rw [if_pos (by decide +kernel)]; kernel_rfl) | (rw [if_neg (by decide +kernel)]; exact ⟨rfl, rfl⟩))
    (fun os started H enc _ => lifted os started H enc)

/-- THE STATEMENT -/
theorem proved : Rows.InterchangeCanonicalCardSaid :=
  Claim7.holds_tied_plain_at .later [] [.data, .data, .data, .sentinel, .sentinel] true (true, "7b4d5a8f0357ea0cf1958888bbfdce4cde39cc0854e728692acfbd85eba7a847") true
    over (fun _ h => by cases h) (by kernel_rfl) (fun _ h => by cases h) interchangeCanonical_row_tie rfl ⟨rfl, rfl⟩ (by kernel_rfl) rfl
    (fun f fn hf hfn => by
      obtain rfl : f = 4 := Option.some.inj ((show Tryz.prog.funcNamed "apograph/apographlaw58.InterchangeCanonical" = some 4 by kernel_rfl).symm.trans hf) |>.symm
      obtain rfl : fn = Tryz.f4 := (Option.some.inj (Tryz.func4.symm.trans hfn)).symm
      exact ⟨by kernel_rfl, fun j t ht => by
        rw [Tryz.params4] at ht
        match j, ht with
        | 0, ht =>
          obtain rfl : t = 9 := by simpa using ht.symm
          exact (show Tryz.prog.wantsStandIn 9 = false by kernel_rfl)
        | j + 1, ht => simp at ht⟩)
    (by kernel_rfl)
#print axioms proved
end Go.Proofs.YtlbcmeebcfalpaaGreatDoor.interchangeCanonical
