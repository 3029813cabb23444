/- The laws of interchange: what their walks share; InterchangeParts. -/
import Derived.Test.YtlbcmeebcfalpaaGreatDoorP31
set_option linter.unusedVariables false
set_option linter.unusedSimpArgs false
set_option maxRecDepth 100000
set_option maxHeartbeats 16000000
namespace Go.Proofs.YtlbcmeebcfalpaaGreatDoor
open Go.RowKit

/-- A struct in a box of its own. -/
structure KeepO (w : World) (t : TypeId) (A : Array Value) (V : World) : Prop where
  below : Below w.heap.size w V
  fst : V.heap[w.heap.size]? = some (.cells A t (0, 0))
theorem keepO_new (w : World) (t : TypeId) (A : Array Value) : KeepO w t A (w.alloc (.cells A t)) := ⟨(Below.refl _ _).alloc (Nat.le_refl _) _, World.alloc_heap_new w (.cells A t)⟩
theorem KeepO.next {w V V' : World} {t : TypeId} {A : Array Value} (h : KeepO w t A V) (hb : Below V.heap.size V V') : KeepO w t A V' :=
  ⟨h.below.trans (hb.mono h.below.size), (hb.block _ (Array.getElem?_eq_some_iff.1 h.fst).1).trans h.fst⟩
theorem prtE_two (x : V) : prtE x = 0 \/ prtE x = 4 := by
  unfold prtE
  split
  · exact .inl rfl
  · exact .inr rfl
theorem prtE_zero {x : V} (h : prtE x = 0) : encE x = 0 := by
  unfold prtE at h
  split at h
  · assumption
  · cases h
theorem strs_eq {l m : List UInt8} : ((⟨l.toArray⟩ : ByteArray).toList == (⟨m.toArray⟩ : ByteArray).toList) = decide (l = m) := by
  rw [ByteArray.toList_eq, ByteArray.toList_eq]
  by_cases e : l = m <;> simp [e]
theorem parts_law (d : Dv) (w : World) (hT : Has tyInput d) (hr : RdD (fun b => b < w.heap.size) w d) (hE : Env w) : Calls Tryz.prog 7 #[d.val] w fun e w' => e = .returned (.bool true) /\ Below w.heap.size w w' := by
  obtain ⟨hl, -, -, hv⟩ := LT.len .inp hT
  have HK := hiq (keepO_new w 58 d.cells.toArray)
  have HLD : Hid (∀ V, KeepO w 58 d.cells.toArray V -> LdV w.heap.size 58 (.agg d.cells.toArray) V) := fun V h => LT.ld .inp rfl hl h.fst
  have hlt : ∀ V, KeepO w 58 d.cells.toArray V -> ∀ b, b < w.heap.size -> b < V.heap.size := fun V h b hb => Nat.lt_of_lt_of_le hb h.below.size
  have HA : Hid (∀ V, KeepO w 58 d.cells.toArray V -> Calls Tryz.prog 10 #[] V fun e V' => e = .returned (.bool true) /\ Below V.heap.size V V') := fun V h => awake_any (hE.below h.below)
  have HG : Hid (∀ V, KeepO w 58 d.cells.toArray V -> Calls Tryz.prog 23 #[.agg d.cells.toArray] V fun e V' => ∃ g : Bool, e = .returned (.bool g) /\ (g = false -> Sm d) /\ Below V.heap.size V V') := fun V h => by
    have := GreatInput_any hT (hr.below h.below) (hlt V h)
    rw [hv rfl] at this; exact this
  have HP1 : Hid (Sm d -> ∀ V, KeepO w 58 d.cells.toArray V -> Calls Tryz.prog 24 #[.agg d.cells.toArray] V (PrtP d.toV V)) := fun hm V h => by
    have := part_any hT hm (hr.below h.below) (hlt V h) (hE.below h.below)
    rw [hv rfl] at this; exact this
  have HP2 : Hid (Sm d -> ∀ V, KeepO w 58 d.cells.toArray V -> Calls Tryz.prog 25 #[.agg d.cells.toArray] V (PrtP d.toV V)) := fun hm V h => by
    have := part_ref hT hm (hr.below h.below) (hlt V h) (hE.below h.below)
    rw [hv rfl] at this; exact this
  rw [hv rfl]
  unfold PrtP at HP1 HP2
  clear hl hv hlt hT hr hE
  generalize encB d.toV = X at *
  generalize prtE d.toV = E at *
  generalize d.cells.toArray = A at *
  go_enter Tryz.func7, Tryz.ntmps7
  go_wp2_with (first | ((with_reducible refine wpList_ldL (HLD.out _ HK.out) rfl _ rfl ?_ ?_); rfl) | fail)
  refine (HG.out _ HK.out).mono ?_
  rintro e V1 ⟨g, rfl, hm, hb⟩
  replace HK := hiq (HK.out.next hb)
  clear hb
  cases g
  case true =>
    clear hm HP1 HP2 HG
    go_wp2_with fail
    refine (HA.out _ HK.out).mono ?_
    rintro e V2 ⟨rfl, hb⟩
    replace HK := hiq (HK.out.next hb)
    clear hb
    go_wp2
    go_ret
    exact ⟨rfl, HK.out.below⟩
  replace HP1 := hiq (HP1.out (hm rfl))
  replace HP2 := hiq (HP2.out (hm rfl))
  clear hm
  go_wp2_with (first | ((with_reducible refine wpList_ldL (HLD.out _ HK.out) rfl _ rfl ?_ ?_); rfl) | fail)
  refine (HP1.out _ HK.out).mono ?_
  rintro e V2 ⟨rfl, hb⟩
  replace HK := hiq (HK.out.next hb)
  clear hb
  go_wp2_with (first | ((with_reducible refine wpList_ldL (HLD.out _ HK.out) rfl _ rfl ?_ ?_); rfl) | fail)
  refine (HP2.out _ HK.out).mono ?_
  rintro e V3 ⟨rfl, hb⟩
  replace HK := hiq (HK.out.next hb)
  clear hb
  go_wp2_with fail
  refine (HA.out _ HK.out).mono ?_
  rintro e V4 ⟨rfl, hb⟩
  replace HK := hiq (HK.out.next hb)
  clear hb
  go_wp2
  go_ret
  exact ⟨rfl, HK.out.below⟩
end Go.Proofs.YtlbcmeebcfalpaaGreatDoor
