/- multiway.aligned, of columns that are an alignment. multiway.Check, of columns that are an alignment; slices.Max of numbers. multiway.Project onto two sources. multiway.Project onto two sources. progressive.arranged. progressive.Align, plainly: the order, the columns behind so many sources; a slice of foreign rows. progressive.Align. A block of tokens, one of them stored. No program here. multiway.cost, of three sources. multiway.usable, of valid costs and sources. multiway.Cost, of three sources. The reference's measures: whatever they answer. top21Fine: whether costs and sources are valid. The law of the first two sources, plainly; the example. top21Awake: the example is aligned as it should be. The law: TopProgressivePair answers true. From the reading of an argument to a collation, an operation; from the condition on the library's variables to Env (printed by gen_erow.py). -/
import Derived.Test.YtaelfjlmkgimhaaGreatDoorPPg1
import Derived.Test.YtaelfjlmkgimhaaGreatDoorPPl7
import Derived.Test.YtaelfjlmkgimhaaGreatDoorPGa
import Derived.Test.YtaelfjlmkgimhaaGreatDoorPGb
import Derived.Laws.EntriesVeiled
import Derived.Test.YtaelfjlmkgimhaaGreatDoorETokR
import Derived.Laws.StructEq
import Derived.Test.YtaelfjlmkgimhaaGreatDoorTie
import Derived.ProofKit
import Derived.Deep.Slices
import Derived.Deep.Fields
import Derived.ChangeSame
import Derived.SizedLaws
import Derived.LaidMore
import Derived.Stop.Joined
set_option linter.unusedVariables false
set_option linter.unusedSimpArgs false
namespace Go.Proofs.YtaelfjlmkgimhaaGreatDoor
open Go.RowKit Go.Shelf

/-- How many tokens of a source stand in the first columns. -/
def cntC (cols : List Cm) (j s : Nat) : Nat := ((cols.take j).filterMap (ent1 s)).length
theorem cntC_zero (cols : List Cm) (s : Nat) : cntC cols 0 s = 0 := by simp [cntC]
theorem cntC_some {cols : List Cm} {j s k : Nat} {c : Cm} (hc : cols[j]? = some c) (he : ent1 s c = some k) : cntC cols (j + 1) s = cntC cols j s + 1 := by
  have := fil_take (ent1 s) hc; rw [he] at this; exact this
theorem cntC_none {cols : List Cm} {j s : Nat} {c : Cm} (hc : cols[j]? = some c) (he : ent1 s c = none) : cntC cols (j + 1) s = cntC cols j s := by
  have := fil_take (ent1 s) hc; rw [he] at this; exact this
theorem cntC_all {lens : List Nat} {cols : List Cm} (h : Vc lens cols) {s n : Nat} (hs : lens[s]? = some n) : cntC cols cols.length s = n := by
  unfold cntC; rw [List.take_length, h.all s n hs, List.length_range]
theorem colI_at {c : Cm} {s : Nat} {y : Int} (h : (colI c)[s]? = some y) : y = toI (ent1 s c) := by
  unfold colI at h
  rw [List.getElem?_map] at h
  unfold ent1
  cases hc : c[s]? with
  | none => rw [hc] at h; cases h
  | some o => rw [hc] at h; exact (Option.some.inj h).symm
set_option maxRecDepth 100000 in
set_option maxHeartbeats 4000000 in
theorem aligned_any (S S2 : Nat → Prop) (a xa : Option Addr) (n cp q xc : Nat) (l : List (List Tok)) (cols : List Cm) (w : World) (hl : Tokss S w a n cp l) (hx : Numss S2 w xa q xc (cols.map colI)) (hv : VdL l) (hc : Vc (l.map List.length) cols) :
    Calls Tryz.prog 42 #[.slice a n cp, .slice xa q xc] w fun e w' => e = .returned (.bool true) ∧ Below w.heap.size w w' := by
  have hn32 : n ≤ 32 := by rw [hl.len]; exact hv.n
  have hxb := hx.bound
  have hqb : q ≤ 10000000000000 := by omega
  obtain ⟨i0, hi, hz0, hz1, hz2⟩ := info_parts Tryz.infoInt
  have HNL := Lib.hid hl.len
  have HQL : Hid (q = cols.length) := by have := hx.len; rwa [List.length_map] at this
  have HL := Lib.hid (fun W (hW : Below w.heap.size w W) => hl.below (rSl_ok rTok_ok) hW)
  have HX := Lib.hid (fun W (hW : Below w.heap.size w W) => hx.below (rSl_ok rInt_ok) hW)
  have HVC := Lib.hid hc
  have HLEN : Hid (∀ c ∈ cols, c.length = n) := fun c h => by have := hc.len c h; rw [List.length_map] at this; rw [this]; exact HNL.out.symm
  have HLB : Hid (∀ t ∈ l, t.length ≤ 16) := hv.len
  clear hl hx hc hxb hv
  go_enter Tryz.func42, Tryz.ntmps42
  go_wp2_with (at_make; refine wpList_make_full _ rfl _ _ 27 rfl w.heap.size 3 i0 (.int .i64 0) 1 Tryz.underlying27 hi hz0 hz1 .i64 .i64 n n n rfl rfl rfl rfl (by rw [hz2]; omega) (by unfold maxLen; omega) (Nat.le_refl _) ?_; intro w2 hrow hg; have FG := made_row hrow; have hB2 : Below w.heap.size w w2 := (Below.refl _ w).grown hg (Nat.le_refl _) (by simp); clear hrow hg)
  have HS2 : Hid (w2.heap[w.heap.size]? = some (.cells (rowA (fun s => (cntC cols 0 s : Int)) n) 3 (0, 0)) ∧ Below w.heap.size w w2) := ⟨by rw [FG]; congr 2, hB2⟩
  clear FG hB2
  go_loopw [17] (fun iv wr => ∃ j : Nat, iv = .int .i64 (j : Int) ∧ j ≤ q ∧ Hid (wr.heap[w.heap.size]? = some (.cells (rowA (fun s => (cntC cols j s : Int)) n) 3 (0, 0)) ∧ Below w.heap.size w wr)) (fun iv _ => q - (intOf iv).toNat)
  case atStart => exact ⟨0, rfl, Nat.zero_le _, HS2⟩
  case round =>
    clear HS2 w2
    obtain ⟨j, rfl, hj, hst⟩ := hrel
    by_cases hjq : j < q
    · obtain ⟨x, b, off, a', n', c', hxc, hxm, rfl, -, hb, hrow, hcell⟩ := (HX.out _ (Below.refl _ _)).row hjq
      obtain ⟨c, hcj, rfl⟩ : ∃ c, cols[j]? = some c ∧ colI c = x := by
        rw [List.getElem?_map] at hxc; exact Option.map_eq_some_iff.1 hxc
      have hnc : n' = n := by rw [hrow.len, colI, List.length_map]; exact HLEN.out c (List.mem_of_getElem? hcj)
      subst hnc
      have HCJ := Lib.hid hcj
      have HRO := Lib.hid (fun W (hW : Below w.heap.size w W) => hrow.below rInt_ok hW)
      replace hcell := cell_later hst.out.2 hcell
      clear hcj hxc hxm hrow
      obtain ⟨wo, rfl⟩ : ∃ wo : World, wo = wr := ⟨_, rfl⟩
      have HST : Hid (wo.heap[w.heap.size]? = some (.cells (rowA (fun s => (if s < 0 then cntC cols (j + 1) s else cntC cols j s : Nat)) n') 3 (0, 0)) ∧ Below w.heap.size w wo) := by
        refine ⟨?_, hst.out.2⟩
        rw [hst.out.1]; congr 2
      clear hst
      go_wp2
      clear hcell
      go_loopw [8, 28] (fun sv kv wr => ∃ (s : Nat) (fl : Bool), sv = .bool fl ∧ kv = .int .i64 (s : Int) ∧ s ≤ n' ∧ Hid (fl = true ↔ ∃ s', s' < s ∧ (ent1 s' c).isSome = true) ∧ Hid (wr.heap[w.heap.size]? = some (.cells (rowA (fun s' => (if s' < s then cntC cols (j + 1) s' else cntC cols j s' : Nat)) n') 3 (0, 0)) ∧ Below w.heap.size w wr)) (fun _ kv _ => n' - (intOf kv).toNat)
      case atStart => exact ⟨0, false, rfl, rfl, Nat.zero_le _, ⟨(fun h => by cases h), (fun ⟨s', h, _⟩ => by omega)⟩, HST⟩
      case round =>
        clear HST
        obtain ⟨s, fl, rfl, rfl, hs, hfl, hst⟩ := hrel
        by_cases hsn : s < n'
        · obtain ⟨y, b2, off2, hy, -, rfl, -, hb2, -, hc2⟩ := (HRO.out _ hst.out.2).int hsn
          have hye := colI_at hy
          clear hy
          cases he : ent1 s c with
          | none =>
            rw [he] at hye
            have hy1 : y = -1 := hye
            subst hy1
            clear hye
            have HST : Hid (wr.heap[w.heap.size]? = some (.cells (rowA (fun s' => (if s' < s + 1 then cntC cols (j + 1) s' else cntC cols j s' : Nat)) n') 3 (0, 0)) ∧ Below w.heap.size w wr) := by
              refine ⟨?_, hst.out.2⟩
              rw [hst.out.1]; congr 2
              refine rowA_congr fun k _ => ?_
              by_cases e : k = s
              · subst e; rw [if_neg (by omega), if_pos (by omega), cntC_none HCJ.out he]
              · by_cases e2 : k < s
                · rw [if_pos e2, if_pos (by omega)]
                · rw [if_neg e2, if_neg (by omega)]
            have HFL : Hid (fl = true ↔ ∃ s', s' < s + 1 ∧ (ent1 s' c).isSome = true) := by
              refine hfl.out.trans ⟨fun ⟨s', h1, h2⟩ => ⟨s', by omega, h2⟩, fun ⟨s', h1, h2⟩ => ⟨s', ?_, h2⟩⟩
              by_cases e : s' = s
              · subst e; rw [he] at h2; cases h2
              · omega
            clear hst hfl he
            go_wp2
            go_roundw
            case rel => exact ⟨s + 1, fl, rfl, by first | rfl | go_num, by omega, HFL, HST⟩
            case measure => simp [intOf]; omega
          | some k =>
            rw [he] at hye
            have hy1 : y = (k : Int) := hye
            subst hy1
            clear hye
            obtain ⟨t, b3, off3, a3, n3, c3, hts, htm, rfl, -, hb3, htr, hc3⟩ := (HL.out _ hst.out.2).row hsn
            have hn3 := htr.len
            have hmt : (l.map List.length)[s]? = some n3 := by rw [List.getElem?_map, hts, hn3]; rfl
            have hkc := ent_at (HVC.out.all s n3 hmt) HCJ.out he
            have hkn : k < n3 := hkc.2
            have hk1 : k = cntC cols j s := hkc.1
            have hn3b : n3 ≤ 16 := by rw [hn3]; exact HLB.out t htm
            have hcg : wr.cell? ⟨w.heap.size, s, none⟩ = some (.int .i64 (k : Int)) := by
              rw [cell_row hst.out.1, rowA_get hsn, if_neg (by omega), ← hk1]
            have hfg : wr.frozen? ⟨w.heap.size, s, none⟩ = false := by simp [World.frozen?, hst.out.1]
            have hkw : IntKind.i64.wrap ((k : Int) + 1) = (k : Int) + 1 := by rw [IntKind.wrap_i64]; omega
            have d1 : decide (n3 ≤ k) = false := decide_eq_false (by omega)
            have d2 : decide ((n3 : Int) ≤ (k : Int)) = false := decide_eq_false (by omega)
            have d3 : ((k : Int) == -1) = false := by rw [beq_eq_false_iff_ne]; omega
            have HST : Hid ((wr.setCell ⟨w.heap.size, s, none⟩ (.int .i64 ((k : Int) + 1))).heap[w.heap.size]? = some (.cells (rowA (fun s' => (if s' < s + 1 then cntC cols (j + 1) s' else cntC cols j s' : Nat)) n') 3 (0, 0)) ∧ Below w.heap.size w (wr.setCell ⟨w.heap.size, s, none⟩ (.int .i64 ((k : Int) + 1)))) := by
              refine ⟨?_, below_setc hst.out.2 (Nat.le_refl _) s _⟩
              rw [heap_setCell_self hst.out.1, rowA_set]; congr 2
              refine rowA_congr fun k2 _ => ?_
              by_cases e : k2 = s
              · subst e; rw [if_pos rfl, if_pos (by omega), cntC_some HCJ.out he, ← hk1]; rfl
              · rw [if_neg e]
                by_cases e2 : k2 < s
                · rw [if_pos e2, if_pos (by omega)]
                · rw [if_neg e2, if_neg (by omega)]
            have HFL : Hid (true = true ↔ ∃ s', s' < s + 1 ∧ (ent1 s' c).isSome = true) := ⟨fun _ => ⟨s, by omega, by rw [he]; rfl⟩, fun _ => rfl⟩
            clear hst hfl he hts htm htr hn3 hmt hkc hk1
            go_wp2
            go_roundw
            case rel => exact ⟨s + 1, true, rfl, by first | rfl | go_num, by omega, HFL, HST⟩
            case measure => simp [intOf]; omega
        · have hse : s = n' := by omega
          subst hse
          have hf1 : fl = true := by
            obtain ⟨s', k, hk⟩ := HVC.out.some c (List.mem_of_getElem? HCJ.out)
            refine hfl.out.2 ⟨s', ?_, by rw [hk]; rfl⟩
            have hl := HLEN.out c (List.mem_of_getElem? HCJ.out)
            unfold ent1 at hk
            cases hcs : c[s']? with
            | none => rw [hcs] at hk; cases hk
            | some o => have := (List.getElem?_eq_some_iff.1 hcs).1; omega
          subst hf1
          have HST : Hid (wr.heap[w.heap.size]? = some (.cells (rowA (fun s' => (cntC cols (j + 1) s' : Int)) s) 3 (0, 0)) ∧ Below w.heap.size w wr) := by
            refine ⟨?_, hst.out.2⟩
            rw [hst.out.1]; congr 2
            exact rowA_congr fun k hk => by rw [if_pos hk]
          clear hst hfl
          go_wp2
          go_roundw
          case rel => exact ⟨j + 1, by first | rfl | go_num, by omega, HST⟩
          case measure => simp [intOf]; omega
    · have hje : j = q := by omega
      subst hje
      have HG := hst
      clear hst
      go_wp2
      go_loopw [62] (fun iv wr => ∃ s : Nat, iv = .int .i64 (s : Int) ∧ s ≤ n ∧ Hid (wr.heap[w.heap.size]? = some (.cells (rowA (fun s => (cntC cols j s : Int)) n) 3 (0, 0)) ∧ Below w.heap.size w wr)) (fun iv _ => n - (intOf iv).toNat)
      case atStart => exact ⟨0, rfl, Nat.zero_le _, HG⟩
      case round =>
        clear HG
        obtain ⟨s, rfl, hs, hst⟩ := hrel
        by_cases hsn : s < n
        · obtain ⟨t, b3, off3, a3, n3, c3, hts, htm, rfl, -, hb3, htr, hc3⟩ := (HL.out _ hst.out.2).row hsn
          have hn3 := htr.len
          have hmt : (l.map List.length)[s]? = some n3 := by rw [List.getElem?_map, hts, hn3]; rfl
          have hca := cntC_all HVC.out hmt
          rw [← HQL.out] at hca
          have hcg : wr.cell? ⟨w.heap.size, s, none⟩ = some (.int .i64 (n3 : Int)) := by
            rw [cell_row hst.out.1, rowA_get hsn, hca]
          have HG := hst
          clear hst hts htm htr hn3 hmt hca
          go_wp2
          go_quiet (fail)
          go_wp2
          go_roundw
          case rel => exact ⟨s + 1, by first | rfl | go_num, by omega, HG.out.1, below_drewN HG.out.2 nq⟩
          case measure => simp [intOf]; omega
        · have hse : s = n := by omega
          subst hse
          go_wp2
          go_ret
          exact ⟨rfl, hst.out.2⟩
end Go.Proofs.YtaelfjlmkgimhaaGreatDoor

set_option linter.unusedVariables false
set_option linter.unusedSimpArgs false
namespace Go.Proofs.YtaelfjlmkgimhaaGreatDoor
open Go.RowKit Go.Shelf

set_option maxRecDepth 100000 in
set_option maxHeartbeats 4000000 in
theorem mcheck_any (S S2 : Nat → Prop) (a xa : Option Addr) (n cp q xc : Nat) (l : List (List Tok)) (cols : List Cm) (w : World) (hl : Tokss S w a n cp l) (hx : Numss S2 w xa q xc (cols.map colI)) (hv : VdL l) (h0 : 0 < n) (hc : Vc (l.map List.length) cols) :
    Calls Tryz.prog 25 #[.slice a n cp, .slice xa q xc] w fun e w' => e = .returned (.int .i64 0) ∧ Below w.heap.size w w' := by
  have HS := Lib.hid (msrcs_any S a n cp l w hl hv h0)
  have HA := Lib.hid (fun W (hW : Below w.heap.size w W) => aligned_any S S2 a xa n cp q xc l cols W (hl.below (rSl_ok rTok_ok) hW) (hx.below (rSl_ok rInt_ok) hW) hv hc)
  clear hl hx hv hc
  go_enter Tryz.func25, Tryz.ntmps25
  go_wp2_with (first | (go_at_call 52; refine HS.out.mono ?_; rintro e w1 ⟨rfl, hb1⟩; have HB1 := Lib.hid hb1; clear hb1) | (go_at_call 42; refine (HA.out _ HB1.out).mono ?_; rintro e w2 ⟨rfl, hb2⟩; have HB2 := Lib.hid (HB1.out.trans (hb2.mono HB1.out.size)); clear hb2))
  go_ret
  exact ⟨rfl, HB2.out⟩
set_option maxRecDepth 100000 in
set_option maxHeartbeats 4000000 in
theorem max_any (S : Nat → Prop) (a : Option Addr) (n c : Nat) (L : List Int) (w : World) (h : Nums S w a n c L) (h0 : 0 < n) :
    Calls Tryz.prog 26 #[.slice a n c] w fun e w' => ∃ m, e = .returned (.int .i64 m) ∧ (0 ≤ m ↔ ∃ x ∈ L, 0 ≤ x) ∧ w' = w := by
  obtain ⟨x0, b0, off, hx0, hm0, rfl, -, hb, hi0, hc0⟩ := h.int h0
  have HNL := Lib.hid h.len
  have hnb := h.bound
  have hd : decide (n < 1) = false := decide_eq_false (by omega)
  have hd2 : decide ((n : Int) < 1) = false := decide_eq_false (by omega)
  have HC : Hid (∀ j, j < n → ∃ x, L[j]? = some x ∧ w.cell? ⟨b0, off + j, none⟩ = some (.int .i64 x)) := fun j hj => by
    obtain ⟨x, b, o, h1, -, e, -, -, -, h2⟩ := h.int hj
    cases e
    exact ⟨x, h1, h2⟩
  clear h
  have hc0' : w.cell? ⟨b0, off, none⟩ = some (.int .i64 x0) := hc0
  have HX0 := Lib.hid hx0
  clear hx0 hm0 hc0
  go_enter Tryz.func26, Tryz.ntmps26
  go_wp2
  clear hc0'
  go_loopw [3, 4] (fun mv iv wr => ∃ (i : Nat) (m : Int), mv = .int .i64 m ∧ iv = .int .i64 (i : Int) ∧ i ≤ n ∧ Hid (0 ≤ m ↔ ∃ x ∈ L.take i, 0 ≤ x) ∧ wr = w) (fun _ iv _ => n - (intOf iv).toNat)
  case atStart => exact ⟨1, x0, rfl, rfl, h0, by
    show _ ↔ _
    have e : L.take 1 = [x0] := by
      cases L with
      | nil => have := HX0.out; simp at this
      | cons y L => have := HX0.out; simp at this; subst this; rfl
    rw [e]; simp, rfl⟩
  case round =>
    obtain ⟨i, m, rfl, rfl, hi, hm, rfl⟩ := hrel
    by_cases hin : i < n
    · obtain ⟨x, hx, hc⟩ := HC.out i hin
      have hm2 : Hid (0 ≤ max m x ↔ ∃ x ∈ L.take (i + 1), 0 ≤ x) := by
        show _ ↔ _
        rw [List.take_add_one, hx]
        have := hm.out
        simp only [Option.toList_some, List.mem_append, List.mem_singleton]
        constructor
        · intro h1
          rcases Int.le_total m x with h2 | h2
          · exact ⟨x, .inr rfl, by rw [Int.max_eq_right h2] at h1; exact h1⟩
          · rw [Int.max_eq_left h2] at h1
            obtain ⟨y, h3, h4⟩ := this.1 h1
            exact ⟨y, .inl h3, h4⟩
        · rintro ⟨y, h3 | rfl, h4⟩
          · exact Int.le_trans (this.2 ⟨y, h3, h4⟩) (Int.le_max_left _ _)
          · exact Int.le_trans h4 (Int.le_max_right _ _)
      clear hm hx
      go_wp2
      exact ⟨⟨i + 1, max m x, rfl, by first | rfl | go_num, by omega, hm2, trivial⟩, by simp [intOf]; omega⟩
    · have hie : i = n := by omega
      subst hie
      go_wp2
      go_ret
      refine ⟨m, rfl, ?_, rfl⟩
      have := hm.out
      rwa [List.take_of_length_le (by rw [← HNL.out]; exact Nat.le_refl _)] at this
end Go.Proofs.YtaelfjlmkgimhaaGreatDoor

set_option linter.unusedVariables false
set_option linter.unusedSimpArgs false
namespace Go.Proofs.YtaelfjlmkgimhaaGreatDoor
open Go.RowKit Go.Shelf

/-- Rows in a slice of the call's own. -/
structure OutR (W : World) (s : Nat) (oa : Option Addr) (on oc : Nat) (ps : List (Row × List Int)) : Prop where
  own : OwnQ 27 1 encR W s oa on oc (ps.map (·.1))
  rows : RowsP 3 1 encI W s ps
  ap : ∀ p ∈ ps, Apart p.1.1 oa
namespace OutR
variable {W V V2 : World} {s on oc : Nat} {oa : Option Addr} {ps : List (Row × List Int)}
theorem nil (W : World) (s : Nat) : OutR W s none 0 0 [] := ⟨OwnQ.nil _ _ _ _ _, RowsP.nil _ _ _ _ _, by simp⟩
theorem below (h : OutR W s oa on oc ps) (hb : Below W.heap.size W V) : OutR V s oa on oc ps := ⟨h.own.below hb, h.rows.below hb, h.ap⟩
theorem app (h : OutR W s oa on oc ps) {c5 : Nat} {a5 : Option Addr} {r : Row} {L : List Int} (hs : s ≤ W.heap.size) (hk : Below W.heap.size W V) (hcol : OwnQ 3 1 encI V W.heap.size r.1 r.2.1 r.2.2 L)
    (hO2 : OwnQ 27 1 encR V2 s a5 (on + 1) c5 (ps.map (·.1) ++ [r])) (hg : V.grownBy V2 (Value.slice oa on oc).ownBlock) (hz : (Value.slice a5 (on + 1) c5).ownBlock = (Value.slice oa on oc).ownBlock ∨ (Value.slice a5 (on + 1) c5).ownBlock = some V.heap.size) :
    OutR V2 s a5 (on + 1) c5 (ps ++ [(r, L)]) := by
  have hal : ∀ x, oa = some x → x.block < W.heap.size := fun x e => (h.own.lt x e).2
  have hne : ∀ b, (∀ x, oa = some x → x.block ≠ b) → some b ≠ (Value.slice oa on oc).ownBlock := fun b hb e => by
    cases oa with
    | none => cases e
    | some x => exact hb x rfl (Option.some.inj e).symm
  have ha5 : ∀ x, a5 = some x → (∃ y, oa = some y ∧ x.block = y.block) ∨ x.block = V.heap.size := fun x hx => by
    subst hx
    rcases hz with e | e
    · cases oa with
      | none => cases e
      | some y => exact .inl ⟨y, rfl, Option.some.inj e⟩
    · exact .inr (Option.some.inj e)
  have hcol2 : OwnQ 3 1 encI V2 s r.1 r.2.1 r.2.2 L := (hcol.kept hg fun x hx => hne x.block fun y hy => by have := hal y hy; have := (hcol.lt x hx).1; omega).mono hs
  have hrows2 : RowsP 3 1 encI V2 s ps := (h.rows.below hk).kept hg fun p hp x hx => hne _ fun y hy e => h.ap p hp x y hx hy e.symm
  have hrw : RowsP 3 1 encI V2 s (ps ++ [(r, L)]) := hrows2.app hcol2 fun q hq x y hx hy => by
    have h1 := (h.rows.lt hq x hx).2
    have h2 := (hcol.lt y hy).1
    omega
  refine ⟨by rw [List.map_append]; exact hO2, hrw, fun p hp x y hx hy e => ?_⟩
  rcases List.mem_append.1 hp with hp | hp
  · rcases ha5 y hy with ⟨z, hz, e2⟩ | e2
    · exact h.ap p hp x z hx hz (e.trans e2)
    · have := (h.rows.lt hp x hx).2; have := hk.size; omega
  · rw [List.mem_singleton] at hp
    subst hp
    have h2 := hcol.lt x hx
    rcases ha5 y hy with ⟨z, hz, e2⟩ | e2
    · have := hal z hz; omega
    · omega
/-- What it reads as. -/
theorem sq (h : OutR W s oa on oc ps) {s0 : Nat} (hs : s0 ≤ s) (hn : on ≤ 1000000) (hl : ∀ p ∈ ps, p.2.length ≤ 1000000 ∧ ∀ x ∈ p.2, I64 x) : Numss (fun b => s0 ≤ b) W oa on oc (ps.map (·.2)) :=
  h.rows.sq (R := rInt) (s := 8) h.own (fun _ => rfl) (by omega) (fun b hb _ => by omega) (fun x hx => by have h3 := (h.own.lt x hx).1; show s0 ≤ x.block; omega) (fun p hp => ⟨by have := (hl p hp).1; omega, fun x hx => ⟨rfl, (hl p hp).2 x hx⟩⟩)
end OutR
theorem numss_i64' {S : Nat → Prop} {w : World} {a : Option Addr} {n c : Nat} {L : List (List Int)} (h : Numss S w a n c L) : ∀ r ∈ L, ∀ x ∈ r, I64 x := fun r hr x hx => by
  obtain ⟨j, hj, e⟩ := List.mem_iff_getElem.1 hr
  obtain ⟨u, b, off, a', n', c', hu, -, -, -, -, hrow, -⟩ := h.row (j := j) (by rw [h.len]; exact hj)
  rw [List.getElem?_eq_getElem hj, e] at hu
  cases hu
  obtain ⟨q, hq, e2⟩ := List.mem_iff_getElem.1 hx
  obtain ⟨y, b2, off2, hy, -, -, -, -, hi, -⟩ := hrow.int (j := q) (by rw [hrow.len]; exact hq)
  rw [List.getElem?_eq_getElem hq, e2] at hy
  cases hy
  exact hi
/-- The columns of two of the sources, as the program finds them. -/
def prF (i k : Nat) (l : List Cm) : List (List Int) := (l.map fun c => [toI (ent1 i c), toI (ent1 k c)]).filter fun x => x.any fun n => decide (0 ≤ n)
theorem prF_yes {i k j : Nat} {l : List Cm} {c : Cm} (hc : l[j]? = some c) (h : ∃ x ∈ [toI (ent1 i c), toI (ent1 k c)], 0 ≤ x) : prF i k (l.take (j + 1)) = prF i k (l.take j) ++ [[toI (ent1 i c), toI (ent1 k c)]] := by
  have e : ([toI (ent1 i c), toI (ent1 k c)].any fun n => decide (0 ≤ n)) = true := by
    obtain ⟨x, hx, h0⟩ := h
    exact List.any_eq_true.2 ⟨x, hx, decide_eq_true h0⟩
  unfold prF
  rw [List.take_add_one, hc, List.map_append, List.filter_append]
  congr 1
  rw [Option.toList_some, List.map_singleton, List.filter_cons, if_pos e]; rfl
theorem prF_no {i k j : Nat} {l : List Cm} {c : Cm} (hc : l[j]? = some c) (h : ¬ ∃ x ∈ [toI (ent1 i c), toI (ent1 k c)], 0 ≤ x) : prF i k (l.take (j + 1)) = prF i k (l.take j) := by
  have e : ([toI (ent1 i c), toI (ent1 k c)].any fun n => decide (0 ≤ n)) = false := by
    rw [Bool.eq_false_iff]
    intro h2
    obtain ⟨x, hx, h0⟩ := List.any_eq_true.1 h2
    exact h ⟨x, hx, of_decide_eq_true h0⟩
  unfold prF
  rw [List.take_add_one, hc, List.map_append, List.filter_append, Option.toList_some, List.map_singleton, List.filter_cons, if_neg (by rw [e]; decide)]
  simp
theorem prF_len (i k j : Nat) (l : List Cm) : (prF i k (l.take j)).length ≤ j := by
  unfold prF
  refine Nat.le_trans (List.length_filter_le _ _) ?_
  rw [List.length_map, List.length_take]; omega
end Go.Proofs.YtaelfjlmkgimhaaGreatDoor

set_option linter.unusedVariables false
set_option linter.unusedSimpArgs false
namespace Go.Proofs.YtaelfjlmkgimhaaGreatDoor
open Go.RowKit Go.Shelf

set_option maxRecDepth 100000 in
set_option maxHeartbeats 8000000 in
theorem project_any (S S2 S3 : Nat → Prop) (a xa ka : Option Addr) (n cp q xc kc i k : Nat) (l : List (List Tok)) (cols : List Cm) (w : World) (hl : Tokss S w a n cp l) (hx : Numss S2 w xa q xc (cols.map colI)) (hk : Nums S3 w ka 2 kc [(i : Int), (k : Int)]) (hv : VdL l) (hik : i < k) (hkn : k < n) (hc : Vc (l.map List.length) cols) (hqb : q ≤ 1000) :
    Calls Tryz.prog 8 #[.slice a n cp, .slice xa q xc, .slice ka 2 kc] w fun e w' => ∃ a' n' c', e = .returned (.tuple #[.slice a' n' c', .int .i64 0]) ∧ Numss (fun b => w.heap.size ≤ b) w' a' n' c' (prF i k cols) ∧ Below w.heap.size w w' := by
  have hn32 : n ≤ 32 := by rw [hl.len]; exact hv.n
  have HNL := Lib.hid hl.len
  have HQL : Hid (q = cols.length) := by have := hx.len; rwa [List.length_map] at this
  have HX := Lib.hid (fun W (hW : Below w.heap.size w W) => hx.below (rSl_ok rInt_ok) hW)
  have HLEN : Hid (∀ c ∈ cols, c.length = n) := fun c h => by have := hc.len c h; rw [List.length_map] at this; rw [this]; exact HNL.out.symm
  have HI64 : Hid (∀ L : List Int, (∃ c ∈ cols, [toI (ent1 i c), toI (ent1 k c)] = L) → ∀ x ∈ L, I64 x) := fun L ⟨c, hcm, e⟩ x hx' => by
    subst e
    have hcl : c.length = n := by have := hc.len c hcm; rw [List.length_map] at this; rw [this]; exact hl.len.symm
    have hi' := numss_i64' hx (colI c) (List.mem_map.2 ⟨c, hcm, rfl⟩)
    have hget : ∀ s, s < n → toI (ent1 s c) ∈ colI c := fun s hs => by
      refine List.mem_map.2 ⟨ent1 s c, ?_, rfl⟩
      unfold ent1
      rw [List.getElem?_eq_getElem (by omega)]
      exact List.getElem_mem _
    simp only [List.mem_cons, List.not_mem_nil, or_false] at hx'
    rcases hx' with rfl | rfl
    · exact hi' _ (hget i (by omega))
    · exact hi' _ (hget k hkn)
  have HCK := Lib.hid (mcheck_any S S2 a xa n cp q xc l cols w hl hx hv (by omega) hc)
  obtain ⟨y0, bK, oK, e0, -, rfl, -, hbK, -, k0⟩ := hk.int (j := 0) (by omega)
  cases e0
  obtain ⟨y1, bK', oK', e1, -, e2, -, -, -, k1⟩ := hk.int (j := 1) (by omega)
  cases e1
  cases e2
  have k0' : w.cell? ⟨bK, oK, none⟩ = some (.int .i64 (i : Int)) := k0
  have HK := Lib.hid (And.intro k0' k1)
  have d1 : decide ((i : Int) < 0) = false := decide_eq_false (by omega)
  have d2 : decide ((k : Int) < 0) = false := decide_eq_false (by omega)
  have d3 : decide (n ≤ i) = false := decide_eq_false (by omega)
  have d4 : decide (n ≤ k) = false := decide_eq_false (by omega)
  have d5 : decide ((n : Int) ≤ (i : Int)) = false := decide_eq_false (by omega)
  have d6 : decide ((n : Int) ≤ (k : Int)) = false := decide_eq_false (by omega)
  have d7 : decide (k ≤ i) = false := decide_eq_false (by omega)
  have d8 : decide ((k : Int) ≤ (i : Int)) = false := decide_eq_false (by omega)
  have hin : i < n := by omega
  clear hl hx hc hv hk k0 k0' k1
  go_enter Tryz.func8, Tryz.ntmps8
  go_wp2_with (go_at_call 25; refine HCK.out.mono ?_; rintro e w1 ⟨rfl, hb1⟩; have HB1 := Lib.hid hb1; clear hb1)
  go_loopw [28] (fun zv wr => ∃ (z : Int), zv = .int .i64 z ∧ (z = 0 ∨ z = 1 ∨ z = 2) ∧ Hid (Below w.heap.size w wr)) (fun zv _ => 2 - (intOf zv).toNat)
  case atStart => exact ⟨0, rfl, .inl rfl, HB1⟩
  case round =>
    clear HB1 w1
    obtain ⟨z, rfl, hz, hb⟩ := hrel
    have c0 := cell_later hb.out HK.out.1
    have c1 := cell_later hb.out HK.out.2
    rcases hz with rfl | rfl | rfl
    · go_wp2
      go_roundw
      case rel => exact ⟨1, by first | rfl | go_num, .inr (.inl rfl), hb⟩
      case measure => simp [intOf]
    · go_wp2
      go_roundw
      case rel => exact ⟨2, by first | rfl | go_num, .inr (.inr rfl), hb⟩
      case measure => simp [intOf]
    · have HB := hb
      clear hb c0 c1 d1 d2 d3 d4 d5 d6 d7 d8
      go_wp2
      obtain ⟨wz, rfl⟩ : ∃ wz : World, wz = wr := ⟨_, rfl⟩
      go_loopw [11, 55] (fun ov jv wr => ∃ (j on oc : Nat) (oa : Option Addr) (ps : List (Row × List Int)), ov = .slice oa on oc ∧ jv = .int .i64 (j : Int) ∧ j ≤ q ∧ on ≤ j ∧ Hid (OutR wr w.heap.size oa on oc ps ∧ ps.map (fun p => p.2) = prF i k (cols.take j) ∧ Below w.heap.size w wr)) (fun _ jv _ => q - (intOf jv).toNat)
      case atStart => exact ⟨0, 0, 0, none, [], rfl, rfl, Nat.zero_le _, Nat.le_refl _, OutR.nil _ _, rfl, HB.out⟩
      case round =>
        clear HB wz
        obtain ⟨j, on, oc, oa, ps, rfl, rfl, hj, hon, hst⟩ := hrel
        by_cases hjq : j < q
        · obtain ⟨x, b, off, a', n', c', hxc, hxm, rfl, -, hb, hrow, hcell⟩ := (HX.out _ (Below.refl _ _)).row hjq
          obtain ⟨c, hcj, rfl⟩ : ∃ c, cols[j]? = some c ∧ colI c = x := by
            rw [List.getElem?_map] at hxc; exact Option.map_eq_some_iff.1 hxc
          have hnc : n' = n := by rw [hrow.len, colI, List.length_map]; exact HLEN.out c (List.mem_of_getElem? hcj)
          subst hnc
          have HCJ := Lib.hid hcj
          have hcx := cell_later hst.out.2.2 hcell
          obtain ⟨vi, b2, off2, hyi, -, rfl, -, -, hii, ci⟩ := hrow.int hin
          obtain ⟨vk, b2', off2', hyk, -, e2, -, -, hkk, ck⟩ := hrow.int hkn
          cases e2
          have hvi := colI_at hyi
          have hvk := colI_at hyk
          have HV := Lib.hid (And.intro hvi (And.intro hvk (And.intro hii hkk)))
          have HCC := Lib.hid (And.intro ci ck)
          obtain ⟨wo, rfl⟩ : ∃ wo : World, wo = wr := ⟨_, rfl⟩
          have HST := hst
          clear hst hcj hxc hxm hrow hcell hyi hyk hvi hvk hii hkk ci ck
          go_wp2
          clear hcx
          go_loopw [14, 61] (fun pv zv wr => ∃ (z : Int) (pa : Option Addr) (pn pc : Nat) (L : List Int), pv = .slice pa pn pc ∧ zv = .int .i64 z ∧ ((z = 0 ∧ Hid (pn = 0 ∧ L = [])) ∨ (z = 1 ∧ Hid (pn = 1 ∧ L = [vi])) ∨ (z = 2 ∧ Hid (pn = 2 ∧ L = [vi, vk]))) ∧ Hid (OwnQ 3 1 encI wr wo.heap.size pa pn pc L ∧ Below wo.heap.size wo wr)) (fun _ zv _ => 2 - (intOf zv).toNat)
          case atStart => exact ⟨0, none, 0, 0, [], rfl, rfl, .inl ⟨rfl, rfl, rfl⟩, OwnQ.nil _ _ _ _ _, Below.refl _ _⟩
          case round =>
            obtain ⟨z, pa, pn, pc, L, rfl, rfl, hz, hp⟩ := hrel
            have hbw : Below w.heap.size w wr := HST.out.2.2.trans (hp.out.2.mono HST.out.2.2.size)
            have c0 := cell_later hbw HK.out.1
            have c1 := cell_later hbw HK.out.2
            have ci := cell_later hbw HCC.out.1
            have ck := cell_later hbw HCC.out.2
            have HP := hp
            have hsz := hp.out.2.size
            clear hbw hp
            rcases hz with ⟨rfl, hL⟩ | ⟨rfl, hL⟩ | ⟨rfl, hL⟩
            · have HO := Lib.hid (HP.out.1.below ((Below.refl _ wr).alloc (Nat.le_refl _) (.cells #[.int .i64 vi] 3)))
              have HVV : Hid (∀ j u, (([vi] : List Int).flatMap encI)[j]? = some u → (wr.alloc (.cells #[.int .i64 vi] 3)).cell? ((⟨wr.heap.size, 0, none⟩ : Addr).add j) = some u) := fun j u hj => lit_cells (by exact hj)
              have hB9 : wo.heap.size ≤ (wr.alloc (.cells #[.int .i64 vi] 3)).heap.size := by simp; omega
              have hb9 : Below wo.heap.size wo (wr.alloc (.cells #[.int .i64 vi] 3)) := HP.out.2.alloc hsz _
              have hpn : pn ≤ 2 := by have := hL.out; omega
              go_wp2_with (at_builtin; refine wpList_appQ (w0 := wo) (l := L) (ys := [vi]) Tryz.infoInt Tryz.underlying27 rfl (by omega) (fun _ => rfl) (fun r v h => by rw [List.mem_singleton.1 h]; rfl) rfl _ _ rfl rfl rfl HO.out rfl HVV.out (by unfold maxLen; omega) (by omega) hB9 hb9 ?_; intro a5 c5 w5 ho5 hb5 hg5 hz5)
              have HEND := Lib.hid (And.intro ho5 hb5)
              clear ho5 hb5 hg5 hz5
              go_roundw
              case rel => exact ⟨1, a5, pn + 1, c5, L ++ [vi], rfl, by first | rfl | go_num, .inr (.inl ⟨rfl, by have := hL.out.1; omega, by rw [hL.out.2]; rfl⟩), HEND⟩
              case measure => simp [intOf]
            · have HO := Lib.hid (HP.out.1.below ((Below.refl _ wr).alloc (Nat.le_refl _) (.cells #[.int .i64 vk] 3)))
              have HVV : Hid (∀ j u, (([vk] : List Int).flatMap encI)[j]? = some u → (wr.alloc (.cells #[.int .i64 vk] 3)).cell? ((⟨wr.heap.size, 0, none⟩ : Addr).add j) = some u) := fun j u hj => lit_cells (by exact hj)
              have hB9 : wo.heap.size ≤ (wr.alloc (.cells #[.int .i64 vk] 3)).heap.size := by simp; omega
              have hb9 : Below wo.heap.size wo (wr.alloc (.cells #[.int .i64 vk] 3)) := HP.out.2.alloc hsz _
              have hpn : pn ≤ 2 := by have := hL.out; omega
              go_wp2_with (at_builtin; refine wpList_appQ (w0 := wo) (l := L) (ys := [vk]) Tryz.infoInt Tryz.underlying27 rfl (by omega) (fun _ => rfl) (fun r v h => by rw [List.mem_singleton.1 h]; rfl) rfl _ _ rfl rfl rfl HO.out rfl HVV.out (by unfold maxLen; omega) (by omega) hB9 hb9 ?_; intro a5 c5 w5 ho5 hb5 hg5 hz5)
              have HEND := Lib.hid (And.intro ho5 hb5)
              clear ho5 hb5 hg5 hz5
              go_roundw
              case rel => exact ⟨2, a5, pn + 1, c5, L ++ [vk], rfl, by first | rfl | go_num, .inr (.inr ⟨rfl, by have := hL.out.1; omega, by rw [hL.out.2]; rfl⟩), HEND⟩
              case measure => simp [intOf]
            · obtain ⟨hpn, hLL⟩ := hL.out
              have HLL := Lib.hid hLL
              have HPN := Lib.hid hpn
              have hnum : Nums (fun _ => True) wr pa pn pc L := HP.out.1.sq (R := rInt) (fun _ => rfl) (by omega) (fun _ _ => trivial) (fun x hx => ⟨rfl, by rw [hLL] at hx; simp at hx; rcases hx with rfl | rfl; exact HV.out.2.2.1; exact HV.out.2.2.2⟩)
              have HMX := Lib.hid (max_any _ pa pn pc L wr hnum (by omega))
              clear hL hpn hLL hnum c0 c1 ci ck
              have hjn : (prF i k (cols.take (j + 1))).length ≤ j + 1 := prF_len _ _ _ _
              by_cases hE : ∃ x ∈ L, 0 ≤ x
              · have hpr : prF i k (cols.take (j + 1)) = prF i k (cols.take j) ++ [L] := by
                  rw [HLL.out, HV.out.1, HV.out.2.1]
                  exact prF_yes HCJ.out (by rw [← HV.out.1, ← HV.out.2.1, ← HLL.out]; exact hE)
                have HPRF := Lib.hid hpr
                have HEE := Lib.hid hE
                have hst1 : Below wr.heap.size wr (wr.alloc (.cells #[.slice pa pn pc] 27)) := (Below.refl _ _).alloc (Nat.le_refl _) _
                have hst2 := HP.out.2.trans (hst1.mono hsz)
                have HOO := Lib.hid (HST.out.1.own.below hst2)
                have HVV : Hid (∀ j u, (([((pa, pn, pc) : Row)]).flatMap encR)[j]? = some u → (wr.alloc (.cells #[.slice pa pn pc] 27)).cell? ((⟨wr.heap.size, 0, none⟩ : Addr).add j) = some u) := fun j u hj => lit_cells (by exact hj)
                have hsw := HST.out.2.2.size
                have hB9 : w.heap.size ≤ (wr.alloc (.cells #[.slice pa pn pc] 27)).heap.size := by simp; omega
                have HH := Lib.hid (And.intro hst1 hst2)
                have hjb : on ≤ 1000 := by omega
                clear hpr hE hst1 hst2
                go_wp2_with (first | (go_at_call 26; refine HMX.out.mono ?_; rintro e w6 ⟨m, rfl, hm, rfl⟩; have hm1 : decide (0 ≤ m) = true := decide_eq_true (hm.2 HEE.out); clear hm) | (at_builtin; refine wpList_appQ (w0 := w) (l := ps.map (·.1)) (ys := [((pa, pn, pc) : Row)]) Tryz.infoInts Tryz.underlying31 rfl (by omega) (fun _ => rfl) (fun r v h => by rw [List.mem_singleton.1 h]; rfl) rfl _ _ rfl rfl rfl HOO.out rfl HVV.out (by unfold maxLen; omega) (by omega) hB9 (HST.out.2.2.trans (HH.out.2.mono hsw)) ?_; intro a5 c5 w5 ho5 hb5 hg5 hz5))
                have h6 := HST.out.1.app (r := (pa, pn, pc)) (L := L) hsw HH.out.2 (HP.out.1.below HH.out.1) ho5 hg5 hz5
                have HEND : Hid (OutR w5 w.heap.size a5 (on + 1) c5 (ps ++ [((pa, pn, pc), L)]) ∧ (ps ++ [((pa, pn, pc), L)] : List (Row × List Int)).map (fun p => p.2) = prF i k (cols.take (j + 1)) ∧ Below w.heap.size w w5) :=
                  ⟨h6, by rw [List.map_append, HST.out.2.1, HPRF.out]; rfl, hb5⟩
                clear ho5 hb5 hg5 hz5 h6
                go_roundw
                case rel => exact ⟨j + 1, on + 1, c5, a5, _, rfl, by first | rfl | go_num, by omega, by omega, HEND⟩
                case measure => simp [intOf]; omega
              · have hpr : prF i k (cols.take (j + 1)) = prF i k (cols.take j) :=
                  prF_no HCJ.out (by rw [← HV.out.1, ← HV.out.2.1, ← HLL.out]; exact hE)
                have HEE := Lib.hid hE
                have HEND : Hid (OutR wr w.heap.size oa on oc ps ∧ ps.map (fun p => p.2) = prF i k (cols.take (j + 1)) ∧ Below w.heap.size w wr) :=
                  ⟨HST.out.1.below HP.out.2, by rw [HST.out.2.1, hpr], HST.out.2.2.trans (HP.out.2.mono HST.out.2.2.size)⟩
                clear hpr hE
                go_wp2_with (go_at_call 26; refine HMX.out.mono ?_; rintro e w6 ⟨m, rfl, hm, rfl⟩; have hm1 : decide (0 ≤ m) = false := decide_eq_false (fun h => HEE.out (hm.1 h)); clear hm)
                go_roundw
                case rel => exact ⟨j + 1, on, oc, oa, ps, rfl, by first | rfl | go_num, by omega, by omega, HEND⟩
                case measure => simp [intOf]; omega
        · have hje : q = j := by omega
          subst hje
          have HST := hst
          clear hst
          go_wp2
          go_ret2
          refine ⟨oa, on, oc, rfl, ?_, HST.out.2.2⟩
          have h := HST.out.1.sq (Nat.le_refl _) (by omega) (fun p hp => by
            have hm : p.2 ∈ prF i k (cols.take q) := by rw [← HST.out.2.1]; exact List.mem_map.2 ⟨p, hp, rfl⟩
            obtain ⟨c, hc, e⟩ := List.mem_map.1 (List.mem_filter.1 hm).1
            have hcm : c ∈ cols := List.mem_of_mem_take hc
            refine ⟨by rw [← e]; simp, fun x hx => ?_⟩
            exact HI64.out p.2 (by rw [← e]; exact ⟨c, hcm, rfl⟩) x hx)
          rw [HST.out.2.1, HQL.out, List.take_length] at h
          exact h
end Go.Proofs.YtaelfjlmkgimhaaGreatDoor

set_option linter.unusedVariables false
set_option linter.unusedSimpArgs false
namespace Go.Proofs.YtaelfjlmkgimhaaGreatDoor
open Go.RowKit Go.Shelf

/-- A column's entries, while they are brought to their places. -/
def arrF (order : List Nat) (c : Cm) (k i : Nat) : Int := if order.idxOf i < k then toI (ent1 (order.idxOf i) c) else 0
theorem rowA_list (f : Nat → Int) (n : Nat) : rowA f n = (((List.range n).map f).map (Value.int .i64)).toArray := by
  unfold rowA; rw [List.map_map]; rfl
theorem arrF_step {order : List Nat} {c : Cm} {k o i n : Nat} (hn : order.Nodup) (hk : order[k]? = some o) (hall : ∀ i, i < n → i ∈ order) (hi : i < n) :
    (if i = o then toI (ent1 k c) else arrF order c k i) = arrF order c (k + 1) i := by
  obtain ⟨hkl, e⟩ := List.getElem?_eq_some_iff.1 hk
  have ho : order.idxOf o = k := by rw [← e]; exact hn.idxOf_getElem k hkl
  unfold arrF
  by_cases h : i = o
  · rw [if_pos h, h, ho, if_pos (by omega)]
  · rw [if_neg h]
    have hne : order.idxOf i ≠ k := fun h2 => h (by
      have := List.getElem_idxOf (List.idxOf_lt_length_iff.2 (hall i hi))
      rw [← this, ← e]; congr 1)
    by_cases h3 : order.idxOf i < k
    · rw [if_pos h3, if_pos (by omega)]
    · rw [if_neg h3, if_neg (by omega)]
theorem arrF_all {order : List Nat} {c : Cm} {n : Nat} (hol : order.length = n) (hall : ∀ i, i < n → i ∈ order) : (List.range n).map (arrF order c n) = colI (arr n order c) := by
  unfold colI arr
  rw [List.map_map]
  refine List.map_congr_left fun i hi => ?_
  have := List.idxOf_lt_length_iff.2 (hall i (List.mem_range.1 hi))
  show arrF order c n i = _
  unfold arrF
  rw [if_pos (by omega)]; rfl
set_option maxRecDepth 100000 in
set_option maxHeartbeats 8000000 in
theorem arranged_any (S S2 : Nat → Prop) (xa oo : Option Addr) (q xc n oc0 : Nat) (cols : List Cm) (order : List Nat) (w : World) (hx : Numss S w xa q xc (cols.map colI)) (ho : Nums S2 w oo n oc0 (natI order)) (hlen : ∀ c ∈ cols, c.length = n)
    (hnd : order.Nodup) (hol : order.length = n) (hlt : ∀ x ∈ order, x < n) (hqb : q ≤ 1000) (hnb : n ≤ 32) :
    Calls Tryz.prog 24 #[.slice xa q xc, .slice oo n oc0] w fun e w' => ∃ a' n' c', e = .returned (.slice a' n' c') ∧ Numss (fun b => w.heap.size ≤ b) w' a' n' c' ((cols.map (arr n order)).map colI) ∧ Below w.heap.size w w' := by
  have HALL : Hid (∀ i, i < n → i ∈ order) := fun i hi => full_of_nodup hnd hlt hol i hi
  have HQL : Hid (q = cols.length) := by have := hx.len; rwa [List.length_map] at this
  have HX := Lib.hid hx
  have HO := Lib.hid ho
  have HLEN := Lib.hid hlen
  have HND := Lib.hid hnd
  have HOL := Lib.hid hol
  have HLT := Lib.hid hlt
  have HI64 : Hid (∀ c ∈ cols, ∀ x ∈ colI (arr n order c), I64 x) := fun c hc x hx' => by
    obtain ⟨o, ho', rfl⟩ := List.mem_map.1 hx'
    obtain ⟨i, hi, rfl⟩ := List.mem_map.1 ho'
    have hil := List.idxOf_lt_length_iff.2 (full_of_nodup hnd hlt hol i (List.mem_range.1 hi))
    refine numss_i64' hx (colI c) (List.mem_map.2 ⟨c, hc, rfl⟩) _ (List.mem_map.2 ⟨ent1 (order.idxOf i) c, ?_, rfl⟩)
    unfold ent1
    rw [List.getElem?_eq_getElem (by rw [hlen c hc]; omega)]
    exact List.getElem_mem _
  obtain ⟨i0, hi, hz0, hz1, hz2⟩ := info_parts Tryz.infoInt
  clear hx ho hlen hnd hol hlt
  go_enter Tryz.func24, Tryz.ntmps24
  go_wp2
  go_loopw [5, 13] (fun ov jv wr => ∃ (j on oc : Nat) (oa : Option Addr) (ps : List (Row × List Int)), ov = .slice oa on oc ∧ jv = .int .i64 (j : Int) ∧ j ≤ q ∧ on = j ∧ Hid (OutR wr w.heap.size oa on oc ps ∧ ps.map (fun p => p.2) = ((cols.take j).map (arr n order)).map colI ∧ Below w.heap.size w wr)) (fun _ jv _ => q - (intOf jv).toNat)
  case atStart => exact ⟨0, 0, 0, none, [], rfl, rfl, Nat.zero_le _, rfl, OutR.nil _ _, rfl, Below.refl _ _⟩
  case round =>
    obtain ⟨j, on, oc, oa, ps, rfl, rfl, hj, honj, hst⟩ := hrel
    have HON := Lib.hid honj
    have honb : on ≤ 1000 := by omega
    clear honj
    by_cases hjq : j < q
    · obtain ⟨x, b, off, a', n', c', hxc, hxm, rfl, -, hb, hrow, hcell⟩ := HX.out.row hjq
      obtain ⟨c, hcj, rfl⟩ : ∃ c, cols[j]? = some c ∧ colI c = x := by
        rw [List.getElem?_map] at hxc; exact Option.map_eq_some_iff.1 hxc
      have hnc : n' = n := by rw [hrow.len, colI, List.length_map]; exact HLEN.out c (List.mem_of_getElem? hcj)
      subst hnc
      have HCJ := Lib.hid hcj
      have HROW := Lib.hid hrow
      have hcx := cell_later hst.out.2.2 hcell
      obtain ⟨wo, rfl⟩ : ∃ wo : World, wo = wr := ⟨_, rfl⟩
      have HST := hst
      clear hst hcj hxc hxm hrow hcell
      go_wp2_with (at_make; refine wpList_make_full _ rfl _ _ 27 rfl wo.heap.size 3 i0 (.int .i64 0) 1 Tryz.underlying27 hi hz0 hz1 .i64 .i64 n' n' n' rfl rfl rfl rfl (by rw [hz2]; omega) (by unfold maxLen; omega) (Nat.le_refl _) ?_; intro w2 hrow hg; have FG := made_row hrow; have hB2 : Below wo.heap.size wo w2 := (Below.refl _ wo).grown hg (Nat.le_refl _) (by simp); clear hrow hg)
      have HS2 : Hid (w2.heap[wo.heap.size]? = some (.cells (rowA (arrF order c 0) n') 3 (0, 0)) ∧ Below wo.heap.size wo w2) := ⟨by rw [FG]; congr 2, hB2⟩
      clear FG hB2 hcx
      go_loopw [22] (fun kv wr => ∃ k : Nat, kv = .int .i64 (k : Int) ∧ k ≤ n' ∧ Hid (wr.heap[wo.heap.size]? = some (.cells (rowA (arrF order c k) n') 3 (0, 0)) ∧ Below wo.heap.size wo wr)) (fun kv _ => n' - (intOf kv).toNat)
      case atStart => exact ⟨0, rfl, Nat.zero_le _, HS2⟩
      case round =>
        clear HS2 w2
        obtain ⟨k, rfl, hk, hp⟩ := hrel
        have hbw : Below w.heap.size w wr := HST.out.2.2.trans (hp.out.2.mono HST.out.2.2.size)
        by_cases hkn : k < n'
        · obtain ⟨y, b2, off2, hy, -, rfl, -, hb2, -, hc2⟩ := HROW.out.int hkn
          obtain ⟨z, b3, off3, hz, -, rfl, -, hb3, -, hc3⟩ := HO.out.int hkn
          have hye := colI_at hy
          obtain ⟨o, hok, rfl⟩ : ∃ o, order[k]? = some o ∧ (o : Int) = z := by
            unfold natI at hz; rw [List.getElem?_map] at hz; exact Option.map_eq_some_iff.1 hz
          have hon' : o < n' := HLT.out o (List.mem_of_getElem? hok)
          replace hc2 := cell_later hbw hc2
          replace hc3 := cell_later hbw hc3
          have hcg : wr.cell? ⟨wo.heap.size, o, none⟩ = some (.int .i64 (arrF order c k o)) := by rw [cell_row hp.out.1, rowA_get hon']
          have hfg : wr.frozen? ⟨wo.heap.size, o, none⟩ = false := by simp [World.frozen?, hp.out.1]
          have HEND : Hid ((wr.setCell ⟨wo.heap.size, o, none⟩ (.int .i64 y)).heap[wo.heap.size]? = some (.cells (rowA (arrF order c (k + 1)) n') 3 (0, 0)) ∧ Below wo.heap.size wo (wr.setCell ⟨wo.heap.size, o, none⟩ (.int .i64 y))) := by
            refine ⟨?_, below_setc hp.out.2 (Nat.le_refl _) _ _⟩
            rw [heap_setCell_self hp.out.1, rowA_set, hye]
            congr 2
            exact rowA_congr fun i hi => arrF_step HND.out hok HALL.out hi
          clear hp hbw hye hok hy hz
          go_wp2
          go_roundw
          case rel => exact ⟨k + 1, by first | rfl | go_num, by omega, HEND⟩
          case measure => simp [intOf]; omega
        · have hke : k = n' := by omega
          subst hke
          have hcol0 : OwnQ 3 1 encI wr wo.heap.size (some ⟨wo.heap.size, 0, none⟩) k k (colI (arr k order c)) :=
            ownq_of (by rw [hp.out.1, rowA_list, arrF_all HOL.out HALL.out]) (Nat.le_refl _) (by simp [colI, arr]) (by omega)
          have HP := Lib.hid (And.intro hcol0 hp.out.2)
          have hst1 : Below wr.heap.size wr (wr.alloc (.cells #[.slice (some ⟨wo.heap.size, 0, none⟩) k k] 27)) := (Below.refl _ _).alloc (Nat.le_refl _) _
          have hst2 := HP.out.2.trans (hst1.mono HP.out.2.size)
          have HOO := Lib.hid (HST.out.1.own.below hst2)
          have HVV : Hid (∀ j u, (([((some ⟨wo.heap.size, 0, none⟩, k, k) : Row)]).flatMap encR)[j]? = some u → (wr.alloc (.cells #[.slice (some ⟨wo.heap.size, 0, none⟩) k k] 27)).cell? ((⟨wr.heap.size, 0, none⟩ : Addr).add j) = some u) := fun j u hj => lit_cells (by exact hj)
          have hsw := HST.out.2.2.size
          have hB9 : w.heap.size ≤ (wr.alloc (.cells #[.slice (some ⟨wo.heap.size, 0, none⟩) k k] 27)).heap.size := Nat.le_trans hsw hst2.size
          have HH := Lib.hid (And.intro hst1 hst2)
          clear hst1 hst2 hcol0 hp hbw
          go_wp2_with (at_builtin; refine wpList_appQ (w0 := w) (l := ps.map (·.1)) (ys := [((some ⟨wo.heap.size, 0, none⟩, k, k) : Row)]) Tryz.infoInts Tryz.underlying31 rfl (by omega) (fun _ => rfl) (fun r v h => by rw [List.mem_singleton.1 h]; rfl) rfl _ _ rfl rfl rfl HOO.out rfl HVV.out (by unfold maxLen; omega) (by omega) hB9 (HST.out.2.2.trans (HH.out.2.mono hsw)) ?_; intro a5 c5 w5 ho5 hb5 hg5 hz5)
          have h6 := HST.out.1.app (r := (some ⟨wo.heap.size, 0, none⟩, k, k)) (L := colI (arr k order c)) hsw HH.out.2 (HP.out.1.below HH.out.1) ho5 hg5 hz5
          have HEND : Hid (OutR w5 w.heap.size a5 (on + 1) c5 (ps ++ [((some ⟨wo.heap.size, 0, none⟩, k, k), colI (arr k order c))]) ∧ (ps ++ [((some ⟨wo.heap.size, 0, none⟩, k, k), colI (arr k order c))] : List (Row × List Int)).map (fun p => p.2) = ((cols.take (j + 1)).map (arr k order)).map colI ∧ Below w.heap.size w w5) :=
            ⟨h6, by rw [List.map_append, HST.out.2.1, List.take_add_one, HCJ.out, List.map_append, List.map_append]; rfl, hb5⟩
          clear ho5 hb5 hg5 hz5 h6
          go_roundw
          case rel => exact ⟨j + 1, on + 1, c5, a5, _, rfl, by first | rfl | go_num, by omega, by have := HON.out; omega, HEND⟩
          case measure => simp [intOf]; omega
    · have hje : q = j := by omega
      subst hje
      have HST := hst
      clear hst
      go_wp2
      go_ret
      refine ⟨oa, on, oc, rfl, ?_, HST.out.2.2⟩
      have h := HST.out.1.sq (Nat.le_refl _) (by omega) (fun p hp => by
        have hm : p.2 ∈ ((cols.take q).map (arr n order)).map colI := by rw [← HST.out.2.1]; exact List.mem_map.2 ⟨p, hp, rfl⟩
        obtain ⟨z, hz, e⟩ := List.mem_map.1 hm
        obtain ⟨c, hc, rfl⟩ := List.mem_map.1 hz
        have hcm : c ∈ cols := List.mem_of_mem_take hc
        refine ⟨by rw [← e]; simp [colI, arr]; omega, fun x hx => ?_⟩
        rw [← e] at hx
        exact HI64.out c hcm x hx)
      rw [HST.out.2.1, HQL.out, List.take_length] at h
      exact h
end Go.Proofs.YtaelfjlmkgimhaaGreatDoor

set_option linter.unusedVariables false
set_option linter.unusedSimpArgs false
namespace Go.Proofs.YtaelfjlmkgimhaaGreatDoor
open Go.RowKit

theorem ordN_ok (D : Nat → Nat → Nat) {n : Nat} (h : n = 2 ∨ n = 3) : (ordN D n).Nodup ∧ (ordN D n).length = n ∧ (∀ x ∈ ordN D n, x < n) := by
  obtain ⟨h1, h2⟩ := stO_ok (D := D) (n := n) (by omega) n
  unfold ordN
  generalize (stO D n n).1 = f at *
  generalize (stO D n n).2 = s at *
  rcases h with rfl | rfl
  · rw [if_neg (by decide)]
    refine ⟨by simp; omega, rfl, fun x hx => ?_⟩
    simp at hx; omega
  · rw [if_pos rfl]
    refine ⟨by simp; omega, rfl, fun x hx => ?_⟩
    simp at hx; omega
theorem ordF_ok {c : Cst} {l : List (List Tok)} (h : l.length = 2 ∨ l.length = 3) : (ordF c l).Nodup ∧ (ordF c l).length = l.length ∧ ∀ x ∈ ordF c l, x < l.length := ordN_ok _ h
/-- The sources that are taken already; the next one. -/
def tkn (l : List (List Tok)) (order : List Nat) (j : Nat) : List (List Tok) := (order.take j).map (srcAt l)
def nxt (l : List (List Tok)) (order : List Nat) (j : Nat) : List Tok := srcAt l ((order[j]?).getD 0)
def lnA (l : List (List Tok)) (order : List Nat) (j : Nat) : Nat := ((l.map List.length)[(order[j]?).getD 0]?).getD 0
def PqA (c : Cst) (l : List (List Tok)) (order : List Nat) (j : Nat) : Cm → Nat → Nat := pB c (tkn l order j) (nxt l order j)
def GqA (c : Cst) (l : List (List Tok)) (order : List Nat) (j : Nat) : Cm → Nat := gB c (tkn l order j) (nxt l order j)
def FqA (c : Cst) (l : List (List Tok)) (order : List Nat) (j : Nat) : Nat → Nat := fB c (tkn l order j) (nxt l order j)
def colsA (c : Cst) (l : List (List Tok)) (order : List Nat) (j : Nat) : List Cm := colsF (PqA c l order) (GqA c l order) (FqA c l order) (lnA l order) j
theorem lnA_eq (l : List (List Tok)) (order : List Nat) (j : Nat) : lnA l order j = (nxt l order j).length := by
  unfold lnA nxt srcAt
  rw [List.getElem?_map]
  cases l[(order[j]?).getD 0]? <;> rfl
theorem tkn_len {l : List (List Tok)} {order : List Nat} {j : Nat} (h : j ≤ order.length) : (tkn l order j).length = j := by
  unfold tkn; rw [List.length_map, List.length_take]; omega
theorem tkn_succ {l : List (List Tok)} {order : List Nat} {j i : Nat} (h : order[j]? = some i) : tkn l order (j + 1) = tkn l order j ++ [srcAt l i] := by
  unfold tkn; rw [List.take_add_one, h, List.map_append]; rfl
theorem nxt_eq {l : List (List Tok)} {order : List Nat} {j i : Nat} (h : order[j]? = some i) : nxt l order j = srcAt l i := by unfold nxt; rw [h]; rfl
theorem srcAt_mem {l : List (List Tok)} {i : Nat} (h : i < l.length) : srcAt l i ∈ l := by unfold srcAt; rw [List.getElem?_eq_getElem h]; exact List.getElem_mem _
theorem srcAt_get {l : List (List Tok)} {i : Nat} (h : i < l.length) : l[i]? = some (srcAt l i) := by unfold srcAt; rw [List.getElem?_eq_getElem h]; rfl
theorem colsA_succ {c : Cst} {l : List (List Tok)} {order : List Nat} {j : Nat} (h : j ≤ order.length) :
    colsA c l order (j + 1) = addC (pB c (tkn l order j) (nxt l order j)) (gB c (tkn l order j) (nxt l order j)) (fB c (tkn l order j) (nxt l order j)) (tkn l order j).length (colsA c l order j) (nxt l order j).length := by
  rw [tkn_len h, ← lnA_eq]; rfl
theorem fil2_len {α β : Type} : ∀ l : List (Cln α β), (∀ x ∈ l, x ≠ (none, none)) → l.length ≤ (l.filterMap (·.1)).length + (l.filterMap (·.2)).length
  | [], _ => by simp
  | (a, b) :: l, h => by
    have ih : l.length ≤ (l.filterMap Prod.fst).length + (l.filterMap Prod.snd).length := fil2_len l (fun y hy => h y (List.mem_cons_of_mem _ hy))
    show ((a, b) :: l).length ≤ (((a, b) :: l).filterMap Prod.fst).length + (((a, b) :: l).filterMap Prod.snd).length
    have h0 := h (a, b) List.mem_cons_self
    cases a with
    | some x => rw [List.filterMap_cons_some (f := Prod.fst) (b := x) rfl]; cases b with
      | some y => rw [List.filterMap_cons_some (f := Prod.snd) (b := y) rfl]; simp only [List.length_cons]; omega
      | none => rw [List.filterMap_cons_none (f := Prod.snd) rfl]; simp only [List.length_cons]; omega
    | none => cases b with
      | some y => rw [List.filterMap_cons_none (f := Prod.fst) rfl, List.filterMap_cons_some (f := Prod.snd) (b := y) rfl]; simp only [List.length_cons]; omega
      | none => exact absurd rfl h0
theorem colsA_len {c : Cst} {l : List (List Tok)} {order : List Nat} (hv : VdL l) : ∀ j, (colsA c l order j).length ≤ 16 * j
  | 0 => Nat.le_refl _
  | j + 1 => by
    have ih := colsA_len (c := c) (order := order) hv j
    obtain ⟨w1, w2, w3, -⟩ := way_ok (PqA c l order j) (GqA c l order j) (FqA c l order j) _ (colsA c l order j) (List.range (lnA l order j)) (Nat.le_refl _)
    have hl := fil2_len _ w3
    rw [w1, w2, List.length_range] at hl
    have h16 : lnA l order j ≤ 16 := by
      unfold lnA
      rw [List.getElem?_map]
      cases hg : l[(order[j]?).getD 0]? with
      | none => exact Nat.zero_le _
      | some t => exact hv.len t (List.mem_of_getElem? hg)
    have e : (colsA c l order (j + 1)).length = (way (PqA c l order j) (GqA c l order j) (FqA c l order j) (colsA c l order j) (List.range (lnA l order j))).length := by
      unfold colsA; rw [colsF, addC, List.length_map]
    omega
theorem colsA_vcol {c : Cst} {l : List (List Tok)} {order : List Nat} {j : Nat} (hj : j ≤ order.length) : ∀ col ∈ colsA c l order j, VCol (tkn l order j) col := fun col hcol => by
  have h := colsF_vc (PqA c l order) (GqA c l order) (FqA c l order) (lnA l order) j
  have hl := h.len col hcol
  rw [List.length_map, List.length_range] at hl
  refine ⟨by rw [tkn_len hj]; exact hl, fun s i hs => ?_⟩
  have hsl : s < j := by
    rw [← hl]
    unfold ent1 at hs
    cases hg : col[s]? with
    | none => rw [hg] at hs; cases hs
    | some o => exact (List.getElem?_eq_some_iff.1 hg).1
  have ha := h.all s (lnA l order s) (by rw [List.getElem?_map, List.getElem?_range hsl]; rfl)
  have hm : i ∈ List.range (lnA l order s) := by rw [← ha]; exact List.mem_filterMap.2 ⟨col, hcol, hs⟩
  have e : srcAt (tkn l order j) s = nxt l order s := by
    unfold srcAt tkn nxt
    rw [List.getElem?_map, List.getElem?_take, if_pos hsl]
    rw [List.getElem?_eq_getElem (by omega)]; rfl
  rw [e, ← lnA_eq]
  exact List.mem_range.1 hm
theorem vda_at {c : Cst} {l : List (List Tok)} {order : List Nat} {j i : Nat} (hv : VdL l) (hc : c.ok) (hlt : ∀ x ∈ order, x < l.length) (hol : order.length ≤ 3) (hi : order[j]? = some i) : VdA c (tkn l order j) (nxt l order j) (colsA c l order j) := by
  have hj := (List.getElem?_eq_some_iff.1 hi).1
  have hil := hlt i (List.mem_of_getElem? hi)
  have hm : ∀ t ∈ tkn l order j, t ∈ l := fun t ht => by
    obtain ⟨x, hx, rfl⟩ := List.mem_map.1 ht
    exact srcAt_mem (hlt x (List.mem_of_mem_take hx))
  refine ⟨⟨by rw [tkn_len (by omega)]; omega, fun t ht => hv.len t (hm t ht), fun t ht => hv.err t (hm t ht)⟩, fun x hx => ?_, colsA_vcol (by omega), hc⟩
  rw [nxt_eq hi] at hx
  exact hv.err _ (srcAt_mem hil) x hx
/-- A slice of rows that lie elsewhere. -/
theorem rows_sq {S : Nat → Prop} {w : World} {e1 B1 n cap : Nat} {a : Option Addr} {ps : List (Row × List Tok)} (ho : OwnQ e1 1 encR w B1 a n cap (ps.map (·.1))) (hn : n * 24 ≤ 140737488355328) (hS1 : ∀ x, a = some x → S x.block)
    (hl : ∀ p ∈ ps, Toks S w p.1.1 p.1.2.1 p.1.2.2 p.2) : Tokss S w a n cap (ps.map (·.2)) := by
  refine ⟨by rw [ho.len]; simp, ho.cap_le, hn, fun j x hj => ?_⟩
  rw [List.getElem?_map] at hj
  obtain ⟨p, hp, rfl⟩ := Option.map_eq_some_iff.1 hj
  obtain ⟨r, g, h1, h2, rfl, h3, h4, -, h5⟩ := ho.at_ (j := j) (fun _ => rfl) (by rw [ho.len, List.length_map]; exact (List.getElem?_eq_some_iff.1 hp).1)
  rw [List.getElem?_map, hp] at h1
  cases h1
  exact ⟨g, 0, encR p.1, rfl, hS1 _ rfl, h4, rfl, by rw [Nat.zero_add]; exact h5, p.1.1, p.1.2.1, p.1.2.2, rfl, hl p (List.mem_of_getElem? hp)⟩
theorem Tryz.infoTs : (Tryz.prog.info? 37).map (fun i => (i.zero, i.size, i.bytes)) = some (some (.slice none 0 0), 1, 24) := by kernel_rfl
end Go.Proofs.YtaelfjlmkgimhaaGreatDoor

set_option linter.unusedVariables false
set_option linter.unusedSimpArgs false
namespace Go.Proofs.YtaelfjlmkgimhaaGreatDoor
open Go.RowKit Go.Shelf

set_option maxRecDepth 100000 in
set_option maxHeartbeats 8000000 in
theorem align_any (S : Nat → Prop) (c : Cst) (a : Option Addr) (n cp : Nat) (l : List (List Tok)) (w : World) (h : Tokss S w a n cp l) (hv : VdL l) (hc : c.ok) (h2 : n = 2 ∨ n = 3) (hE : Env w) :
    Calls Tryz.prog 7 #[c.val, .slice a n cp] w fun e w' => ∃ a' n' c', e = .returned (.tuple #[.slice a' n' c', .int .i64 0]) ∧ Numss (fun b => w.heap.size ≤ b) w' a' n' c' (((colsA c l (ordF c l) n).map (arr n (ordF c l))).map colI) ∧ Below w.heap.size w w' := by
  replace h : Tokss (fun b => b < w.heap.size) w a n cp l := h.mono (rSl_ok rTok_ok) (fun b _ hb => hb)
  have hnl := h.len
  obtain ⟨hnd, hol, hlt⟩ := ordF_ok (c := c) (l := l) (by omega)
  rw [← hnl] at hol hlt
  have hb0 : Below w.heap.size w (w.alloc (.cells c.arr 23)) := (Below.refl _ _).alloc (Nat.le_refl _) _
  have HCK := Lib.hid (fun W (hW : Below w.heap.size w W) => prcheck_any (fun b => b < w.heap.size) c a n cp l W (h.below (rSl_ok rTok_ok) hW) hv hc (hE.below hW))
  have HOR := Lib.hid (fun W (hW : Below w.heap.size w W) => order_any (fun b => b < w.heap.size) c a n cp l W (h.below (rSl_ok rTok_ok) hW) hv hc h2 (hE.below hW))
  have hX := World.alloc_heap_new w (.cells c.arr 23)
  have hsA : (w.alloc (.cells c.arr 23)).heap.size = w.heap.size + 1 := by simp
  generalize hord : ordF c l = O at *
  have HAD := Lib.hid (fun (W : World) (hW : Below w.heap.size w W) (S1 S2 S3 : Nat → Prop) (la xa ta : Option Addr) (lp xn xp tn tp j i : Nat) (hi : O[j]? = some i) (hl : Tokss S1 W la j lp (tkn l O j)) (hx : Numss S2 W xa xn xp ((colsA c l O j).map colI)) (ht : Toks S3 W ta tn tp (srcAt l i)) =>
    add_any S1 S2 S3 c la xa ta j lp xn xp tn tp (tkn l O j) (nxt l O j) (colsA c l O j) W hl hx (by rw [nxt_eq hi]; exact ht) (vda_at hv hc (fun x hx => by have := hlt x hx; omega) (by omega) hi)
      (by have h3 := colsA_len (c := c) (order := O) hv j; have := (List.getElem?_eq_some_iff.1 hi).1; omega) (by rw [nxt_eq hi]; exact hv.len _ (srcAt_mem (by have := hlt i (List.mem_of_getElem? hi); omega))) (hE.below hW))
  have HCL : Hid (∀ j, (colsA c l O j).length ≤ 16 * j) := fun j => colsA_len hv j
  have HCN : Hid (∀ col ∈ colsA c l O n, col.length = n) := fun col hm => by
    have := (colsF_vc (PqA c l O) (GqA c l O) (FqA c l O) (lnA l O) n).len col hm
    rwa [List.length_map, List.length_range] at this
  have HSUC : Hid (∀ j, j ≤ n → colsA c l O (j + 1) = addC (pB c (tkn l O j) (nxt l O j)) (gB c (tkn l O j) (nxt l O j)) (fB c (tkn l O j) (nxt l O j)) (tkn l O j).length (colsA c l O j) (nxt l O j).length) := fun j hj => colsA_succ (by omega)
  have HH := Lib.hid h
  have HNL := Lib.hid hnl
  have HND := Lib.hid hnd
  have HOL := Lib.hid hol
  have HLT := Lib.hid hlt
  have hn3 : n ≤ 3 := by omega
  have hn0 : 0 < n := by omega
  clear h hv hc h2 hE hnl hnd hol hlt hord
  obtain ⟨cg, cn, cl, cm⟩ := c
  dsimp only [Cst.val, Cst.arr] at HCK HOR HAD hb0 hX hsA ⊢
  generalize hWA : w.alloc (.cells #[.int .i64 cg, .int .i64 cn, .int .i64 cl, .int .i64 cm] 23) = WA at *
  have HB0 := Lib.hid hb0
  have HX := Lib.hid hX
  have HSA := Lib.hid hsA
  obtain ⟨k0, k1, k2, k3, -⟩ := box_cells4 hX
  clear hb0 hX hsA
  go_enter Tryz.func7, Tryz.ntmps7
  go_wp2_with (first | (go_at_call 21; refine (HCK.out _ HB0.out).mono ?_; rintro e w1 ⟨rfl, hb1⟩; obtain ⟨k0, k1, k2, k3, -⟩ := box_cells4 ((hb1.block w.heap.size (by have := HSA.out; omega)).trans HX.out); have HB1 := Lib.hid (HB0.out.trans (hb1.mono HB0.out.size)); have HX1 := Lib.hid ((hb1.block w.heap.size (by have := HSA.out; omega)).trans HX.out); clear hb1) | (go_at_call 22; refine (HOR.out _ HB1.out).mono ?_; rintro e w2 ⟨oo, oc, rfl, hN, hb2⟩; have HB2 := Lib.hid (HB1.out.trans (hb2.mono HB1.out.size)); have HN := Lib.hid hN; have HX2 := Lib.hid ((hb2.block w.heap.size (Array.getElem?_eq_some_iff.1 HX1.out).1).trans HX1.out); clear hb2 hN))
  clear k0 k1 k2 k3
  have hst0 : Hid (Numss (fun _ => True) w2 none 0 0 ((colsA ⟨cg, cn, cl, cm⟩ l O 0).map colI) ∧ (∃ ps : List (Row × List Tok), OwnQ 37 1 encR w2 w2.heap.size none 0 0 (ps.map (fun p => p.1)) ∧ ps.map (fun p => p.2) = tkn l O 0 ∧ ∀ p ∈ ps, Toks (fun b => b < w.heap.size) w2 p.1.1 p.1.2.1 p.1.2.2 p.2) ∧ Below w2.heap.size w2 w2) :=
    ⟨⟨rfl, Nat.le_refl _, by omega, fun j x h => by simp [colsA, colsF] at h⟩, ⟨[], OwnQ.nil _ _ _ _ _, rfl, by simp⟩, Below.refl _ _⟩
  go_loopw [8, 9, 10, 30] (fun ev cv tv jv wr => ∃ (j cn' cc tc : Nat) (ca ta : Option Addr), ev = .int .i64 0 ∧ cv = .slice ca cn' cc ∧ tv = .slice ta j tc ∧ jv = .int .i64 (j : Int) ∧ j ≤ n ∧ Hid (Numss (fun _ => True) wr ca cn' cc ((colsA ⟨cg, cn, cl, cm⟩ l O j).map colI) ∧ (∃ ps : List (Row × List Tok), OwnQ 37 1 encR wr w2.heap.size ta j tc (ps.map (fun p => p.1)) ∧ ps.map (fun p => p.2) = tkn l O j ∧ ∀ p ∈ ps, Toks (fun b => b < w.heap.size) wr p.1.1 p.1.2.1 p.1.2.2 p.2) ∧ Below w2.heap.size w2 wr)) (fun _ _ _ jv _ => n - (intOf jv).toNat)
  case atStart => exact ⟨0, 0, 0, 0, none, none, rfl, rfl, rfl, rfl, Nat.zero_le _, hst0⟩
  case round =>
    clear hst0
    obtain ⟨j, cn', cc, tc, ca, ta, rfl, rfl, rfl, rfl, hj, hst⟩ := hrel
    by_cases hjn : j < n
    · obtain ⟨hnum, ⟨ps, hown, hps, htk⟩, hbw⟩ := hst.out
      have hbw0 := HB2.out.trans (hbw.mono HB2.out.size)
      obtain ⟨z, bO, oO, hz, -, hoe, -, -, -, hcz⟩ := HN.out.int hjn
      subst hoe
      obtain ⟨i, hoi, rfl⟩ : ∃ i, O[j]? = some i ∧ (i : Int) = z := by
        unfold natI at hz; rw [List.getElem?_map] at hz; exact Option.map_eq_some_iff.1 hz
      have hin : i < n := HLT.out i (List.mem_of_getElem? hoi)
      obtain ⟨x, bA, oA, ra, rn, rc, hx, -, hae, -, -, hrow, hcr⟩ := HH.out.row hin
      subst hae
      have hxe : x = srcAt l i := by unfold srcAt; rw [hx]; rfl
      subst hxe
      have c0 := cell_later hbw hcz
      have c1 := cell_later hbw0 hcr
      have hbox := (hbw.block _ (Array.getElem?_eq_some_iff.1 HX2.out).1).trans HX2.out
      obtain ⟨k0, k1, k2, k3, -⟩ := box_cells4 hbox
      have hlr : Tokss (fun _ => True) wr ta j tc (tkn l O j) := by
        rw [← hps]
        exact rows_sq hown (by omega) (fun _ _ => trivial) (fun p hp => (htk p hp).mono rTok_ok (fun _ _ _ => trivial))
      have hrow1 := hrow.below rTok_ok hbw0
      have HST := Lib.hid (And.intro hnum (And.intro hown (And.intro hps (And.intro htk hbw))))
      have HR1 := Lib.hid (And.intro hlr hrow1)
      have HOI := Lib.hid hoi
      have HW0 := Lib.hid hbw0
      have HROW := Lib.hid hrow
      have HSZ2 := Lib.hid hbw.size
      clear hst hnum hown hps htk hbw hbw0 hz hcz hx hrow hcr hoi hlr hrow1 hbox
      go_wp2_with fail
      obtain ⟨X, Wf, hX, hS1, hS2⟩ := family (fun V => Below wr.heap.size wr V) wr (Below.refl _ _)
      have HS2 := Lib.hid hS2
      have q_k0 := fun x => cell_later (hS1 x) k0
      have q_k1 := fun x => cell_later (hS1 x) k1
      have q_k2 := fun x => cell_later (hS1 x) k2
      have q_k3 := fun x => cell_later (hS1 x) k3
      have q_c1 := fun x => cell_later (hS1 x) c1
      clear hS1 hS2
      have hd0 : Below wr.heap.size wr wr.drew := (Below.refl _ _).drew
      refine wp_region_treAN (Wf := Wf) 12 (.read 0 (.read 1 (.read 2 (.read 3 (.read 4 (.read 5 (.read 6 (.act 7 (.read 8 (.read 9 (.read 10 (.act 11 .fin)))))))))))) (by kernel_rfl) (by kernel_rfl) (HS2.out _ hd0) ?_
      refine wpTreA_read _ rfl (fun K hK => ?_); unfold rOp; go_simp; (refine hK _ ?_; clear hK K)
      refine wpTreA_read _ rfl (fun K hK => ?_); unfold rOp; go_simp; (refine hK _ ?_; clear hK K)
      refine wpTreA_read _ rfl (fun K hK => ?_); unfold rOp; go_simp; (refine hK _ ?_; clear hK K)
      refine wpTreA_read _ rfl (fun K hK => ?_); unfold rOp; go_simp; (refine hK _ ?_; clear hK K)
      refine wpTreA_read _ rfl (fun K hK => ?_); unfold rOp; go_simp; (refine hK _ ?_; clear hK K)
      refine wpTreA_read _ rfl (fun K hK => ?_); unfold rOp; go_simp; (refine hK _ ?_; clear hK K)
      refine wpTreA_read _ rfl (fun K hK => ?_); unfold rOp; go_simp; (refine hK _ ?_; clear hK K)
      clear q_k0 q_k1 q_k2 q_k3 q_c1 k0 k1 k2 k3 c0
      refine wpTreA_act _ rfl ?_
      have HCALL := Lib.hid (HAD.out wr.drew HW0.out.drew (fun _ => True) (fun _ => True) (fun b => b < w.heap.size) ta ca ra tc cn' cc rn rc j i HOI.out (HR1.out.1.below (rSl_ok rTok_ok) hd0) (HST.out.1.below (rSl_ok rInt_ok) hd0) (HR1.out.2.below rTok_ok hd0))
      go_wp2_with fail
      refine HCALL.out.mono ?_
      rintro e w5 ⟨a5, n5, c5, rfl, hnum5, hb5⟩
      have hd5 : Below wr.heap.size wr w5 := hd0.trans hb5
      go_wp2_with fail
      refine ⟨HS2.out _ hd5, ?_⟩
      refine wpTreA_read _ rfl (fun K hK => ?_); unfold rOp; go_simp; (refine hK _ ?_; clear hK K)
      refine wpTreA_read _ rfl (fun K hK => ?_); unfold rOp; go_simp; (refine hK _ ?_; clear hK K)
      refine wpTreA_read _ rfl (fun K hK => ?_); unfold rOp; go_simp; (refine hK _ ?_; clear hK K)
      refine wpTreA_act _ rfl ?_
      go_wp2_with fail
      refine ⟨HS2.out _ hd5, ?_⟩
      refine wpTreA_fin ?_
      have c15 := cell_later hd5 c1
      have hn6 : Numss (fun b => wr.heap.size ≤ b) w5 a5 n5 c5 ((colsA ⟨cg, cn, cl, cm⟩ l O (j + 1)).map colI) := by
        rw [HSUC.out j (by omega)]
        exact hnum5.mono (rSl_ok rInt_ok) (fun b hb _ => hb)
      have HN6 := Lib.hid hn6
      have HD5 := Lib.hid hd5
      have hal : Below w5.heap.size w5 (w5.alloc (.cells #[.slice ra rn rc] 37)) := (Below.refl _ _).alloc (Nat.le_refl _) _
      have HAL := Lib.hid hal
      have HOO := Lib.hid (HST.out.2.1.below (hd5.trans (hal.mono hd5.size)))
      have HVV : Hid (∀ j u, (([((ra, rn, rc) : Row)]).flatMap encR)[j]? = some u → (w5.alloc (.cells #[.slice ra rn rc] 37)).cell? ((⟨w5.heap.size, 0, none⟩ : Addr).add j) = some u) := fun j u hj => lit_cells (by exact hj)
      have hB9 : w2.heap.size ≤ (w5.alloc (.cells #[.slice ra rn rc] 37)).heap.size := Nat.le_trans HSZ2.out (Nat.le_trans hd5.size hal.size)
      have hj3 : j ≤ 3 := by omega
      have HB9 : Hid (Below w2.heap.size w2 (w5.alloc (.cells #[.slice ra rn rc] 37))) := HST.out.2.2.2.2.trans ((hd5.trans (hal.mono hd5.size)).mono HSZ2.out)
      clear hd0 hd5 hb5 hnum5 hn6 c1 HS2 hX hal HCALL
      clear X Wf
      go_wp2_with fail
      rw [noPanic_normal]
      go_wp2_with (at_builtin; refine wpList_appQ (w0 := w2) (l := ps.map (fun p => p.1)) (ys := [((ra, rn, rc) : Row)]) Tryz.infoTs Tryz.underlying24 rfl (by omega) (fun _ => rfl) (fun r v h => by rw [List.mem_singleton.1 h]; rfl) rfl _ _ rfl rfl rfl HOO.out rfl HVV.out (by unfold maxLen; omega) (by omega) hB9 HB9.out ?_; intro a7 c7 w7 ho7 hb7 hg7 hz7)
      have hko : KeepS (fun b => wr.heap.size ≤ b) w5 w7 := (KeepS.below HAL.out).trans (KeepS.grown hg7 (fun r e hr => by
        obtain ⟨x, hx, e⟩ := own_eq e
        have := (HST.out.2.1.lt x hx).2
        omega))
      have hkt : KeepS (fun b => b < w.heap.size) wr w7 := ((KeepS.below HD5.out).trans (KeepS.below HAL.out)).trans (KeepS.grown hg7 (fun r e hr => by
        obtain ⟨x, hx, e⟩ := own_eq e
        have := (HST.out.2.1.lt x hx).1
        have := HB2.out.size
        omega))
      have hkn : KeepS (fun b => b < w.heap.size) w w7 := (KeepS.below HW0.out).trans hkt
      have HEND : Hid (Numss (fun _ => True) w7 a5 n5 c5 ((colsA ⟨cg, cn, cl, cm⟩ l O (j + 1)).map colI) ∧ (∃ ps : List (Row × List Tok), OwnQ 37 1 encR w7 w2.heap.size a7 (j + 1) c7 (ps.map (fun p => p.1)) ∧ ps.map (fun p => p.2) = tkn l O (j + 1) ∧ ∀ p ∈ ps, Toks (fun b => b < w.heap.size) w7 p.1.1 p.1.2.1 p.1.2.2 p.2) ∧ Below w2.heap.size w2 w7) := by
        refine ⟨(HN6.out.keep (rSl_ok rInt_ok) hko).mono (rSl_ok rInt_ok) (fun _ _ _ => trivial), ⟨ps ++ [((ra, rn, rc), srcAt l i)], ?_, ?_, fun p hp => ?_⟩, hb7⟩
        · rw [List.map_append]; exact ho7
        · rw [List.map_append, HST.out.2.2.1, tkn_succ HOI.out]; rfl
        · rcases List.mem_append.1 hp with hp | hp
          · exact (HST.out.2.2.2.1 p hp).keep rTok_ok hkt
          · rw [List.mem_singleton.1 hp]; exact HROW.out.keep rTok_ok hkn
      clear hko hkt hkn ho7 hb7 hg7 hz7
      go_roundw
      case rel => exact ⟨j + 1, n5, c5, c7, a5, a7, rfl, rfl, rfl, by first | rfl | go_num, by omega, HEND⟩
      case measure => simp [intOf]; omega
    · have hje : n = j := by omega
      subst hje
      have HST := hst
      have hbw0 := HB2.out.trans (hst.out.2.2.mono HB2.out.size)
      have hcn' : cn' ≤ 1000 := by have h1 := HST.out.1.len; have h2 := HCL.out n; rw [List.length_map] at h1; omega
      have HARR := Lib.hid (arranged_any (fun _ => True) _ ca oo cn' cc n oc (colsA ⟨cg, cn, cl, cm⟩ l O n) O wr HST.out.1 (HN.out.below rInt_ok hst.out.2.2) HCN.out HND.out HOL.out HLT.out hcn' (by omega))
      have HBW := Lib.hid hbw0
      clear hst hbw0
      go_wp2_with (go_at_call 24; refine HARR.out.mono ?_; rintro e w9 ⟨a9, n9, c9, rfl, hnum9, hb9⟩; have HE9 := Lib.hid (And.intro hnum9 hb9); clear hnum9 hb9)
      go_ret2
      exact ⟨a9, n9, c9, rfl, HE9.out.1.mono (rSl_ok rInt_ok) (fun b hb _ => Nat.le_trans HBW.out.size hb), HBW.out.trans (HE9.out.2.mono HBW.out.size)⟩
end Go.Proofs.YtaelfjlmkgimhaaGreatDoor

set_option linter.unusedVariables false
set_option linter.unusedSimpArgs false
namespace Go.Proofs.YtaelfjlmkgimhaaGreatDoor
open Go.RowKit

def tokA (f : Nat → Tok) (n : Nat) : Array Value := (((List.range n).map f).flatMap Tok.cells).toArray
theorem tokA_size (f : Nat → Tok) (n : Nat) : (tokA f n).size = n * 6 := by
  unfold tokA; rw [List.size_toArray, flat_len tok_len, List.length_map, List.length_range]
theorem tokA_get {f : Nat → Tok} {n s j : Nat} (h : s < n) (hj : j < 6) : (tokA f n)[s * 6 + j]? = (f s).cells[j]? := by
  unfold tokA
  rw [List.getElem?_toArray]
  exact flat_get tok_len ((List.range n).map f) s (f s) j (by rw [List.getElem?_map, List.getElem?_range h]; rfl) hj
theorem tokA_put {f : Nat → Tok} {n s : Nat} (t : Tok) (h : s < n) :
    ((((((tokA f n).setIfInBounds (s * 6) (.string t.text)).setIfInBounds (s * 6 + 1) (.string t.norm)).setIfInBounds (s * 6 + 2) (.string t.page)).setIfInBounds (s * 6 + 3) (.int .i64 t.line)).setIfInBounds (s * 6 + 4) (.int .i64 t.flags)).setIfInBounds (s * 6 + 5) (.string t.name) = tokA (fun i => if i = s then t else f i) n := by
  have hsz := tokA_size f n
  have hb : s * 6 + 6 ≤ n * 6 := by have := Nat.mul_le_mul_right 6 h; rw [Nat.succ_mul] at this; exact this
  refine Array.ext_getElem? fun p => ?_
  by_cases hp : p < n * 6
  · obtain ⟨s', r, rfl, hr⟩ : ∃ s' r, p = s' * 6 + r ∧ r < 6 := ⟨p / 6, p % 6, by omega, Nat.mod_lt _ (by decide)⟩
    have hs' : s' < n := by omega
    rw [tokA_get hs' hr]
    by_cases e : s' = s
    · subst e
      rw [if_pos rfl]
      match r, hr with
      | 0, _ => rw [Array.getElem?_setIfInBounds_ne (by omega), Array.getElem?_setIfInBounds_ne (by omega), Array.getElem?_setIfInBounds_ne (by omega), Array.getElem?_setIfInBounds_ne (by omega), Array.getElem?_setIfInBounds_ne (by omega), Nat.add_zero, Array.getElem?_setIfInBounds_self_of_lt (by rw [hsz]; omega)]; rfl
      | 1, _ => rw [Array.getElem?_setIfInBounds_ne (by omega), Array.getElem?_setIfInBounds_ne (by omega), Array.getElem?_setIfInBounds_ne (by omega), Array.getElem?_setIfInBounds_ne (by omega), Array.getElem?_setIfInBounds_self_of_lt (by simp only [Array.size_setIfInBounds, hsz]; omega)]; rfl
      | 2, _ => rw [Array.getElem?_setIfInBounds_ne (by omega), Array.getElem?_setIfInBounds_ne (by omega), Array.getElem?_setIfInBounds_ne (by omega), Array.getElem?_setIfInBounds_self_of_lt (by simp only [Array.size_setIfInBounds, hsz]; omega)]; rfl
      | 3, _ => rw [Array.getElem?_setIfInBounds_ne (by omega), Array.getElem?_setIfInBounds_ne (by omega), Array.getElem?_setIfInBounds_self_of_lt (by simp only [Array.size_setIfInBounds, hsz]; omega)]; rfl
      | 4, _ => rw [Array.getElem?_setIfInBounds_ne (by omega), Array.getElem?_setIfInBounds_self_of_lt (by simp only [Array.size_setIfInBounds, hsz]; omega)]; rfl
      | 5, _ => rw [Array.getElem?_setIfInBounds_self_of_lt (by simp only [Array.size_setIfInBounds, hsz]; omega)]; rfl
      | r + 6, hr => omega
    · rw [if_neg e, Array.getElem?_setIfInBounds_ne (by omega), Array.getElem?_setIfInBounds_ne (by omega), Array.getElem?_setIfInBounds_ne (by omega), Array.getElem?_setIfInBounds_ne (by omega), Array.getElem?_setIfInBounds_ne (by omega), Array.getElem?_setIfInBounds_ne (by omega), tokA_get hs' hr]
  · rw [Array.getElem?_eq_none (by simp only [Array.size_setIfInBounds, hsz]; omega), Array.getElem?_eq_none (by rw [tokA_size]; omega)]
theorem toks_block {W : World} {g n : Nat} {f : Nat → Tok} (h : W.heap[g]? = some (.cells (tokA f n) 47 (0, 0))) (hn : n ≤ 32) (hok : ∀ i, i < n → (f i).ok) : Toks (fun _ => True) W (some ⟨g, 0, none⟩) n n ((List.range n).map f) := by
  have hl : ((List.range n).map f).length = n := by simp
  have o : OwnQ 47 6 Tok.cells W g (some ⟨g, 0, none⟩) n n ((List.range n).map f) :=
    ⟨hl.symm, by rw [flat_len tok_len, hl], Or.inr ⟨g, n, tokA f n, rfl, Nat.le_refl _, h, Nat.le_refl _, by unfold maxLen; omega, tokA_size f n, by rw [List.take_of_length_le (by rw [Array.length_toList, tokA_size]; exact Nat.le_refl _)]; rfl⟩⟩
  exact o.sq (R := rTok) tok_len (by omega) (fun _ _ => trivial) (fun t ht => by obtain ⟨i, hi, rfl⟩ := List.mem_map.1 ht; exact ⟨rfl, hok i (List.mem_range.1 hi)⟩)
def flgA (b : Nat → Bool) (n : Nat) : Array Value := ((List.range n).map fun i => Value.bool (b i)).toArray
theorem flgA_put (b : Nat → Bool) (n s : Nat) (v : Bool) : (flgA b n).setIfInBounds s (.bool v) = flgA (fun i => if i = s then v else b i) n := by
  unfold flgA
  refine Array.ext_getElem? fun p => ?_
  by_cases e : s = p
  · subst e
    by_cases h : s < n
    · rw [Array.getElem?_setIfInBounds_self_of_lt (by simpa using h)]; simp [h]
    · rw [Array.getElem?_eq_none (by simp; omega), Array.getElem?_eq_none (by simp; omega)]
  · rw [Array.getElem?_setIfInBounds_ne e]
    simp only [List.getElem?_toArray, List.getElem?_map]
    by_cases h : p < n
    · rw [List.getElem?_range h]; simp [Ne.symm e]
    · rw [List.getElem?_eq_none (by simp; omega)]; rfl
theorem flgA_get {b : Nat → Bool} {n s : Nat} (h : s < n) : (flgA b n)[s]? = some (.bool (b s)) := by unfold flgA; rw [List.getElem?_toArray, List.getElem?_map, List.getElem?_range h]; rfl
theorem flgs_block {W : World} {g n : Nat} {b : Nat → Bool} (h : W.heap[g]? = some (.cells (flgA b n) 4 (0, 0))) (hn : n ≤ 32) : Flgs (fun _ => True) W (some ⟨g, 0, none⟩) n n ((List.range n).map b) := by
  have hl : ((List.range n).map b).length = n := by simp
  have e : ((List.range n).map b).flatMap (fun b => [Value.bool b]) = (List.range n).map (fun i => Value.bool (b i)) := by rw [flat_one, List.map_map]; rfl
  have o : OwnQ 4 1 (fun b => [Value.bool b]) W g (some ⟨g, 0, none⟩) n n ((List.range n).map b) :=
    ⟨hl.symm, by rw [e]; simp, Or.inr ⟨g, n, flgA b n, rfl, Nat.le_refl _, h, Nat.le_refl _, by unfold maxLen; omega, by simp [flgA], by rw [e, List.take_of_length_le (by simp [flgA])]; rfl⟩⟩
  exact o.sq (R := rBool) (fun _ => rfl) (by omega) (fun _ _ => trivial) (fun t ht => rfl)
theorem made_toks3 {w : World} {B g : Nat} (h : w.ownsRow B 47 6 (.slice (some ⟨g, 0, none⟩) 3 3) 3 (madeCells (Value.agg #[.string ⟨#[]⟩, .string ⟨#[]⟩, .string ⟨#[]⟩, .int .i64 0, .int .i64 0, .string ⟨#[]⟩]).cells (3 * 6)).toList) : w.heap[g]? = some (.cells (tokA (fun _ => tk0) 3) 47 (0, 0)) := by
  rcases h.2 with ⟨hv, -⟩ | ⟨g', cap, cur, hv, hb, hg, h1, h2, h3, h4⟩
  · cases hv
  · cases hv
    have e2 : cur = tokA (fun _ => tk0) 3 := by
      apply Array.ext'
      rw [← List.take_of_length_le (l := cur.toList) (i := 3 * 6) (by rw [Array.length_toList, h3]; exact Nat.le_refl _), h4]
      kernel_rfl
    rw [← e2]
    exact hg
theorem made_flgs3 {w : World} {B g : Nat} (h : w.ownsRow B 4 1 (.slice (some ⟨g, 0, none⟩) 3 3) 3 (madeCells (Value.bool false).cells (3 * 1)).toList) : w.heap[g]? = some (.cells (flgA (fun _ => false) 3) 4 (0, 0)) := by
  rcases h.2 with ⟨hv, -⟩ | ⟨g', cap, cur, hv, hb, hg, h1, h2, h3, h4⟩
  · cases hv
  · cases hv
    have e2 : cur = flgA (fun _ => false) 3 := by
      apply Array.ext'
      rw [← List.take_of_length_le (l := cur.toList) (i := 3 * 1) (by rw [Array.length_toList, h3]; exact Nat.le_refl _), h4]
      kernel_rfl
    rw [← e2]
    exact hg
def putO (W : World) (b : Nat) : Nat → List Value → World
  | _, [] => W
  | j, v :: r => putO (W.setCell ⟨b, j, none⟩ v) b (j + 1) r
theorem run_putO {b off : Nat} {t : TypeId} : ∀ (vs : List Value) (i : Nat) (cur : Array Value) (W : World), W.heap[b]? = some (.cells cur t (0, 0)) → off + i + vs.length ≤ cur.size → (∀ v ∈ vs, v.oneCell' = true) → (storeCells ⟨b, off, none⟩ vs i).run Tryz.prog W = .ok () (putO W b (off + i) vs)
  | [], _, _, _, _, _, _ => rfl
  | v :: rest, i, cur, W, hg, hl, h1 => by
    have hi : off + i < cur.size := by simp at hl; omega
    have hadd : (⟨b, off, none⟩ : Addr).add i = ⟨b, off + i, none⟩ := Addr.add_lit ..
    have hcell : W.cell? ⟨b, off + i, none⟩ = some cur[off + i] := by simp [World.cell?, hg, hi]
    have hfro : W.frozen? ⟨b, off + i, none⟩ = false := by simp [World.frozen?, hg]
    have hst : (store ((⟨b, off, none⟩ : Addr).add i) v).run Tryz.prog W = .ok () (W.setCell ⟨b, off + i, none⟩ v) := by
      rw [hadd, run_store Tryz.prog W _ v _ (h1 v (by simp)), hcell]
      simp [hfro]
    have ih := run_putO (off := off) rest (i + 1) (cur.setIfInBounds (off + i) v) (W.setCell ⟨b, off + i, none⟩ v) (heap_set_at hg v) (by simp at hl ⊢; omega) (fun x hx => h1 x (by simp [hx]))
    simp only [storeCells, Sem.run_bind, hst, Result.andThen_ok, ih, putO, Nat.add_assoc]
section
variable {o : Oper} {rest : List Oper} {ops : Array Oper} {act : Act} {Q : Exit → Act → World → Prop}
/-- A token is stored. -/
theorem wpList_stTok {W : World} {b off : Nat} {cur : Array Value} {ty : TypeId} (t : Tok) (hg : W.heap[b]? = some (.cells cur ty (0, 0))) (hle : off + 6 ≤ cur.size) (hgd : o.guard = none) (x y : Operand) (ho : o.op = .store 47 x y) (hx : act.eval x = .pointer (some ⟨b, off, none⟩)) (hy : act.eval y = t.val)
    (hk : wpList Tryz.prog ops Q rest (act.put o.dst undef) (putT W b off t)) : wpList Tryz.prog ops Q (o :: rest) act W := by
  refine wpList_plain hgd fun K hK => ?_
  have hr : (storeCells ⟨b, off, none⟩ t.cells).run Tryz.prog W = .ok () (putT W b off t) := run_putO t.cells 0 cur W hg (by exact hle) (by intro v hv; simp [Tok.cells] at hv; rcases hv with rfl | rfl | rfl | rfl | rfl | rfl <;> rfl)
  have hv : (storeVar 47 ⟨b, off, none⟩ t.val).run Tryz.prog W = .ok () (putT W b off t) := by
    obtain ⟨i0, hi, hz0, hz1, hz2⟩ := info_parts Tryz.infoTk
    have hc : t.val.cells.toList = t.cells := rfl
    simp only [Tok.val, Tok.cells] at hr ⊢
    simp [storeVar, sizeOf, typeInfo, hi, Value.cells, hz1, hr]
  unfold Oper.wp execOp
  simp only [ho, hx, hy, Instr.storeAt, Instr.sureAddr, Sem.run_bind, Sem.run_pure, Result.andThen_ok, hv]
  exact hK _ _ hk
end
end Go.Proofs.YtaelfjlmkgimhaaGreatDoor

set_option linter.unusedVariables false
set_option linter.unusedSimpArgs false
namespace Go.Proofs.YtaelfjlmkgimhaaGreatDoor
open Go.RowKit Go.Shelf

/-- What stands in a column. -/
def mTk (l : List (List Tok)) (col : Cm) (i : Nat) : Tok := match ent1 i col with
  | some k => tkAt (srcAt l i) k
  | none => tk0
def mTh (col : Cm) (i : Nat) : Bool := (ent1 i col).isSome
def mcF (c : Cst) (l : List (List Tok)) (col : Cm) : Nat := colF c ((List.range 3).map (mTk l col)) ((List.range 3).map (mTh col))
def mTs (l : List (List Tok)) (col : Cm) (s i : Nat) : Tok := if i < s then mTk l col i else tk0
def mThs (col : Cm) (s i : Nat) : Bool := if i < s then mTh col i else false
theorem tokA_congr {f g : Nat → Tok} {n : Nat} (h : ∀ i, i < n → f i = g i) : tokA f n = tokA g n := by
  unfold tokA
  rw [List.map_congr_left fun i hi => h i (List.mem_range.1 hi)]
theorem flgA_congr {f g : Nat → Bool} {n : Nat} (h : ∀ i, i < n → f i = g i) : flgA f n = flgA g n := by
  unfold flgA
  rw [List.map_congr_left fun i hi => by rw [h i (List.mem_range.1 hi)]]
theorem Tryz.infoBl : (Tryz.prog.info? 4).map (fun i => (i.zero, i.size, i.bytes)) = some (some (.bool false), 1, 1) := by kernel_rfl
set_option maxRecDepth 100000 in
set_option maxHeartbeats 8000000 in
theorem mcost_any (S S2 : Nat → Prop) (c : Cst) (a xa : Option Addr) (cp xc : Nat) (l : List (List Tok)) (col : Cm) (w : World) (hl : Tokss S w a 3 cp l) (hx : Nums S2 w xa 3 xc (colI col)) (hvc : VCol l col) (hv : VdL l) (hc : c.ok) (hE : Env w) :
    Calls Tryz.prog 43 #[c.val, .slice a 3 cp, .slice xa 3 xc] w fun e w' => e = .returned (.int .i64 (mcF c l col : Nat)) ∧ Below w.heap.size w w' := by
  have hb0 : Below w.heap.size w (w.alloc (.cells c.arr 23)) := (Below.refl _ _).alloc (Nat.le_refl _) _
  have hX := World.alloc_heap_new w (.cells c.arr 23)
  have hsA : (w.alloc (.cells c.arr 23)).heap.size = w.heap.size + 1 := by simp
  have HL := Lib.hid (fun W (hW : Below w.heap.size w W) => hl.below (rSl_ok rTok_ok) hW)
  have HXX := Lib.hid (fun W (hW : Below w.heap.size w W) => hx.below rInt_ok hW)
  have HCOL := Lib.hid (fun W (hW : Below w.heap.size w W) (p q : Option Addr) (ts : List Tok) (th : List Bool) (h1 : Toks (fun _ => True) W p 3 3 ts) (h2 : Flgs (fun _ => True) W q 3 3 th) (h3 : ∀ (j : Nat) (t : Tok), ts[j]? = some t → th[j]? = some true → t.err = 0) =>
    column_any (fun _ => True) c ts th p q 3 3 3 W h1 h2 (by omega) hc h3 (hE.below hW))
  have HVC := Lib.hid hvc
  have HV := Lib.hid hv
  have HLN := Lib.hid hl.len
  clear hl hx hvc hv hc hE
  obtain ⟨cg, cn, cl, cm⟩ := c
  dsimp only [Cst.val, Cst.arr] at hb0 hX hsA HCOL ⊢
  generalize hWA : w.alloc (.cells #[.int .i64 cg, .int .i64 cn, .int .i64 cl, .int .i64 cm] 23) = WA at *
  have HB0 := Lib.hid hb0
  have HX := Lib.hid hX
  have HSA := Lib.hid hsA
  clear hb0 hX hsA
  obtain ⟨i0, hi, hz0, hz1, hz2⟩ := info_parts Tryz.infoTk
  obtain ⟨i1, ki, kz0, kz1, kz2⟩ := info_parts Tryz.infoBl
  go_enter Tryz.func43, Tryz.ntmps43
  go_wp2_with fail
  clear hWA
  obtain ⟨X, Wf, hX, hS1, hS2⟩ := family (fun V => Below WA.heap.size WA V) WA (Below.refl _ _)
  have HS2 := Lib.hid hS2
  clear hS1 hS2
  have hd0 : Below WA.heap.size WA WA.drew := (Below.refl _ _).drew
  refine wp_region_treAN (Wf := Wf) 7 (.read 0 (.read 1 (.read 3 (.read 4 (.alt 2 (.alt 5 (.act 6 .fin) (.act 6 (.act 5 .fin))) (.act 5 (.act 2 (.act 6 .fin)))))))) (by kernel_rfl) (by kernel_rfl) (HS2.out _ hd0) ?_
  refine wpTreA_read _ rfl (fun K hK => ?_); unfold rOp; go_simp; (refine hK _ ?_; clear hK K)
  refine wpTreA_read _ rfl (fun K hK => ?_); unfold rOp; go_simp; (refine hK _ ?_; clear hK K)
  refine wpTreA_read _ rfl (fun K hK => ?_); unfold rOp; go_simp; (refine hK _ ?_; clear hK K)
  refine wpTreA_read _ rfl (fun K hK => ?_); unfold rOp; go_simp; (refine hK _ ?_; clear hK K)
  generalize WA.drew = V at *
  have hd := hd0
  clear hd0
  refine treA_key (fun a0 a1 V => ∃ gT gF, a1 = ((a0.put (some 15) (.slice (some ⟨gT, 0, none⟩) 3 3)).put (some 18) (.slice (some ⟨gF, 0, none⟩) 3 3)).put (some 7) (.slice (some ⟨gT, 0, none⟩) 3 3) ∧ V.heap[gT]? = some (.cells (tokA (fun _ => tk0) 3) 47 (0, 0)) ∧ V.heap[gF]? = some (.cells (flgA (fun _ => false) 3) 4 (0, 0)) ∧ gT ≠ gF ∧ WA.heap.size ≤ gT ∧ WA.heap.size ≤ gF ∧ Below WA.heap.size WA V) ?_ ?_
  · clear hd
    clear V
    rintro a1 V ⟨gT, gF, rfl, F1, F2, hne, h1, h2, hd⟩
    simp only [Act.put, List.setIfInBounds_toArray, List.set_cons_zero, List.set_cons_succ]
    have HG := Lib.hid (And.intro hne (And.intro h1 h2))
    have hst0 : Hid (V.heap[gT]? = some (.cells (tokA (mTs l col 0) 3) 47 (0, 0)) ∧ V.heap[gF]? = some (.cells (flgA (mThs col 0) 3) 4 (0, 0)) ∧ Below WA.heap.size WA V) := ⟨F1, F2, hd⟩
    clear F1 F2 hne h1 h2 hd HS2 hX
    clear X Wf
    go_wp2_with fail
    rw [noPanic_normal]
    go_wp2_with fail
    go_loopw [21] (fun iv wr => ∃ s : Nat, iv = .int .i64 (s : Int) ∧ s ≤ 3 ∧ Hid (wr.heap[gT]? = some (.cells (tokA (mTs l col s) 3) 47 (0, 0)) ∧ wr.heap[gF]? = some (.cells (flgA (mThs col s) 3) 4 (0, 0)) ∧ Below WA.heap.size WA wr)) (fun iv _ => 3 - (intOf iv).toNat)
    case atStart => exact ⟨0, rfl, by omega, hst0⟩
    case round =>
      clear hst0
      obtain ⟨s, rfl, hs, hst⟩ := hrel
      have hbw := HB0.out.trans (hst.out.2.2.mono HB0.out.size)
      by_cases hs3 : s < 3
      · obtain ⟨row, bl, ol, ar, nr, cr, hu, hm, rfl, -, hbl, hrow, hc0⟩ := (HL.out _ hbw).row hs3
        obtain ⟨z, bx, ox, hz, -, rfl, -, hbx, -, hc1⟩ := (HXX.out _ hbw).int hs3
        have hze := colI_at hz
        have hrw : srcAt l s = row := by unfold srcAt; rw [hu]; rfl
        have d0 : decide ((s : Int) < 3) = true := decide_eq_true (by omega)
        cases hen : ent1 s col with
        | none =>
          have hz1 : z = -1 := by rw [hze, hen]; rfl
          subst hz1
          have HEND : Hid (wr.heap[gT]? = some (.cells (tokA (mTs l col (s + 1)) 3) 47 (0, 0)) ∧ wr.heap[gF]? = some (.cells (flgA (mThs col (s + 1)) 3) 4 (0, 0)) ∧ Below WA.heap.size WA wr) := by
            refine ⟨?_, ?_, hst.out.2.2⟩
            · rw [hst.out.1]
              refine congrArg (fun z => some (Obj.cells z 47 (0, 0))) (tokA_congr fun i _ => ?_)
              unfold mTs
              by_cases e : i = s
              · subst e; rw [if_neg (by omega), if_pos (by omega)]; unfold mTk; rw [hen]
              · by_cases e2 : i < s
                · rw [if_pos e2, if_pos (by omega)]
                · rw [if_neg e2, if_neg (by omega)]
            · rw [hst.out.2.1]
              refine congrArg (fun z => some (Obj.cells z 4 (0, 0))) (flgA_congr fun i _ => ?_)
              unfold mThs
              by_cases e : i = s
              · subst e; rw [if_neg (by omega), if_pos (by omega)]; unfold mTh; rw [hen]; rfl
              · by_cases e2 : i < s
                · rw [if_pos e2, if_pos (by omega)]
                · rw [if_neg e2, if_neg (by omega)]
          clear hst hbw hz hze hu hrow hrw hc0 hen
          go_wp2
          go_roundw
          case rel => exact ⟨s + 1, by first | rfl | go_num, by omega, HEND⟩
          case measure => simp [intOf]; omega
        | some k =>
          have hz1 : z = (k : Int) := by rw [hze, hen]; rfl
          subst hz1
          have hkr : k < nr := by rw [hrow.len, ← hrw]; exact HVC.out.2 s k hen
          obtain ⟨x, bxx, oxx, hxu, hxm, rfl, -, hbxx, hxk, ⟨c0, c1, c2, c3, c4, c5⟩⟩ := hrow.tok hkr
          have HTX : Hid (mTk l col s = x) := by show _ = _; unfold mTk; rw [hen, hrw]; dsimp only; unfold tkAt; rw [hxu]; rfl
          have HTH : Hid (mTh col s = true) := by show _ = _; unfold mTh; rw [hen]; rfl
          have HST := hst
          have hF6 : ((putT wr gT (s * 6) x)).heap[gF]? = some (.cells (flgA (mThs col s) 3) 4 (0, 0)) := (put6_other (s * 6) (Ne.symm HG.out.1) _ _ _ _ _ _).trans hst.out.2.1
          have c6 : ((putT wr gT (s * 6) x)).cell? ⟨gF, s, none⟩ = some (.bool false) := by rw [cell_row hF6, flgA_get hs3]; unfold mThs; rw [if_neg (by omega)]
          have f6 : ((putT wr gT (s * 6) x)).frozen? ⟨gF, s, none⟩ = false := Lib.frozen_of_heap hF6 s
          have hT6 : ((putT wr gT (s * 6) x)).heap[gT]? = some (.cells (tokA (mTs l col (s + 1)) 3) 47 (0, 0)) := by
            refine (put6_at hst.out.1 _ _ _ _ _ _).trans ?_
            rw [tokA_put x hs3]
            refine congrArg (fun z => some (Obj.cells z 47 (0, 0))) (tokA_congr fun i _ => ?_)
            unfold mTs
            by_cases e : i = s
            · subst e; rw [if_pos rfl, if_pos (by omega)]; exact HTX.out.symm
            · rw [if_neg e]
              by_cases e2 : i < s
              · rw [if_pos e2, if_pos (by omega)]
              · rw [if_neg e2, if_neg (by omega)]
          have hB6 : Below WA.heap.size WA ((putT wr gT (s * 6) x)) := put6_below hst.out.2.2 (s * 6) HG.out.2.1 _ _ _ _ _ _
          have HEND : Hid ((((putT wr gT (s * 6) x)).setCell ⟨gF, s, none⟩ (.bool true)).heap[gT]? = some (.cells (tokA (mTs l col (s + 1)) 3) 47 (0, 0)) ∧ (((putT wr gT (s * 6) x)).setCell ⟨gF, s, none⟩ (.bool true)).heap[gF]? = some (.cells (flgA (mThs col (s + 1)) 3) 4 (0, 0)) ∧ Below WA.heap.size WA (((putT wr gT (s * 6) x)).setCell ⟨gF, s, none⟩ (.bool true))) := by
            refine ⟨(heap_setCell_other HG.out.1 _).trans hT6, ?_, below_setc hB6 HG.out.2.2 _ _⟩
            rw [heap_setCell_self hF6, flgA_put]
            refine congrArg (fun z => some (Obj.cells z 4 (0, 0))) (flgA_congr fun i _ => ?_)
            unfold mThs
            by_cases e : i = s
            · subst e; rw [if_pos rfl, if_pos (by omega)]; exact HTH.out.symm
            · rw [if_neg e]
              by_cases e2 : i < s
              · rw [if_pos e2, if_pos (by omega)]
              · rw [if_neg e2, if_neg (by omega)]
          obtain ⟨wy, hwy⟩ : ∃ wy, wy = (putT wr gT (s * 6) x) := ⟨_, rfl⟩
          rw [← hwy] at c6 f6 HEND
          have HWY := Lib.hid hwy
          have hsz : s * 6 + 6 ≤ 18 := by omega
          clear hst hbw hz hze hu hrow hrw hen hxu hxm hxk hF6 hT6 hB6 hwy
          go_wp2_with (refine wpList_stTok x HST.out.1 (by rw [tokA_size]; exact hsz) rfl _ _ rfl rfl rfl ?_; rw [← HWY.out])
          go_roundw
          case rel => exact ⟨s + 1, by first | rfl | go_num, by omega, HEND⟩
          case measure => simp [intOf]; omega
      · have hse : s = 3 := by omega
        have HST := hst
        have htk : Toks (fun _ => True) wr (some ⟨gT, 0, none⟩) 3 3 ((List.range 3).map (mTk l col)) := by
          refine toks_block (f := mTk l col) ?_ (by omega) (fun i hi => ?_)
          · rw [hst.out.1]
            exact congrArg (fun z => some (Obj.cells z 47 (0, 0))) (tokA_congr fun i hi => by unfold mTs; rw [if_pos (by omega)])
          · unfold mTk
            cases hen : ent1 i col with
            | none => exact tk0_ok
            | some k =>
              obtain ⟨row, bl, ol, ar, nr, cr, hu, hm, -, -, -, hrow, -⟩ := (HL.out _ hbw).row (j := i) hi
              have hrw : srcAt l i = row := by unfold srcAt; rw [hu]; rfl
              have hkr : k < nr := by rw [hrow.len, ← hrw]; exact HVC.out.2 i k hen
              obtain ⟨x, bxx, oxx, hxu, hxm, -, -, -, hxk, -⟩ := hrow.tok hkr
              dsimp only
              rw [hrw]; unfold tkAt; rw [hxu]; exact hxk
        have hfl : Flgs (fun _ => True) wr (some ⟨gF, 0, none⟩) 3 3 ((List.range 3).map (mTh col)) := by
          refine flgs_block (b := mTh col) ?_ (by omega)
          rw [hst.out.2.1]
          exact congrArg (fun z => some (Obj.cells z 4 (0, 0))) (flgA_congr fun i hi => by unfold mThs; rw [if_pos (by omega)])
        have HCL := Lib.hid (HCOL.out wr hbw (some ⟨gT, 0, none⟩) (some ⟨gF, 0, none⟩) _ _ htk hfl (fun j t h1 h2 => by
          rw [List.getElem?_map] at h1 h2
          cases hj : (List.range 3)[j]? with
          | none => rw [hj] at h1; cases h1
          | some i =>
            rw [hj] at h1 h2
            have e1 : mTk l col i = t := Option.some.inj h1
            have e2 : mTh col i = true := Option.some.inj h2
            have hi : i < 3 := List.mem_range.1 (List.mem_of_getElem? hj)
            unfold mTh at e2
            cases hen : ent1 i col with
            | none => rw [hen] at e2; cases e2
            | some k =>
              unfold mTk at e1
              rw [hen] at e1
              obtain ⟨row, bl, ol, ar, nr, cr, hu, hm, -, -, -, hrow, -⟩ := (HL.out _ hbw).row (j := i) hi
              have hrw : srcAt l i = row := by unfold srcAt; rw [hu]; rfl
              have hkr : k < nr := by rw [hrow.len, ← hrw]; exact HVC.out.2 i k hen
              obtain ⟨x, bxx, oxx, hxu, hxm, -, -, -, hxk, -⟩ := hrow.tok hkr
              have ex : tkAt (srcAt l i) k = x := by rw [hrw]; unfold tkAt; rw [hxu]; rfl
              have e1 : tkAt (srcAt l i) k = t := e1
              rw [← e1, ex]
              exact HV.out.err row hm x hxm))
        have HBW := Lib.hid hbw
        obtain ⟨k0, k1, k2, k3, -⟩ := box_cells4 ((hst.out.2.2.block w.heap.size (by have := HSA.out; omega)).trans HX.out)
        clear hst htk hfl hbw
        subst hse
        go_wp2_with (go_at_call 64; refine HCL.out.mono ?_; rintro e w6 ⟨rfl, hb6⟩; have HB6 := Lib.hid hb6; clear hb6)
        go_ret
        exact ⟨rfl, HBW.out.trans (HB6.out.mono HBW.out.size)⟩
  · intro key
    repeat' first
      | refine wpTreA_alt ?_ ?_
      | (refine wpTreA_act (k := 2) _ rfl ?_
         refine wpList_make_full V rfl _ _ 37 rfl V.heap.size 47 i0 (.agg #[.string ⟨#[]⟩, .string ⟨#[]⟩, .string ⟨#[]⟩, .int .i64 0, .int .i64 0, .string ⟨#[]⟩]) 6 Tryz.underlying37 hi hz0 hz1 .i64 .i64 3 3 3 rfl rfl rfl rfl (by rw [hz2]; omega) (by unfold maxLen; omega) (Nat.le_refl _) ?_
         intro V1 hrow hg
         have hst : Below V.heap.size V V1 := (Below.refl _ _).grown hg (Nat.le_refl _) (by simp)
         try (have n1 : gF ≠ V.heap.size := by have := (Array.getElem?_eq_some_iff.1 F2).1; omega)
         have hF1 : WA.heap.size ≤ V.heap.size := hd.size
         try (replace F1 := (hst.block _ (Array.getElem?_eq_some_iff.1 F1).1).trans F1)
         try (replace F2 := (hst.block _ (Array.getElem?_eq_some_iff.1 F2).1).trans F2)
         replace hd := hd.trans (hst.mono hd.size)
         have F1 := made_toks3 hrow
         generalize V.heap.size = gT at *
         clear hst hrow hg
         go_wp2_with fail
         refine ⟨HS2.out _ hd, ?_⟩
         generalize V1 = V at *)
      | (refine wpTreA_act (k := 5) _ rfl ?_
         refine wpList_make_full V rfl _ _ 101 rfl V.heap.size 4 i1 (.bool false) 1 Tryz.underlying101 ki kz0 kz1 .i64 .i64 3 3 3 rfl rfl rfl rfl (by rw [kz2]; omega) (by unfold maxLen; omega) (Nat.le_refl _) ?_
         intro V1 hrow hg
         have hst : Below V.heap.size V V1 := (Below.refl _ _).grown hg (Nat.le_refl _) (by simp)
         try (have n1 : gT ≠ V.heap.size := by have := (Array.getElem?_eq_some_iff.1 F1).1; omega)
         have hF2 : WA.heap.size ≤ V.heap.size := hd.size
         try (replace F1 := (hst.block _ (Array.getElem?_eq_some_iff.1 F1).1).trans F1)
         try (replace F2 := (hst.block _ (Array.getElem?_eq_some_iff.1 F2).1).trans F2)
         replace hd := hd.trans (hst.mono hd.size)
         have F2 := made_flgs3 hrow
         generalize V.heap.size = gF at *
         clear hst hrow hg
         go_wp2_with fail
         refine ⟨HS2.out _ hd, ?_⟩
         generalize V1 = V at *)
      | (refine wpTreA_act (k := 6) _ rfl ?_
         go_wp2_with fail
         refine ⟨HS2.out _ hd, ?_⟩)
      | exact wpTreA_fin (key _ _ ⟨gT, gF, rfl, F1, F2, by omega, hF1, hF2, hd⟩)
end Go.Proofs.YtaelfjlmkgimhaaGreatDoor

set_option linter.unusedVariables false
set_option linter.unusedSimpArgs false
namespace Go.Proofs.YtaelfjlmkgimhaaGreatDoor
open Go.RowKit

set_option maxRecDepth 100000 in
set_option maxHeartbeats 2000000 in
/-- No source holds a bad token. -/
theorem indexl_cap (b0 : Nat) (S : Nat → Prop) (a : Option Addr) (n c : Nat) (l : List (List Tok)) (w : World) (h : Tokss S w a n c l)
    (HF : ∀ t ∈ l, ∀ W a' n' c', Below w.heap.size w W → Toks S W a' n' c' t → Calls Tryz.prog 63 (#[.slice a' n' c', .pointer (some ⟨b0, 0, none⟩)]) W fun e w' => e = .returned (.bool false) ∧ Below W.heap.size W w') :
    Calls Tryz.prog 33 #[.slice a n c, .func (.func 63) #[] #[.pointer (some ⟨b0, 0, none⟩)]] w fun e w' => e = .returned (.int .i64 (-1)) ∧ Below w.heap.size w w' := by
  have HN := Lib.hid h.len
  have hL := h.bound
  have HSS := Lib.hid HF
  clear HF
  go_enter Tryz.func33, Tryz.ntmps33
  go_wp2
  go_loopw [8] (fun i wr => ∃ (j : Nat), i = .int .i64 j ∧ j ≤ n ∧ Below w.heap.size w wr) (fun i _ => n - (intOf i).toNat)
  case atStart => exact ⟨0, rfl, Nat.zero_le _, Below.refl _ _⟩
  case round =>
    obtain ⟨j, rfl, hj, hb⟩ := hrel
    by_cases hlj : j < n
    · obtain ⟨r, b, off, a', n', c', hu, hmem, rfl, -, hbl, hr, c0⟩ := (h.below (rSl_ok rTok_ok) hb).row hlj
      have HF := Lib.hid (HSS.out r hmem wr a' n' c' hb hr)
      clear hu hmem hr
      go_wp2_with (go_at_call 63; refine HF.out.mono ?_; rintro e w' ⟨rfl, hb'⟩)
      go_roundw
      case rel => exact ⟨j + 1, by go_num, by omega, hb.trans (hb'.mono hb.size)⟩
      case measure => simp [intOf]; omega
    · go_wp2
      go_ret
      exact ⟨rfl, hb⟩
theorem containsl_cap (b0 : Nat) (S : Nat → Prop) (a : Option Addr) (n c : Nat) (l : List (List Tok)) (w : World) (h : Tokss S w a n c l)
    (HF : ∀ t ∈ l, ∀ W a' n' c', Below w.heap.size w W → Toks S W a' n' c' t → Calls Tryz.prog 63 (#[.slice a' n' c', .pointer (some ⟨b0, 0, none⟩)]) W fun e w' => e = .returned (.bool false) ∧ Below W.heap.size W w') :
    Calls Tryz.prog 14 #[.slice a n c, .func (.func 63) #[] #[.pointer (some ⟨b0, 0, none⟩)]] w fun e w' => e = .returned (.bool false) ∧ Below w.heap.size w w' := by
  have F := Lib.hid (indexl_cap b0 S a n c l w h HF)
  clear h HF
  go_enter Tryz.func14, Tryz.ntmps14
  go_wp2_with (go_at_call 33; refine F.out.mono ?_; rintro e w' ⟨rfl, hb'⟩)
  go_ret
  exact ⟨rfl, hb'⟩
set_option maxRecDepth 100000 in
theorem u2_any (b0 : Nat) (S : Nat → Prop) (a : Option Addr) (n c : Nat) (l : List Tok) (w : World) (h : Toks S w a n c l) (hv : ∀ x ∈ l, x.err = 0) (hE : Env w) (h0 : w.cell? ⟨b0, 0, none⟩ = some (.func (.func 62) #[] #[])) :
    Calls Tryz.prog 63 #[.slice a n c, .pointer (some ⟨b0, 0, none⟩)] w fun e w' => e = .returned (.bool false) ∧ Below w.heap.size w w' := by
  have F := Lib.hid (contains_multi S a n c l w h (fun t ht W hW => bad_multi t W (hv t ht) (hE.below hW)))
  clear h hv hE
  go_enter Tryz.func63, Tryz.ntmps63
  go_wp2_with (go_at_call 16; refine F.out.mono ?_; rintro e w' ⟨rfl, hb'⟩)
  go_ret
  exact ⟨rfl, hb'⟩
set_option maxRecDepth 100000 in
set_option maxHeartbeats 2000000 in
theorem usable_any (S : Nat → Prop) (c : Cst) (a : Option Addr) (n cp : Nat) (l : List (List Tok)) (w : World) (h : Tokss S w a n cp l) (hv : VdL l) (h0 : 0 < n) (hc : c.ok) (hE : Env w) :
    Calls Tryz.prog 41 #[c.val, .slice a n cp] w fun e w' => e = .returned (.int .i64 0) ∧ Below w.heap.size w w' := by
  have HS := Lib.hid (fun W (hW : Below w.heap.size w W) => msrcs_any S a n cp l W (h.below (rSl_ok rTok_ok) hW) hv h0)
  have HCC := Lib.hid (fun W => ccheck_any c W hc)
  have HCL := Lib.hid (fun W (hW : Below w.heap.size w W) (b0 : Nat) (hb : W.cell? ⟨b0, 0, none⟩ = some (.func (.func 62) #[] #[])) => containsl_cap b0 S a n cp l W (h.below (rSl_ok rTok_ok) hW) (fun t ht W' a' n' c' hW' ht' => u2_any b0 S a' n' c' t W' ht' (hv.err t ht) (hE.below (hW.trans (hW'.mono hW.size))) (cell_later hW' hb)))
  have hb0 : Below w.heap.size w (w.alloc (.cells c.arr 23)) := (Below.refl _ _).alloc (Nat.le_refl _) _
  have hX := World.alloc_heap_new w (.cells c.arr 23)
  clear h hv hc hE
  obtain ⟨cg, cn, cl, cm⟩ := c
  dsimp only [Cst.val, Cst.arr] at HCC hb0 hX ⊢
  have hsA : (w.alloc (.cells #[.int .i64 cg, .int .i64 cn, .int .i64 cl, .int .i64 cm] 23)).heap.size = w.heap.size + 1 := by simp
  generalize hWA : w.alloc (.cells #[.int .i64 cg, .int .i64 cn, .int .i64 cl, .int .i64 cm] 23) = WA at *
  have HB0 := Lib.hid hb0
  have HX := Lib.hid hX
  have HSA := Lib.hid hsA
  clear hb0 hX hsA
  go_enter Tryz.func41, Tryz.ntmps41
  go_upto_region 4 with (go_at_call 52; refine (HS.out _ HB0.out).mono ?_; rintro e w1 ⟨rfl, hb1⟩; have HB1 := Lib.hid (HB0.out.trans (hb1.mono HB0.out.size)); have HX1 := Lib.hid ((hb1.block w.heap.size (by have := HSA.out; omega)).trans HX.out); clear hb1)
  have hal : Below w1.heap.size w1 (w1.alloc (.cells #[.func (.func 62) #[] #[]] 49)) := (Below.refl _ _).alloc (Nat.le_refl _) _
  have hfc := (one_box (World.alloc_heap_new w1 (.cells #[.func (.func 62) #[] #[]] 49))).1
  obtain ⟨k0, k1, k2, k3, -⟩ := box_cells4 ((hal.block w.heap.size (Array.getElem?_eq_some_iff.1 HX1.out).1).trans HX1.out)
  have HB2 := Lib.hid (HB1.out.trans (hal.mono HB1.out.size))
  have HFC := Lib.hid hfc
  clear hal hfc
  go_wp2_with (first | (go_at_call 45; refine (HCC.out _).mono ?_; rintro e w3 ⟨rfl, hb3⟩; have HB3 := Lib.hid (HB2.out.trans (hb3.mono HB2.out.size)); have HF3 := Lib.hid (cell_later hb3 HFC.out); clear hb3) | (go_at_call 14; refine (HCL.out _ HB3.out _ HF3.out).mono ?_; rintro e w4 ⟨rfl, hb4⟩; have HB4 := Lib.hid (HB3.out.trans (hb4.mono HB3.out.size)); clear hb4))
  go_ret
  exact ⟨rfl, HB4.out⟩
end Go.Proofs.YtaelfjlmkgimhaaGreatDoor

set_option linter.unusedVariables false
set_option linter.unusedSimpArgs false
namespace Go.Proofs.YtaelfjlmkgimhaaGreatDoor
open Go.RowKit

def mSum (c : Cst) (l : List (List Tok)) (cols : List Cm) (j : Nat) : Nat := ((cols.take j).map (mcF c l)).sum
theorem mSum_succ {c : Cst} {l : List (List Tok)} {cols : List Cm} {j : Nat} {col : Cm} (h : cols[j]? = some col) : mSum c l cols (j + 1) = mSum c l cols j + mcF c l col := by
  unfold mSum; rw [List.take_add_one, h, List.map_append, List.sum_append]; simp
theorem mcF_le {c : Cst} (hc : c.ok) (l : List (List Tok)) (col : Cm) : mcF c l col ≤ 1000 * 3 := by
  unfold mcF colF
  exact colS_le hc _ _ _
theorem mSum_le {c : Cst} (hc : c.ok) (l : List (List Tok)) (cols : List Cm) : ∀ j, mSum c l cols j ≤ 3000 * j
  | 0 => by simp [mSum]
  | j + 1 => by
    have ih := mSum_le hc l cols j
    cases h : cols[j]? with
    | none =>
      have e : mSum c l cols (j + 1) = mSum c l cols j := by
        unfold mSum; rw [List.take_add_one, h]; simp
      omega
    | some col =>
      have := mSum_succ (c := c) (l := l) h
      have := mcF_le hc l col
      omega
set_option maxRecDepth 100000 in
set_option maxHeartbeats 4000000 in
theorem mCost_any (S S2 : Nat → Prop) (c : Cst) (a xa : Option Addr) (cp q xc : Nat) (l : List (List Tok)) (cols : List Cm) (w : World) (h : Tokss S w a 3 cp l) (hx : Numss S2 w xa q xc (cols.map colI)) (hv : VdL l) (hvc : Vc (l.map List.length) cols) (hc : c.ok) (hqb : q ≤ 1000) (hE : Env w) :
    Calls Tryz.prog 20 #[c.val, .slice a 3 cp, .slice xa q xc] w fun e w' => e = .returned (.tuple #[.int .i64 (mSum c l cols q : Nat), .int .i64 0]) ∧ Below w.heap.size w w' := by
  have HU := Lib.hid (fun W (hW : Below w.heap.size w W) => usable_any S c a 3 cp l W (h.below (rSl_ok rTok_ok) hW) hv (by omega) hc (hE.below hW))
  have HA := Lib.hid (fun W (hW : Below w.heap.size w W) => aligned_any S S2 a xa 3 cp q xc l cols W (h.below (rSl_ok rTok_ok) hW) (hx.below (rSl_ok rInt_ok) hW) hv hvc)
  have hl3 := h.len
  have HVC : Hid (∀ col ∈ cols, VCol l col) := fun col hm => by
    have hlen := hvc.len col hm
    rw [List.length_map] at hlen
    refine ⟨hlen, fun s i hs => ?_⟩
    have hsl : s < l.length := by
      rw [← hlen]
      unfold ent1 at hs
      cases hg : col[s]? with
      | none => rw [hg] at hs; cases hs
      | some o => exact (List.getElem?_eq_some_iff.1 hg).1
    have ha := hvc.all s (srcAt l s).length (by rw [List.getElem?_map, srcAt_get hsl]; rfl)
    have hm' : i ∈ List.range (srcAt l s).length := by rw [← ha]; exact List.mem_filterMap.2 ⟨col, hm, hs⟩
    exact List.mem_range.1 hm'
  have HC := Lib.hid (fun W (hW : Below w.heap.size w W) (S3 : Nat → Prop) (ya : Option Addr) (yc : Nat) (col : Cm) (hm : col ∈ cols) (hy : Nums S3 W ya 3 yc (colI col)) => mcost_any S S3 c a ya cp yc l col W (h.below (rSl_ok rTok_ok) hW) hy (HVC.out col hm) hv hc (hE.below hW))
  have HX := Lib.hid hx
  have HLE := Lib.hid (fun j => mSum_le hc l cols j)
  have HSU := Lib.hid (fun j col (hj : cols[j]? = some col) => mSum_succ (c := c) (l := l) hj)
  have H3 : Hid (∀ col ∈ cols, col.length = 3) := fun col hm => by have := (HVC.out col hm).1; omega
  have hb0 : Below w.heap.size w (w.alloc (.cells c.arr 23)) := (Below.refl _ _).alloc (Nat.le_refl _) _
  have hX := World.alloc_heap_new w (.cells c.arr 23)
  clear h hx hv hvc hc hE hl3
  generalize hMS : mSum c l cols = MS at *
  have hM0 : MS 0 = 0 := by rw [← hMS]; simp [mSum]
  have HM0 := Lib.hid hM0
  clear hMS hM0
  generalize mcF c l = MC at *
  obtain ⟨cg, cn, cl, cm⟩ := c
  dsimp only [Cst.val, Cst.arr] at HU HC hb0 hX ⊢
  have hsA : (w.alloc (.cells #[.int .i64 cg, .int .i64 cn, .int .i64 cl, .int .i64 cm] 23)).heap.size = w.heap.size + 1 := by simp
  generalize hWA : w.alloc (.cells #[.int .i64 cg, .int .i64 cn, .int .i64 cl, .int .i64 cm] 23) = WA at *
  have HB0 := Lib.hid hb0
  have HX0 := Lib.hid hX
  have HSA := Lib.hid hsA
  obtain ⟨k0, k1, k2, k3, -⟩ := box_cells4 hX
  clear hb0 hX hsA
  go_enter Tryz.func20, Tryz.ntmps20
  go_wp2_with (first | (go_at_call 41; refine (HU.out _ HB0.out).mono ?_; rintro e w1 ⟨rfl, hb1⟩; have HB1 := Lib.hid (HB0.out.trans (hb1.mono HB0.out.size)); have HX1 := Lib.hid ((hb1.block w.heap.size (by have := HSA.out; omega)).trans HX0.out); clear hb1) | (go_at_call 42; refine (HA.out _ HB1.out).mono ?_; rintro e w2 ⟨rfl, hb2⟩; have HB2 := Lib.hid (HB1.out.trans (hb2.mono HB1.out.size)); have HX2 := Lib.hid ((hb2.block w.heap.size (Array.getElem?_eq_some_iff.1 HX1.out).1).trans HX1.out); clear hb2))
  clear k0 k1 k2 k3
  have hst0 : Hid (Below w2.heap.size w2 w2) := Below.refl _ _
  go_loopw [9, 24] (fun sv jv wr => ∃ (j sm : Nat), sv = .int .i64 (sm : Int) ∧ jv = .int .i64 (j : Int) ∧ j ≤ q ∧ Hid (sm = MS j) ∧ Hid (Below w2.heap.size w2 wr)) (fun _ jv _ => q - (intOf jv).toNat)
  case atStart => exact ⟨0, 0, rfl, rfl, Nat.zero_le _, HM0.out.symm, hst0⟩
  case round =>
    clear hst0
    obtain ⟨j, sm, rfl, rfl, hj, hsm, hb⟩ := hrel
    by_cases hjq : j < q
    · have hbw := HB2.out.trans (hb.out.mono HB2.out.size)
      obtain ⟨x, bx, ox, ya, yn, yc, hxc, -, rfl, -, -, hrow, hcell⟩ := (HX.out.below (rSl_ok rInt_ok) hbw).row hjq
      obtain ⟨col, hcj, rfl⟩ : ∃ col, cols[j]? = some col ∧ colI col = x := by
        rw [List.getElem?_map] at hxc; exact Option.map_eq_some_iff.1 hxc
      have hmc := List.mem_of_getElem? hcj
      have hyn : yn = 3 := by rw [hrow.len, colI, List.length_map]; exact H3.out col hmc
      subst hyn
      have HCALL := Lib.hid (HC.out wr hbw S2 ya yc col hmc hrow)
      have hs1 := HSU.out j col hcj
      have hs2 := HLE.out (j + 1)
      obtain ⟨v, hv⟩ : ∃ v, v = MC col := ⟨_, rfl⟩
      rw [← hv] at HCALL hs1
      obtain ⟨z, hz⟩ : ∃ z, z = sm + v := ⟨_, rfl⟩
      have hsm' := hsm.out
      have hzi : (sm : Int) + (v : Int) = (z : Int) := by omega
      have hzb : z ≤ 3000000 + 3000 := by omega
      have hzw : IntKind.i64.wrap (z : Int) = (z : Int) := by rw [IntKind.wrap_i64]; omega
      have hzd : decide (1073741824 < (z : Int)) = false := decide_eq_false (by omega)
      have hzd2 : decide (1073741824 < z) = false := decide_eq_false (by omega)
      have HZ : Hid (z = MS (j + 1)) := by show z = _; omega
      obtain ⟨k0, k1, k2, k3, -⟩ := box_cells4 ((hb.out.block w.heap.size (Array.getElem?_eq_some_iff.1 HX2.out).1).trans HX2.out)
      have HBR := hb
      clear hbw hxc hrow hcj hmc hs1 hs2 hv hz hsm' hsm hb hzb
      go_wp2_with (go_at_call 43; refine HCALL.out.mono ?_; rintro e w5 ⟨rfl, hb5⟩; have HB5 := Lib.hid hb5; clear hb5)
      have HEND : Hid (Below w2.heap.size w2 w5) := HBR.out.trans (HB5.out.mono HBR.out.size)
      go_roundw
      case rel => exact ⟨j + 1, z, by first | rfl | go_num, by first | rfl | go_num, by omega, HZ, HEND⟩
      case measure => simp [intOf]; omega
    · have hje : q = j := by omega
      subst hje
      have HS := hsm
      have HBR := hb
      clear hsm hb
      go_wp2
      go_ret2
      exact ⟨by rw [← HS.out]; rfl, HB2.out.trans (HBR.out.mono HB2.out.size)⟩
end Go.Proofs.YtaelfjlmkgimhaaGreatDoor

set_option linter.unusedVariables false
set_option linter.unusedSimpArgs false
namespace Go.Proofs.YtaelfjlmkgimhaaGreatDoor
open Go.RowKit Go.Shelf

set_option maxRecDepth 100000 in
set_option maxHeartbeats 4000000 in
/-- The reference's check of costs: 0 only if they are valid. -/
theorem rcosts_any (c : Cst) (w : World) : Calls Tryz.prog 12 #[c.val] w fun e w' => ∃ z : Int, e = .returned (.int .i64 z) ∧ (z = 0 → c.ok) ∧ Below w.heap.size w w' := by
  have hb0 : Below w.heap.size w (w.alloc (.cells c.arr 23)) := (Below.refl _ _).alloc (Nat.le_refl _) _
  have hX := World.alloc_heap_new w (.cells c.arr 23)
  obtain ⟨cg, cn, cl, cm⟩ := c
  dsimp only [Cst.val, Cst.arr] at hb0 hX ⊢
  have hsA : (w.alloc (.cells #[.int .i64 cg, .int .i64 cn, .int .i64 cl, .int .i64 cm] 23)).heap.size = w.heap.size + 1 := by simp
  generalize hWA : w.alloc (.cells #[.int .i64 cg, .int .i64 cn, .int .i64 cl, .int .i64 cm] 23) = WA at *
  obtain ⟨k0, k1, k2, k3, -⟩ := box_cells4 hX
  have HB0 := Lib.hid hb0
  have HX0 := Lib.hid hX
  have hl := World.alloc_heap_new WA (.cells #[.int .i64 cg, .int .i64 cn, .int .i64 cl, .int .i64 cm] 3)
  have hbl : Below WA.heap.size WA (WA.alloc (.cells #[.int .i64 cg, .int .i64 cn, .int .i64 cl, .int .i64 cm] 3)) := (Below.refl _ _).alloc (Nat.le_refl _) _
  rw [hsA] at hl
  have HL := Lib.hid hl
  have HBL := Lib.hid hbl
  clear hb0 hX hl hbl
  go_enter Tryz.func12, Tryz.ntmps12
  go_wp2_with fail
  have HFIN : Hid (Below w.heap.size w (WA.alloc (.cells #[.int .i64 cg, .int .i64 cn, .int .i64 cl, .int .i64 cm] 3))) := HB0.out.trans (HBL.out.mono HB0.out.size)
  obtain ⟨e0, e1, e2, e3, -⟩ := box_cells4 HL.out
  obtain ⟨f0, f1, f2, f3, -⟩ := box_cells4 ((HBL.out.block _ (Array.getElem?_eq_some_iff.1 HX0.out).1).trans HX0.out)
  clear k0 k1 k2 k3
  generalize WA.alloc (.cells #[.int .i64 cg, .int .i64 cn, .int .i64 cl, .int .i64 cm] 3) = WL at *
  go_loopw [4] (fun zv wr => ∃ z : Int, zv = .int .i64 z ∧ (z = 0 ∨ (z = 1 ∧ Hid ((¬ cg < 0 ∧ ¬ 1000 < cg))) ∨ (z = 2 ∧ Hid ((¬ cg < 0 ∧ ¬ 1000 < cg) ∧ (¬ cn < 0 ∧ ¬ 1000 < cn))) ∨ (z = 3 ∧ Hid ((¬ cg < 0 ∧ ¬ 1000 < cg) ∧ (¬ cn < 0 ∧ ¬ 1000 < cn) ∧ (¬ cl < 0 ∧ ¬ 1000 < cl))) ∨ (z = 4 ∧ Hid ((¬ cg < 0 ∧ ¬ 1000 < cg) ∧ (¬ cn < 0 ∧ ¬ 1000 < cn) ∧ (¬ cl < 0 ∧ ¬ 1000 < cl) ∧ (¬ cm < 0 ∧ ¬ 1000 < cm)))) ∧ wr = WL) (fun zv _ => 4 - (intOf zv).toNat)
  case atStart => exact ⟨0, rfl, .inl rfl, rfl⟩
  case round =>
    obtain ⟨z, rfl, hz, rfl⟩ := hrel
    rcases hz with rfl | ⟨rfl, hp⟩ | ⟨rfl, hp⟩ | ⟨rfl, hp⟩ | ⟨rfl, hp⟩
    · skip
      by_cases h1 : cg < 0
      · have d1 : decide (cg < 0) = true := decide_eq_true h1
        go_wp2
        go_ret
        exact ⟨2, rfl, fun h => absurd h (by decide), HFIN.out⟩
      · by_cases h2 : 1000 < cg
        · have d1 : decide (cg < 0) = false := decide_eq_false h1
          have d2 : decide (1000 < cg) = true := decide_eq_true h2
          go_wp2
          go_ret
          exact ⟨2, rfl, fun h => absurd h (by decide), HFIN.out⟩
        · have d1 : decide (cg < 0) = false := decide_eq_false h1
          have d2 : decide (1000 < cg) = false := decide_eq_false h2
          have HR := Lib.hid (And.intro h1 h2)
          clear h1 h2
          go_wp2
          go_roundw
          case rel => exact ⟨1, by first | rfl | go_num, .inr (.inl ⟨rfl, HR.out⟩), trivial⟩
          case measure => simp [intOf]
    · skip
      by_cases h1 : cn < 0
      · have d1 : decide (cn < 0) = true := decide_eq_true h1
        go_wp2
        go_ret
        exact ⟨2, rfl, fun h => absurd h (by decide), HFIN.out⟩
      · by_cases h2 : 1000 < cn
        · have d1 : decide (cn < 0) = false := decide_eq_false h1
          have d2 : decide (1000 < cn) = true := decide_eq_true h2
          go_wp2
          go_ret
          exact ⟨2, rfl, fun h => absurd h (by decide), HFIN.out⟩
        · have d1 : decide (cn < 0) = false := decide_eq_false h1
          have d2 : decide (1000 < cn) = false := decide_eq_false h2
          have HR := Lib.hid (And.intro h1 h2)
          clear h1 h2
          go_wp2
          go_roundw
          case rel => exact ⟨2, by first | rfl | go_num, .inr (.inr (.inl ⟨rfl, ⟨hp.out, HR.out⟩⟩)), trivial⟩
          case measure => simp [intOf]
    · skip
      by_cases h1 : cl < 0
      · have d1 : decide (cl < 0) = true := decide_eq_true h1
        go_wp2
        go_ret
        exact ⟨2, rfl, fun h => absurd h (by decide), HFIN.out⟩
      · by_cases h2 : 1000 < cl
        · have d1 : decide (cl < 0) = false := decide_eq_false h1
          have d2 : decide (1000 < cl) = true := decide_eq_true h2
          go_wp2
          go_ret
          exact ⟨2, rfl, fun h => absurd h (by decide), HFIN.out⟩
        · have d1 : decide (cl < 0) = false := decide_eq_false h1
          have d2 : decide (1000 < cl) = false := decide_eq_false h2
          have HR := Lib.hid (And.intro h1 h2)
          clear h1 h2
          go_wp2
          go_roundw
          case rel => exact ⟨3, by first | rfl | go_num, .inr (.inr (.inr (.inl ⟨rfl, ⟨hp.out.1, hp.out.2, HR.out⟩⟩))), trivial⟩
          case measure => simp [intOf]
    · skip
      by_cases h1 : cm < 0
      · have d1 : decide (cm < 0) = true := decide_eq_true h1
        go_wp2
        go_ret
        exact ⟨2, rfl, fun h => absurd h (by decide), HFIN.out⟩
      · by_cases h2 : 1000 < cm
        · have d1 : decide (cm < 0) = false := decide_eq_false h1
          have d2 : decide (1000 < cm) = true := decide_eq_true h2
          go_wp2
          go_ret
          exact ⟨2, rfl, fun h => absurd h (by decide), HFIN.out⟩
        · have d1 : decide (cm < 0) = false := decide_eq_false h1
          have d2 : decide (1000 < cm) = false := decide_eq_false h2
          have HR := Lib.hid (And.intro h1 h2)
          clear h1 h2
          go_wp2
          go_roundw
          case rel => exact ⟨4, by first | rfl | go_num, .inr (.inr (.inr (.inr ⟨rfl, ⟨hp.out.1, hp.out.2.1, hp.out.2.2, HR.out⟩⟩))), trivial⟩
          case measure => simp [intOf]
    · by_cases h1 : cm < cn
      · have d1 : decide (cm < cn) = true := decide_eq_true h1
        go_wp2
        go_ret
        exact ⟨10, rfl, fun h => absurd h (by decide), HFIN.out⟩
      · have d1 : decide (cm < cn) = false := decide_eq_false h1
        have H1 := Lib.hid h1
        clear h1
        go_wp2
        go_ret
        refine ⟨0, rfl, fun _ => ?_, HFIN.out⟩
        obtain ⟨⟨a1, a2⟩, ⟨b1, b2⟩, ⟨c1, c2⟩, ⟨d1, d2⟩⟩ := hp.out
        have := H1.out
        unfold Cst.ok CstOk
        dsimp only
        refine ⟨by omega, by omega, by omega, by omega, by omega⟩

theorem toList_iff (a b : ByteArray) : a.toList = b.toList ↔ a = b := by
  constructor
  · intro h
    by_cases e : a = b
    · exact e
    · have := str_no e; rw [h] at this; simp at this
  · rintro rfl; rfl
set_option maxRecDepth 100000 in
theorem tok_neq (W : World) (o p : Tok) : (binOp .neq 47 o.val p.val).run Tryz.prog W = .ok (.bool (decide (o ≠ p))) W := by
  obtain ⟨a0, a1, a2, a3, a4, a5⟩ := o
  obtain ⟨b0, b1, b2, b3, b4, b5⟩ := p
  unfold Tok.val
  simp [go_sem, toList_iff]
  by_cases h0 : a0 = b0 <;> by_cases h1 : a1 = b1 <;> by_cases h2 : a2 = b2 <;> by_cases h3 : a3 = b3 <;> by_cases h4 : a4 = b4 <;> by_cases h5 : a5 = b5 <;> simp [*]
/-- A yes or a no. -/
def AnsB (w : World) (e : Ending) (w' : World) : Prop := ∃ b : Bool, e = .returned (.bool b) ∧ Below w.heap.size w w'
set_option maxRecDepth 100000 in
set_option maxHeartbeats 8000000 in
/-- Whether tokens are too great: whatever is answered. -/
theorem great17_any (S : Nat → Prop) (a : Option Addr) (n c : Nat) (l : List Tok) (w : World) (h : Toks S w a n c l) :
    Calls Tryz.prog 32 #[.slice a n c] w (AnsB w) := by
  have hnb := h.bound
  have HH := Lib.hid (fun W (hW : Below w.heap.size w W) => h.below rTok_ok hW)
  clear h
  go_enter Tryz.func32, Tryz.ntmps32
  go_wp2
  go_loopw [3] (fun iv wr => ∃ j : Nat, iv = .int .i64 (j : Int) ∧ j ≤ n ∧ Hid (Below w.heap.size w wr)) (fun iv _ => n - (intOf iv).toNat)
  case atStart => exact ⟨0, rfl, Nat.zero_le _, Below.refl _ _⟩
  case round =>
    obtain ⟨j, rfl, hj, hb⟩ := hrel
    by_cases hjn : j < n
    · obtain ⟨x, b, off, hu, hmem, rfl, -, hbl, hxk, ⟨p0, p1, p2, p3, p4, p5⟩⟩ := (HH.out _ hb.out).tok hjn
      obtain ⟨tx, nm, pg, ln, fl, na⟩ := x
      dsimp only at p0 p1 p2 p3 p4 p5
      clear hu hmem hxk
      by_cases h1 : 12 < tx.size
      · skip
        have dtx : decide (12 < tx.size) = true := decide_eq_true h1
        have etx : decide ((12 : Int) < (tx.size : Int)) = true := decide_eq_true (by omega)
        clear h1
        go_wp2
        go_quiet (fail)
        go_wp2
        go_ret
        exact ⟨true, rfl, below_drewN hb.out nq⟩
      · skip
        have dtx : decide (12 < tx.size) = false := decide_eq_false h1
        have etx : decide ((12 : Int) < (tx.size : Int)) = false := decide_eq_false (by omega)
        clear h1
        by_cases h1 : 12 < nm.size
        · skip
          have dnm : decide (12 < nm.size) = true := decide_eq_true h1
          have enm : decide ((12 : Int) < (nm.size : Int)) = true := decide_eq_true (by omega)
          clear h1
          go_wp2
          go_quiet (fail)
          go_wp2
          go_ret
          exact ⟨true, rfl, below_drewN hb.out nq⟩
        · skip
          have dnm : decide (12 < nm.size) = false := decide_eq_false h1
          have enm : decide ((12 : Int) < (nm.size : Int)) = false := decide_eq_false (by omega)
          clear h1
          by_cases h1 : 20 < pg.size
          · skip
            have dpg : decide (20 < pg.size) = true := decide_eq_true h1
            have epg : decide ((20 : Int) < (pg.size : Int)) = true := decide_eq_true (by omega)
            clear h1
            go_wp2
            go_quiet (fail)
            go_wp2
            go_ret
            exact ⟨true, rfl, below_drewN hb.out nq⟩
          · skip
            have dpg : decide (20 < pg.size) = false := decide_eq_false h1
            have epg : decide ((20 : Int) < (pg.size : Int)) = false := decide_eq_false (by omega)
            clear h1
            by_cases h1 : 20 < na.size
            · skip
              have dna : decide (20 < na.size) = true := decide_eq_true h1
              have ena : decide ((20 : Int) < (na.size : Int)) = true := decide_eq_true (by omega)
              clear h1
              go_wp2
              go_quiet (fail)
              go_wp2
              go_ret
              exact ⟨true, rfl, below_drewN hb.out nq⟩
            · skip
              have dna : decide (20 < na.size) = false := decide_eq_false h1
              have ena : decide ((20 : Int) < (na.size : Int)) = false := decide_eq_false (by omega)
              clear h1
              by_cases h8 : 8 < j
              · obtain ⟨y, b', off', hu8, hm8, e8, -, -, -, ⟨z0, z1, z2, z3, z4, z5⟩⟩ := (HH.out _ hb.out).tok (show 8 < n by omega)
                cases e8
                obtain ⟨ty, ny, py, ly, fy, ky⟩ := y
                dsimp only at z0 z1 z2 z3 z4 z5
                have d8 : decide (8 < j) = true := decide_eq_true h8
                have e8 : decide ((8 : Int) < (j : Int)) = true := decide_eq_true (by omega)
                have d9 : 8 < n := by omega
                clear hu8 hm8 h8
                by_cases hne : (⟨tx, nm, pg, ln, fl, na⟩ : Tok) ≠ ⟨ty, ny, py, ly, fy, ky⟩
                · have hq : ∀ W, (binOp .neq 47 (.agg #[.string tx, .string nm, .string pg, .int .i64 ln, .int .i64 fl, .string na]) (.agg #[.string ty, .string ny, .string py, .int .i64 ly, .int .i64 fy, .string ky])).run Tryz.prog W = .ok (.bool true) W := fun W => (tok_neq W ⟨tx, nm, pg, ln, fl, na⟩ ⟨ty, ny, py, ly, fy, ky⟩).trans (by rw [decide_eq_true hne])
                  clear hne
                  go_wp2
                  go_quiet (fail)
                  go_wp2
                  go_ret
                  exact ⟨true, rfl, below_drewN hb.out nq⟩
                · have hq : ∀ W, (binOp .neq 47 (.agg #[.string tx, .string nm, .string pg, .int .i64 ln, .int .i64 fl, .string na]) (.agg #[.string ty, .string ny, .string py, .int .i64 ly, .int .i64 fy, .string ky])).run Tryz.prog W = .ok (.bool false) W := fun W => (tok_neq W ⟨tx, nm, pg, ln, fl, na⟩ ⟨ty, ny, py, ly, fy, ky⟩).trans (by rw [decide_eq_false hne])
                  clear hne
                  go_wp2
                  go_quiet (fail)
                  go_wp2
                  go_roundw
                  case rel => exact ⟨j + 1, by first | rfl | go_num, by omega, below_drewN hb.out nq⟩
                  case measure => simp [intOf]; omega
              · have d8 : decide (8 < j) = false := decide_eq_false h8
                have e8 : decide ((8 : Int) < (j : Int)) = false := decide_eq_false (by omega)
                clear h8
                go_wp2
                go_quiet (fail)
                go_wp2
                go_roundw
                case rel => exact ⟨j + 1, by first | rfl | go_num, by omega, below_drewN hb.out nq⟩
                case measure => simp [intOf]; omega
    · have hje : j = n := by omega
      subst hje
      go_wp2
      all_goals go_ret
      all_goals exact ⟨_, rfl, hb.out⟩
end Go.Proofs.YtaelfjlmkgimhaaGreatDoor

set_option linter.unusedVariables false
set_option linter.unusedSimpArgs false
namespace Go.Proofs.YtaelfjlmkgimhaaGreatDoor
open Go.RowKit

/-- No only if something holds; yes only if; a number below 0 only if. -/
def AnsN (P : Prop) (w : World) (e : Ending) (w' : World) : Prop := ∃ b : Bool, e = .returned (.bool b) ∧ (b = false → P) ∧ Below w.heap.size w w'
def AnsY (P : Prop) (w : World) (e : Ending) (w' : World) : Prop := ∃ b : Bool, e = .returned (.bool b) ∧ (b = true → P) ∧ Below w.heap.size w w'
def AnsI (P : Prop) (w : World) (e : Ending) (w' : World) : Prop := ∃ z : Int, e = .returned (.int .i64 z) ∧ (z < 0 → P) ∧ Below w.heap.size w w'
set_option maxRecDepth 100000 in
set_option maxHeartbeats 1000000 in
theorem rbad_any (t : Tok) (w : World) : Calls Tryz.prog 17 #[t.val] w fun e w' => e = .returned (.bool (!decide (t.err = 0))) ∧ Below w.heap.size w w' := by
  have HF := Lib.hid (fun W => tok_ref t.text t.norm t.page t.name t.line t.flags W)
  obtain ⟨tx, nm, pg, ln, fl, na⟩ := t
  dsimp only at HF
  have hb0 : Below w.heap.size w (w.alloc (.cells #[.string tx, .string nm, .string pg, .int .i64 ln, .int .i64 fl, .string na] 47)) := (Below.refl _ _).alloc (Nat.le_refl _) _
  obtain ⟨er, her⟩ : ∃ er, er = Tok.err ⟨tx, nm, pg, ln, fl, na⟩ := ⟨_, rfl⟩
  rw [← her] at HF ⊢
  clear her
  change Calls _ _ #[.agg #[.string tx, .string nm, .string pg, .int .i64 ln, .int .i64 fl, .string na]] _ _
  by_cases h : er = 0
  · subst h
    go_enter Tryz.func17, Tryz.ntmps17
    go_wp2_with (go_at_call 18; refine (HF.out _).mono ?_; rintro e w' ⟨rfl, hb'⟩)
    go_ret
    exact ⟨rfl, hb0.trans (hb'.mono hb0.size)⟩
  · have hd : (er != 0) = true := by simpa using h
    have hd2 : (!decide (er = 0)) = true := by simpa using h
    rw [hd2]
    clear hd2
    go_enter Tryz.func17, Tryz.ntmps17
    go_wp2_with (go_at_call 18; refine (HF.out _).mono ?_; rintro e w' ⟨rfl, hb'⟩)
    go_ret
    exact ⟨ret_bool (by first | rfl | simpa using h), hb0.trans (hb'.mono hb0.size)⟩
set_option maxRecDepth 100000 in
set_option maxHeartbeats 2000000 in
theorem rindex_any (S : Nat → Prop) (a : Option Addr) (n c : Nat) (l : List Tok) (w : World) (h : Toks S w a n c l) : Calls Tryz.prog 34 #[.slice a n c, .func (.func 17) #[] #[]] w (AnsI (∀ t ∈ l, t.err = 0) w) := by
  have HN := Lib.hid h.len
  have hL := h.bound
  have HT := Lib.hid (fun W (hW : Below w.heap.size w W) => h.below rTok_ok hW)
  clear h
  go_enter Tryz.func34, Tryz.ntmps34
  go_wp2
  go_loopw [8] (fun i wr => ∃ (j : Nat), i = .int .i64 j ∧ j ≤ n ∧ Hid (∀ t ∈ l.take j, t.err = 0) ∧ Below w.heap.size w wr) (fun i _ => n - (intOf i).toNat)
  case atStart => exact ⟨0, rfl, Nat.zero_le _, by show ∀ t ∈ l.take 0, _; simp, Below.refl _ _⟩
  case round =>
    obtain ⟨j, rfl, hj, hall, hb⟩ := hrel
    by_cases hlj : j < n
    · obtain ⟨t, b, off, hu, hmem, rfl, -, hbl, -, ⟨c0, c1, c2, c3, c4, c5⟩⟩ := (HT.out _ hb).tok hlj
      have HF := Lib.hid (rbad_any t wr)
      have HU := Lib.hid hu
      clear hu hmem
      by_cases he : t.err = 0
      · have hall2 : Hid (∀ t ∈ l.take (j + 1), t.err = 0) := fun y hy => by
          rw [List.take_add_one, HU.out, Option.toList_some] at hy
          rcases List.mem_append.1 hy with hy | hy
          · exact hall.out y hy
          · rw [List.mem_singleton.1 hy]; exact he
        have hf : (!decide (t.err = 0)) = false := by simp [he]
        rw [hf] at HF
        clear he hf HU
        obtain ⟨tx, nm, pg, ln, fl, na⟩ := t
        dsimp only [Tok.val] at c0 c1 c2 c3 c4 c5 HF
        go_wp2_with (go_at_call 17; refine HF.out.mono ?_; rintro e w' ⟨rfl, hb'⟩)
        go_roundw
        case rel => exact ⟨j + 1, by go_num, by omega, hall2, hb.trans (hb'.mono hb.size)⟩
        case measure => simp [intOf]; omega
      · have hf : (!decide (t.err = 0)) = true := by simp [he]
        rw [hf] at HF
        clear he hf HU
        obtain ⟨tx, nm, pg, ln, fl, na⟩ := t
        dsimp only [Tok.val] at c0 c1 c2 c3 c4 c5 HF
        go_wp2_with (go_at_call 17; refine HF.out.mono ?_; rintro e w' ⟨rfl, hb'⟩)
        go_ret
        exact ⟨(j : Int), rfl, fun h => by omega, hb.trans (hb'.mono hb.size)⟩
    · have hje : j = n := by omega
      go_wp2
      go_ret
      exact ⟨-1, rfl, fun _ => by rw [hje, HN.out, List.take_length] at hall; exact hall.out, hb⟩
set_option maxRecDepth 100000 in
theorem rcont_any (S : Nat → Prop) (a : Option Addr) (n c : Nat) (l : List Tok) (w : World) (h : Toks S w a n c l) : Calls Tryz.prog 16 #[.slice a n c, .func (.func 17) #[] #[]] w (AnsN (∀ t ∈ l, t.err = 0) w) := by
  have F := Lib.hid (rindex_any S a n c l w h)
  clear h
  go_enter Tryz.func16, Tryz.ntmps16
  go_wp2_with (go_at_call 34; refine F.out.mono ?_; rintro e w' ⟨z, rfl, hz, hb'⟩)
  go_ret
  exact ⟨decide (0 ≤ z), rfl, fun h => hz (by simpa using h), hb'⟩
set_option maxRecDepth 100000 in
theorem rlong_any (S : Nat → Prop) (a : Option Addr) (n c : Nat) (l : List Tok) (w : World) (h : Toks S w a n c l) : Calls Tryz.prog 15 #[.slice a n c] w (AnsN (l.length ≤ 4 ∧ ∀ t ∈ l, t.err = 0) w) := by
  have F := Lib.hid (rcont_any S a n c l w h)
  have HN := Lib.hid h.len
  clear h
  by_cases h4 : 4 < n
  · have d1 : decide (4 < n) = true := decide_eq_true h4
    have d2 : decide ((4 : Int) < (n : Int)) = true := decide_eq_true (by omega)
    clear h4
    go_enter Tryz.func15, Tryz.ntmps15
    go_wp2
    go_ret
    exact ⟨true, rfl, (fun h => by cases h), Below.refl _ _⟩
  · have d1 : decide (4 < n) = false := decide_eq_false h4
    have d2 : decide ((4 : Int) < (n : Int)) = false := decide_eq_false (by omega)
    have H4 : Hid (l.length ≤ 4) := by show _ ≤ _; have := HN.out; omega
    clear h4
    go_enter Tryz.func15, Tryz.ntmps15
    go_wp2_with (go_at_call 16; refine F.out.mono ?_; rintro e w' ⟨b, rfl, hbp, hb'⟩; have HB := Lib.hid hbp; clear hbp)
    go_ret
    exact ⟨b, rfl, fun h => ⟨H4.out, HB.out h⟩, hb'⟩
set_option maxRecDepth 100000 in
set_option maxHeartbeats 2000000 in
theorem rindexl_any (S : Nat → Prop) (a : Option Addr) (n c : Nat) (l : List (List Tok)) (w : World) (h : Tokss S w a n c l) : Calls Tryz.prog 33 #[.slice a n c, .func (.func 15) #[] #[]] w (AnsI (∀ r ∈ l, r.length ≤ 4 ∧ ∀ t ∈ r, t.err = 0) w) := by
  have HN := Lib.hid h.len
  have hL := h.bound
  have HT := Lib.hid (fun W (hW : Below w.heap.size w W) => h.below (rSl_ok rTok_ok) hW)
  clear h
  go_enter Tryz.func33, Tryz.ntmps33
  go_wp2
  go_loopw [8] (fun i wr => ∃ (j : Nat), i = .int .i64 j ∧ j ≤ n ∧ Hid (∀ r ∈ l.take j, r.length ≤ 4 ∧ ∀ t ∈ r, t.err = 0) ∧ Below w.heap.size w wr) (fun i _ => n - (intOf i).toNat)
  case atStart => exact ⟨0, rfl, Nat.zero_le _, by show ∀ t ∈ l.take 0, _; simp, Below.refl _ _⟩
  case round =>
    obtain ⟨j, rfl, hj, hall, hb⟩ := hrel
    by_cases hlj : j < n
    · obtain ⟨r, b, off, a', n', c', hu, hmem, rfl, -, hbl, hr, c0⟩ := (HT.out _ hb).row hlj
      have HF := Lib.hid (rlong_any S a' n' c' r wr hr)
      have HU := Lib.hid hu
      clear hu hmem hr
      go_wp2_with (go_at_call 15; refine HF.out.mono ?_; rintro e w' ⟨bb, rfl, hbp, hb'⟩; have HB := Lib.hid hbp; clear hbp; cases bb)
      · have hall2 : Hid (∀ r ∈ l.take (j + 1), r.length ≤ 4 ∧ ∀ t ∈ r, t.err = 0) := fun y hy => by
          rw [List.take_add_one, HU.out, Option.toList_some] at hy
          rcases List.mem_append.1 hy with hy | hy
          · exact hall.out y hy
          · rw [List.mem_singleton.1 hy]; exact HB.out trivial
        exact ⟨⟨j + 1, by first | rfl | go_num, by omega, hall2, hb.trans (hb'.mono hb.size)⟩, by simp [intOf]; omega⟩
      · go_ret
        exact ⟨(j : Int), rfl, (fun h => by omega), hb.trans (hb'.mono hb.size)⟩
    · have hje : j = n := by omega
      go_wp2
      go_ret
      exact ⟨-1, rfl, fun _ => by rw [hje, HN.out, List.take_length] at hall; exact hall.out, hb⟩
set_option maxRecDepth 100000 in
theorem rcontl_any (S : Nat → Prop) (a : Option Addr) (n c : Nat) (l : List (List Tok)) (w : World) (h : Tokss S w a n c l) : Calls Tryz.prog 14 #[.slice a n c, .func (.func 15) #[] #[]] w (AnsN (∀ r ∈ l, r.length ≤ 4 ∧ ∀ t ∈ r, t.err = 0) w) := by
  have F := Lib.hid (rindexl_any S a n c l w h)
  clear h
  go_enter Tryz.func14, Tryz.ntmps14
  go_wp2_with (go_at_call 33; refine F.out.mono ?_; rintro e w' ⟨z, rfl, hz, hb'⟩)
  go_ret
  exact ⟨decide (0 ≤ z), rfl, fun h => hz (by simpa using h), hb'⟩
set_option maxRecDepth 100000 in
set_option maxHeartbeats 2000000 in
theorem great21_any (S : Nat → Prop) (a : Option Addr) (n c : Nat) (l : List (List Tok)) (w : World) (h : Tokss S w a n c l) : Calls Tryz.prog 13 #[.slice a n c] w (AnsB w) := by
  have hL := h.bound
  have HT := Lib.hid (fun W (hW : Below w.heap.size w W) => h.below (rSl_ok rTok_ok) hW)
  clear h
  go_enter Tryz.func13, Tryz.ntmps13
  go_wp2
  go_loopw [3] (fun i wr => ∃ (j : Nat), i = .int .i64 j ∧ j ≤ n ∧ Below w.heap.size w wr) (fun i _ => n - (intOf i).toNat)
  case atStart => exact ⟨0, rfl, Nat.zero_le _, Below.refl _ _⟩
  case round =>
    obtain ⟨j, rfl, hj, hb⟩ := hrel
    by_cases hlj : j < n
    · obtain ⟨r, b, off, a', n', c', hu, hmem, rfl, -, hbl, hr, c0⟩ := (HT.out _ hb).row hlj
      have HF := Lib.hid (great17_any S a' n' c' r wr hr)
      clear hu hmem hr
      by_cases h5 : 5 < n'
      · have d1 : decide (5 < n') = true := decide_eq_true h5
        have d2 : decide ((5 : Int) < (n' : Int)) = true := decide_eq_true (by omega)
        clear h5
        go_wp2
        go_ret
        exact ⟨true, rfl, hb⟩
      · have d1 : decide (5 < n') = false := decide_eq_false h5
        have d2 : decide ((5 : Int) < (n' : Int)) = false := decide_eq_false (by omega)
        clear h5
        go_wp2_with (go_at_call 32; refine HF.out.mono ?_; rintro e w' ⟨bb, rfl, hb'⟩; cases bb)
        · exact ⟨⟨j + 1, by first | rfl | go_num, by omega, hb.trans (hb'.mono hb.size)⟩, by simp [intOf]; omega⟩
        · go_ret
          exact ⟨true, rfl, hb.trans (hb'.mono hb.size)⟩
    · have hje : j = n := by omega
      go_wp2
      go_ret
      exact ⟨_, rfl, hb⟩
theorem zcases (z : Int) : (z != 0) = true ∨ ((z != 0) = false ∧ Hid (z = 0)) := by
  by_cases h : z = 0
  · exact .inr ⟨by rw [h]; rfl, h⟩
  · exact .inl (by simpa using h)
set_option maxRecDepth 100000 in
set_option maxHeartbeats 4000000 in
theorem fine_any' (S : Nat → Prop) (c : Cst) (a : Option Addr) (n cp : Nat) (l : List (List Tok)) (w : World) (h : Tokss S w a n cp l) :
    Calls Tryz.prog 4 #[c.val, .slice a n cp] w (AnsY (c.ok ∧ 0 < n ∧ n ≤ 3 ∧ ∀ r ∈ l, r.length ≤ 4 ∧ ∀ t ∈ r, t.err = 0) w) := by
  have hb0 : Below w.heap.size w (w.alloc (.cells c.arr 23)) := (Below.refl _ _).alloc (Nat.le_refl _) _
  have hX := World.alloc_heap_new w (.cells c.arr 23)
  have HC := Lib.hid (fun W => rcosts_any c W)
  have HG := Lib.hid (fun W (hW : Below w.heap.size w W) => great21_any S a n cp l W (h.below (rSl_ok rTok_ok) hW))
  have HL := Lib.hid (fun W (hW : Below w.heap.size w W) => rcontl_any S a n cp l W (h.below (rSl_ok rTok_ok) hW))
  have hL := h.bound
  clear h
  generalize hok : c.ok = OK at *
  obtain ⟨cg, cn, cl, cm⟩ := c
  dsimp only [Cst.val, Cst.arr] at hb0 hX HC ⊢
  have hsA : (w.alloc (.cells #[.int .i64 cg, .int .i64 cn, .int .i64 cl, .int .i64 cm] 23)).heap.size = w.heap.size + 1 := by simp
  generalize hWA : w.alloc (.cells #[.int .i64 cg, .int .i64 cn, .int .i64 cl, .int .i64 cm] 23) = WA at *
  obtain ⟨k0, k1, k2, k3, -⟩ := box_cells4 hX
  have HB0 := Lib.hid hb0
  clear hb0 hX hok
  by_cases h0 : n = 0
  · have d2 : ((n : Int) == 0) = true := by rw [h0]; rfl
    have d2' : (n == 0) = true := by rw [h0]; rfl
    clear h0
    go_enter Tryz.func4, Tryz.ntmps4
    go_wp2_with (first | (go_at_call 12; refine (HC.out _).mono ?_; rintro e w1 ⟨z, rfl, hz, hb1⟩; have HZ := Lib.hid hz; have HB1 := Lib.hid (HB0.out.trans (hb1.mono HB0.out.size)); clear hz hb1; rcases zcases z with e0 | ⟨e0, e0'⟩) | (go_at_call 13; refine (HG.out _ HB1.out).mono ?_; rintro e w2 ⟨bb, rfl, hb2⟩; have HB2 := Lib.hid (HB1.out.trans (hb2.mono HB1.out.size)); clear hb2; cases bb) | (go_at_call 14; refine (HL.out _ HB2.out).mono ?_; rintro e w3 ⟨bb, rfl, hbp, hb3⟩; have HB3 := Lib.hid (HB2.out.trans (hb3.mono HB2.out.size)); have HP := Lib.hid hbp; clear hb3 hbp))
    all_goals go_ret
    all_goals first | exact ⟨false, rfl, (fun h => by cases h), HB2.out⟩ | exact ⟨false, rfl, (fun h => by cases h), HB1.out⟩
  · have d2 : ((n : Int) == 0) = false := by rw [beq_eq_false_iff_ne]; omega
    have d2' : (n == 0) = false := by rw [beq_eq_false_iff_ne]; exact h0
    by_cases h3 : 3 < n
    · have d3 : decide (3 < n) = true := decide_eq_true h3
      have d3' : decide ((3 : Int) < (n : Int)) = true := decide_eq_true (by omega)
      clear h0 h3
      go_enter Tryz.func4, Tryz.ntmps4
      go_wp2_with (first | (go_at_call 12; refine (HC.out _).mono ?_; rintro e w1 ⟨z, rfl, hz, hb1⟩; have HZ := Lib.hid hz; have HB1 := Lib.hid (HB0.out.trans (hb1.mono HB0.out.size)); clear hz hb1; rcases zcases z with e0 | ⟨e0, e0'⟩) | (go_at_call 13; refine (HG.out _ HB1.out).mono ?_; rintro e w2 ⟨bb, rfl, hb2⟩; have HB2 := Lib.hid (HB1.out.trans (hb2.mono HB1.out.size)); clear hb2; cases bb) | (go_at_call 14; refine (HL.out _ HB2.out).mono ?_; rintro e w3 ⟨bb, rfl, hbp, hb3⟩; have HB3 := Lib.hid (HB2.out.trans (hb3.mono HB2.out.size)); have HP := Lib.hid hbp; clear hb3 hbp))
      all_goals go_ret
      all_goals first | exact ⟨false, rfl, (fun h => by cases h), HB2.out⟩ | exact ⟨false, rfl, (fun h => by cases h), HB1.out⟩
    · have d3 : decide (3 < n) = false := decide_eq_false h3
      have d3' : decide ((3 : Int) < (n : Int)) = false := decide_eq_false (by omega)
      have HN : Hid (0 < n ∧ n ≤ 3) := by show _ ∧ _; omega
      clear h0 h3
      go_enter Tryz.func4, Tryz.ntmps4
      go_wp2_with (first | (go_at_call 12; refine (HC.out _).mono ?_; rintro e w1 ⟨z, rfl, hz, hb1⟩; have HZ := Lib.hid hz; have HB1 := Lib.hid (HB0.out.trans (hb1.mono HB0.out.size)); clear hz hb1; rcases zcases z with e0 | ⟨e0, e0'⟩) | (go_at_call 13; refine (HG.out _ HB1.out).mono ?_; rintro e w2 ⟨bb, rfl, hb2⟩; have HB2 := Lib.hid (HB1.out.trans (hb2.mono HB1.out.size)); clear hb2; cases bb) | (go_at_call 14; refine (HL.out _ HB2.out).mono ?_; rintro e w3 ⟨bb, rfl, hbp, hb3⟩; have HB3 := Lib.hid (HB2.out.trans (hb3.mono HB2.out.size)); have HP := Lib.hid hbp; clear hb3 hbp))
      · go_ret
        exact ⟨false, rfl, (fun h => by cases h), HB1.out⟩
      · go_ret
        exact ⟨!bb, rfl, fun h => ⟨HZ.out e0'.out, HN.out.1, HN.out.2, HP.out (by simpa using h)⟩, HB3.out⟩
      · go_ret
        exact ⟨false, rfl, (fun h => by cases h), HB2.out⟩
end Go.Proofs.YtaelfjlmkgimhaaGreatDoor

set_option linter.unusedVariables false
set_option linter.unusedSimpArgs false
namespace Go.Proofs.YtaelfjlmkgimhaaGreatDoor
open Go.RowKit

/-- The columns that Align yields. -/
def alnC (c : Cst) (l : List (List Tok)) : List Cm := (colsA c l (ordF c l) l.length).map (arr l.length (ordF c l))
theorem alnC_eq (c : Cst) (l : List (List Tok)) : alnC c l = allC (PqA c l (ordF c l)) (GqA c l (ordF c l)) (FqA c l (ordF c l)) (l.map List.length) (ordF c l) := by
  unfold alnC allC colsA
  rw [List.length_map]; rfl
theorem alnC_vc {c : Cst} {l : List (List Tok)} (h2 : l.length = 2 ∨ l.length = 3) : Vc (l.map List.length) (alnC c l) := by
  obtain ⟨hnd, hol, hlt⟩ := ordF_ok (c := c) h2
  rw [alnC_eq]
  exact allC_vc hnd (by rw [List.length_map]; exact hol) (by rw [List.length_map]; exact hlt)
theorem len_at {l : List (List Tok)} {i : Nat} (h : i < l.length) : (l.map List.length)[i]? = some (srcAt l i).length := by rw [List.getElem?_map, srcAt_get h]; rfl
theorem alnC_aln {c : Cst} {l : List (List Tok)} (h2 : l.length = 2 ∨ l.length = 3) {i k : Nat} (hi : i < l.length) (hk : k < l.length) : Aln (srcAt l i).length (srcAt l k).length (prs i k (alnC c l)) := by
  have hv := alnC_vc (c := c) h2
  exact ⟨by rw [prs_fst, hv.all i _ (len_at hi)], by rw [prs_snd, hv.all k _ (len_at hk)], prs_ne⟩
theorem alnC_least {c : Cst} {l : List (List Tok)} (h2 : l.length = 2 ∨ l.length = 3) {i k : Nat} (hi : i < l.length) (hk : k < l.length) :
    tabS c (srcAt l i) (srcAt l k) 0 0 ≤ cstL (pN c (srcAt l i) (srcAt l k)) (gN c (srcAt l i)) (gN c (srcAt l k)) (prs i k (alnC c l)) := by
  rw [tabS_range]
  exact prs_least (alnC_vc h2) _ _ _ (len_at hi) (len_at hk)
theorem ordF_two {c : Cst} {l : List (List Tok)} (h2 : l.length = 2 ∨ l.length = 3) : ∃ f s, f < s ∧ s < l.length ∧ (ordF c l)[0]? = some f ∧ (ordF c l)[1]? = some s ∧ (ordF c l).take 2 = [f, s] := by
  obtain ⟨h, h'⟩ := stO_ok (D := dstN c l) (n := l.length) (by omega) l.length
  refine ⟨_, _, h, h', ?_, ?_, ?_⟩ <;> (unfold ordF ordN; split <;> rfl)
theorem alnC_first {c : Cst} {l : List (List Tok)} (h2 : l.length = 2 ∨ l.length = 3) {i k : Nat} (hik : i < k) (hmi : i ∈ (ordF c l).take 2) (hmk : k ∈ (ordF c l).take 2) :
    cstL (pN c (srcAt l i) (srcAt l k)) (gN c (srcAt l i)) (gN c (srcAt l k)) (prs i k (alnC c l)) = tabS c (srcAt l i) (srcAt l k) 0 0 := by
  obtain ⟨hnd, hol, hlt⟩ := ordF_ok (c := c) h2
  obtain ⟨f, s, hfs, hsl, h0, h1, ht⟩ := ordF_two (c := c) h2
  rw [ht] at hmi hmk
  simp only [List.mem_cons, List.not_mem_nil, or_false] at hmi hmk
  obtain ⟨rfl, rfl⟩ : i = f ∧ k = s := by omega
  rw [tabS_range, alnC_eq]
  have e1 : tkn l (ordF c l) 1 = [srcAt l i] := by
    have := tkn_succ (l := l) (order := ordF c l) h0
    rw [this]; rfl
  have e2 : nxt l (ordF c l) 1 = srcAt l k := nxt_eq h1
  refine allC_first hnd (by rw [List.length_map]; exact hol) (by rw [List.length_map]; exact hlt) (fun a y => ?_) (fun a => ?_) (fun y => ?_) h0 h1 (len_at (by omega)) (len_at hsl)
  · unfold PqA; rw [e1, e2]
    show 0 + coO c _ _ = _
    rw [Nat.zero_add]; rfl
  · unfold GqA; rw [e1, e2]
    show 0 + coO c _ _ = _
    rw [Nat.zero_add]; rfl
  · unfold FqA; rw [e1, e2]
    show 0 + coO c _ _ = _
    rw [Nat.zero_add]; rfl
theorem prF_eq (i k : Nat) (cols : List Cm) : prF i k cols = prI (prs i k cols) := (prI_prs cols).symm
/-- The example. -/
def wd0 (b : UInt8) : Tok := ⟨⟨#[b]⟩, ⟨#[b]⟩, ⟨#[]⟩, 0, 0, ⟨#[]⟩⟩
def ex0 : List (List Tok) := [[wd0 97, wd0 98], [wd0 97], [wd0 98]]
def c00 : Cst := ⟨40, 5, 50, 50⟩
theorem ex_ok : ∀ t ∈ ex0, ∀ x ∈ t, x.err = 0 := by decide +kernel
theorem ex_cols : (alnC c00 ex0).length = 2 := by decide +kernel
theorem ex_dist : tabS c00 (srcAt ex0 0) (srcAt ex0 1) 0 0 = 40 := by decide +kernel
theorem ex_cost : mSum c00 ex0 (alnC c00 ex0) 2 = 160 := by decide +kernel
end Go.Proofs.YtaelfjlmkgimhaaGreatDoor

set_option linter.unusedVariables false
set_option linter.unusedSimpArgs false
namespace Go.Proofs.YtaelfjlmkgimhaaGreatDoor
open Go.RowKit Go.Shelf

theorem toks_lit {W : World} {g : Nat} {ts : List Tok} (n : Nat) (h : W.heap[g]? = some (.cells (ts.flatMap Tok.cells).toArray 47 (0, 0))) (hn : n = ts.length) (hb : n ≤ 32) (hok : ∀ t ∈ ts, t.ok) : Toks (fun _ => True) W (some ⟨g, 0, none⟩) n n ts := by
  have o : OwnQ 47 6 Tok.cells W g (some ⟨g, 0, none⟩) n n ts :=
    ⟨hn, by rw [flat_len tok_len, hn], Or.inr ⟨g, n, (ts.flatMap Tok.cells).toArray, rfl, Nat.le_refl _, h, Nat.le_refl _, by unfold maxLen; omega, by rw [List.size_toArray, flat_len tok_len, hn], by rw [List.take_of_length_le (by rw [flat_len tok_len, hn]; exact Nat.le_refl _)]⟩⟩
  exact o.sq (R := rTok) tok_len (by omega) (fun _ _ => trivial) (fun t ht => ⟨rfl, hok t ht⟩)
theorem wd0_ok (b : UInt8) : (wd0 b).ok := by
  have hi : I64 0 := ⟨by decide, by decide⟩
  have h0 : ∀ n : Nat, n ≤ 1 → n ≤ 140737488355328 := fun n h => by omega
  exact ⟨h0 1 (by decide), h0 1 (by decide), h0 0 (by decide), hi, hi, h0 0 (by decide)⟩
theorem alloc_keep {w : World} {o o' : Obj} {b : Nat} (h : w.heap[b]? = some o) : (w.alloc o').heap[b]? = some o := by
  rw [Below.heap_alloc _ _ _ (Array.getElem?_eq_some_iff.1 h).1]; exact h
theorem lay_ex (w : World) : Tokss (fun _ => True) ((((((((w.alloc (.cells #[.string ⟨#[97]⟩, .string ⟨#[97]⟩, .string ⟨#[]⟩, .int .i64 0, .int .i64 0, .string ⟨#[]⟩] 47)).alloc (.cells #[.string ⟨#[98]⟩, .string ⟨#[98]⟩, .string ⟨#[]⟩, .int .i64 0, .int .i64 0, .string ⟨#[]⟩] 47)).alloc (.cells #[.string ⟨#[97]⟩, .string ⟨#[97]⟩, .string ⟨#[]⟩, .int .i64 0, .int .i64 0, .string ⟨#[]⟩, .string ⟨#[98]⟩, .string ⟨#[98]⟩, .string ⟨#[]⟩, .int .i64 0, .int .i64 0, .string ⟨#[]⟩] 47)).alloc (.cells #[.string ⟨#[97]⟩, .string ⟨#[97]⟩, .string ⟨#[]⟩, .int .i64 0, .int .i64 0, .string ⟨#[]⟩] 47)).alloc (.cells #[.string ⟨#[97]⟩, .string ⟨#[97]⟩, .string ⟨#[]⟩, .int .i64 0, .int .i64 0, .string ⟨#[]⟩] 47)).alloc (.cells #[.string ⟨#[98]⟩, .string ⟨#[98]⟩, .string ⟨#[]⟩, .int .i64 0, .int .i64 0, .string ⟨#[]⟩] 47)).alloc (.cells #[.string ⟨#[98]⟩, .string ⟨#[98]⟩, .string ⟨#[]⟩, .int .i64 0, .int .i64 0, .string ⟨#[]⟩] 47)).alloc (.cells #[.slice (some ⟨w.heap.size + 1 + 1, 0, none⟩) 2 2, .slice (some ⟨w.heap.size + 1 + 1 + 1 + 1, 0, none⟩) 1 1, .slice (some ⟨w.heap.size + 1 + 1 + 1 + 1 + 1 + 1, 0, none⟩) 1 1] 37)) (some ⟨w.heap.size + 1 + 1 + 1 + 1 + 1 + 1 + 1, 0, none⟩) 3 3 ex0 ∧ Below w.heap.size w ((((((((w.alloc (.cells #[.string ⟨#[97]⟩, .string ⟨#[97]⟩, .string ⟨#[]⟩, .int .i64 0, .int .i64 0, .string ⟨#[]⟩] 47)).alloc (.cells #[.string ⟨#[98]⟩, .string ⟨#[98]⟩, .string ⟨#[]⟩, .int .i64 0, .int .i64 0, .string ⟨#[]⟩] 47)).alloc (.cells #[.string ⟨#[97]⟩, .string ⟨#[97]⟩, .string ⟨#[]⟩, .int .i64 0, .int .i64 0, .string ⟨#[]⟩, .string ⟨#[98]⟩, .string ⟨#[98]⟩, .string ⟨#[]⟩, .int .i64 0, .int .i64 0, .string ⟨#[]⟩] 47)).alloc (.cells #[.string ⟨#[97]⟩, .string ⟨#[97]⟩, .string ⟨#[]⟩, .int .i64 0, .int .i64 0, .string ⟨#[]⟩] 47)).alloc (.cells #[.string ⟨#[97]⟩, .string ⟨#[97]⟩, .string ⟨#[]⟩, .int .i64 0, .int .i64 0, .string ⟨#[]⟩] 47)).alloc (.cells #[.string ⟨#[98]⟩, .string ⟨#[98]⟩, .string ⟨#[]⟩, .int .i64 0, .int .i64 0, .string ⟨#[]⟩] 47)).alloc (.cells #[.string ⟨#[98]⟩, .string ⟨#[98]⟩, .string ⟨#[]⟩, .int .i64 0, .int .i64 0, .string ⟨#[]⟩] 47)).alloc (.cells #[.slice (some ⟨w.heap.size + 1 + 1, 0, none⟩) 2 2, .slice (some ⟨w.heap.size + 1 + 1 + 1 + 1, 0, none⟩) 1 1, .slice (some ⟨w.heap.size + 1 + 1 + 1 + 1 + 1 + 1, 0, none⟩) 1 1] 37)) := by
  have h3 : (((((((((w.alloc (.cells #[.string ⟨#[97]⟩, .string ⟨#[97]⟩, .string ⟨#[]⟩, .int .i64 0, .int .i64 0, .string ⟨#[]⟩] 47)).alloc (.cells #[.string ⟨#[98]⟩, .string ⟨#[98]⟩, .string ⟨#[]⟩, .int .i64 0, .int .i64 0, .string ⟨#[]⟩] 47)).alloc (.cells #[.string ⟨#[97]⟩, .string ⟨#[97]⟩, .string ⟨#[]⟩, .int .i64 0, .int .i64 0, .string ⟨#[]⟩, .string ⟨#[98]⟩, .string ⟨#[98]⟩, .string ⟨#[]⟩, .int .i64 0, .int .i64 0, .string ⟨#[]⟩] 47)).alloc (.cells #[.string ⟨#[97]⟩, .string ⟨#[97]⟩, .string ⟨#[]⟩, .int .i64 0, .int .i64 0, .string ⟨#[]⟩] 47)).alloc (.cells #[.string ⟨#[97]⟩, .string ⟨#[97]⟩, .string ⟨#[]⟩, .int .i64 0, .int .i64 0, .string ⟨#[]⟩] 47)).alloc (.cells #[.string ⟨#[98]⟩, .string ⟨#[98]⟩, .string ⟨#[]⟩, .int .i64 0, .int .i64 0, .string ⟨#[]⟩] 47)).alloc (.cells #[.string ⟨#[98]⟩, .string ⟨#[98]⟩, .string ⟨#[]⟩, .int .i64 0, .int .i64 0, .string ⟨#[]⟩] 47)).alloc (.cells #[.slice (some ⟨w.heap.size + 1 + 1, 0, none⟩) 2 2, .slice (some ⟨w.heap.size + 1 + 1 + 1 + 1, 0, none⟩) 1 1, .slice (some ⟨w.heap.size + 1 + 1 + 1 + 1 + 1 + 1, 0, none⟩) 1 1] 37))).heap[w.heap.size + 1 + 1]? = some (.cells #[.string ⟨#[97]⟩, .string ⟨#[97]⟩, .string ⟨#[]⟩, .int .i64 0, .int .i64 0, .string ⟨#[]⟩, .string ⟨#[98]⟩, .string ⟨#[98]⟩, .string ⟨#[]⟩, .int .i64 0, .int .i64 0, .string ⟨#[]⟩] 47 (0, 0)) := by
    refine alloc_keep (alloc_keep (alloc_keep (alloc_keep (alloc_keep ?_))))
    have := World.alloc_heap_new ((w.alloc (.cells #[.string ⟨#[97]⟩, .string ⟨#[97]⟩, .string ⟨#[]⟩, .int .i64 0, .int .i64 0, .string ⟨#[]⟩] 47)).alloc (.cells #[.string ⟨#[98]⟩, .string ⟨#[98]⟩, .string ⟨#[]⟩, .int .i64 0, .int .i64 0, .string ⟨#[]⟩] 47)) (.cells #[.string ⟨#[97]⟩, .string ⟨#[97]⟩, .string ⟨#[]⟩, .int .i64 0, .int .i64 0, .string ⟨#[]⟩, .string ⟨#[98]⟩, .string ⟨#[98]⟩, .string ⟨#[]⟩, .int .i64 0, .int .i64 0, .string ⟨#[]⟩] 47)
    simpa using this
  have h5 : (((((((((w.alloc (.cells #[.string ⟨#[97]⟩, .string ⟨#[97]⟩, .string ⟨#[]⟩, .int .i64 0, .int .i64 0, .string ⟨#[]⟩] 47)).alloc (.cells #[.string ⟨#[98]⟩, .string ⟨#[98]⟩, .string ⟨#[]⟩, .int .i64 0, .int .i64 0, .string ⟨#[]⟩] 47)).alloc (.cells #[.string ⟨#[97]⟩, .string ⟨#[97]⟩, .string ⟨#[]⟩, .int .i64 0, .int .i64 0, .string ⟨#[]⟩, .string ⟨#[98]⟩, .string ⟨#[98]⟩, .string ⟨#[]⟩, .int .i64 0, .int .i64 0, .string ⟨#[]⟩] 47)).alloc (.cells #[.string ⟨#[97]⟩, .string ⟨#[97]⟩, .string ⟨#[]⟩, .int .i64 0, .int .i64 0, .string ⟨#[]⟩] 47)).alloc (.cells #[.string ⟨#[97]⟩, .string ⟨#[97]⟩, .string ⟨#[]⟩, .int .i64 0, .int .i64 0, .string ⟨#[]⟩] 47)).alloc (.cells #[.string ⟨#[98]⟩, .string ⟨#[98]⟩, .string ⟨#[]⟩, .int .i64 0, .int .i64 0, .string ⟨#[]⟩] 47)).alloc (.cells #[.string ⟨#[98]⟩, .string ⟨#[98]⟩, .string ⟨#[]⟩, .int .i64 0, .int .i64 0, .string ⟨#[]⟩] 47)).alloc (.cells #[.slice (some ⟨w.heap.size + 1 + 1, 0, none⟩) 2 2, .slice (some ⟨w.heap.size + 1 + 1 + 1 + 1, 0, none⟩) 1 1, .slice (some ⟨w.heap.size + 1 + 1 + 1 + 1 + 1 + 1, 0, none⟩) 1 1] 37))).heap[w.heap.size + 1 + 1 + 1 + 1]? = some (.cells #[.string ⟨#[97]⟩, .string ⟨#[97]⟩, .string ⟨#[]⟩, .int .i64 0, .int .i64 0, .string ⟨#[]⟩] 47 (0, 0)) := by
    refine alloc_keep (alloc_keep (alloc_keep ?_))
    have := World.alloc_heap_new ((((w.alloc (.cells #[.string ⟨#[97]⟩, .string ⟨#[97]⟩, .string ⟨#[]⟩, .int .i64 0, .int .i64 0, .string ⟨#[]⟩] 47)).alloc (.cells #[.string ⟨#[98]⟩, .string ⟨#[98]⟩, .string ⟨#[]⟩, .int .i64 0, .int .i64 0, .string ⟨#[]⟩] 47)).alloc (.cells #[.string ⟨#[97]⟩, .string ⟨#[97]⟩, .string ⟨#[]⟩, .int .i64 0, .int .i64 0, .string ⟨#[]⟩, .string ⟨#[98]⟩, .string ⟨#[98]⟩, .string ⟨#[]⟩, .int .i64 0, .int .i64 0, .string ⟨#[]⟩] 47)).alloc (.cells #[.string ⟨#[97]⟩, .string ⟨#[97]⟩, .string ⟨#[]⟩, .int .i64 0, .int .i64 0, .string ⟨#[]⟩] 47)) (.cells #[.string ⟨#[97]⟩, .string ⟨#[97]⟩, .string ⟨#[]⟩, .int .i64 0, .int .i64 0, .string ⟨#[]⟩] 47)
    simpa using this
  have h7 : (((((((((w.alloc (.cells #[.string ⟨#[97]⟩, .string ⟨#[97]⟩, .string ⟨#[]⟩, .int .i64 0, .int .i64 0, .string ⟨#[]⟩] 47)).alloc (.cells #[.string ⟨#[98]⟩, .string ⟨#[98]⟩, .string ⟨#[]⟩, .int .i64 0, .int .i64 0, .string ⟨#[]⟩] 47)).alloc (.cells #[.string ⟨#[97]⟩, .string ⟨#[97]⟩, .string ⟨#[]⟩, .int .i64 0, .int .i64 0, .string ⟨#[]⟩, .string ⟨#[98]⟩, .string ⟨#[98]⟩, .string ⟨#[]⟩, .int .i64 0, .int .i64 0, .string ⟨#[]⟩] 47)).alloc (.cells #[.string ⟨#[97]⟩, .string ⟨#[97]⟩, .string ⟨#[]⟩, .int .i64 0, .int .i64 0, .string ⟨#[]⟩] 47)).alloc (.cells #[.string ⟨#[97]⟩, .string ⟨#[97]⟩, .string ⟨#[]⟩, .int .i64 0, .int .i64 0, .string ⟨#[]⟩] 47)).alloc (.cells #[.string ⟨#[98]⟩, .string ⟨#[98]⟩, .string ⟨#[]⟩, .int .i64 0, .int .i64 0, .string ⟨#[]⟩] 47)).alloc (.cells #[.string ⟨#[98]⟩, .string ⟨#[98]⟩, .string ⟨#[]⟩, .int .i64 0, .int .i64 0, .string ⟨#[]⟩] 47)).alloc (.cells #[.slice (some ⟨w.heap.size + 1 + 1, 0, none⟩) 2 2, .slice (some ⟨w.heap.size + 1 + 1 + 1 + 1, 0, none⟩) 1 1, .slice (some ⟨w.heap.size + 1 + 1 + 1 + 1 + 1 + 1, 0, none⟩) 1 1] 37))).heap[w.heap.size + 1 + 1 + 1 + 1 + 1 + 1]? = some (.cells #[.string ⟨#[98]⟩, .string ⟨#[98]⟩, .string ⟨#[]⟩, .int .i64 0, .int .i64 0, .string ⟨#[]⟩] 47 (0, 0)) := by
    refine alloc_keep ?_
    have := World.alloc_heap_new ((((((w.alloc (.cells #[.string ⟨#[97]⟩, .string ⟨#[97]⟩, .string ⟨#[]⟩, .int .i64 0, .int .i64 0, .string ⟨#[]⟩] 47)).alloc (.cells #[.string ⟨#[98]⟩, .string ⟨#[98]⟩, .string ⟨#[]⟩, .int .i64 0, .int .i64 0, .string ⟨#[]⟩] 47)).alloc (.cells #[.string ⟨#[97]⟩, .string ⟨#[97]⟩, .string ⟨#[]⟩, .int .i64 0, .int .i64 0, .string ⟨#[]⟩, .string ⟨#[98]⟩, .string ⟨#[98]⟩, .string ⟨#[]⟩, .int .i64 0, .int .i64 0, .string ⟨#[]⟩] 47)).alloc (.cells #[.string ⟨#[97]⟩, .string ⟨#[97]⟩, .string ⟨#[]⟩, .int .i64 0, .int .i64 0, .string ⟨#[]⟩] 47)).alloc (.cells #[.string ⟨#[97]⟩, .string ⟨#[97]⟩, .string ⟨#[]⟩, .int .i64 0, .int .i64 0, .string ⟨#[]⟩] 47)).alloc (.cells #[.string ⟨#[98]⟩, .string ⟨#[98]⟩, .string ⟨#[]⟩, .int .i64 0, .int .i64 0, .string ⟨#[]⟩] 47)) (.cells #[.string ⟨#[98]⟩, .string ⟨#[98]⟩, .string ⟨#[]⟩, .int .i64 0, .int .i64 0, .string ⟨#[]⟩] 47)
    simpa using this
  have h8 : (((((((((w.alloc (.cells #[.string ⟨#[97]⟩, .string ⟨#[97]⟩, .string ⟨#[]⟩, .int .i64 0, .int .i64 0, .string ⟨#[]⟩] 47)).alloc (.cells #[.string ⟨#[98]⟩, .string ⟨#[98]⟩, .string ⟨#[]⟩, .int .i64 0, .int .i64 0, .string ⟨#[]⟩] 47)).alloc (.cells #[.string ⟨#[97]⟩, .string ⟨#[97]⟩, .string ⟨#[]⟩, .int .i64 0, .int .i64 0, .string ⟨#[]⟩, .string ⟨#[98]⟩, .string ⟨#[98]⟩, .string ⟨#[]⟩, .int .i64 0, .int .i64 0, .string ⟨#[]⟩] 47)).alloc (.cells #[.string ⟨#[97]⟩, .string ⟨#[97]⟩, .string ⟨#[]⟩, .int .i64 0, .int .i64 0, .string ⟨#[]⟩] 47)).alloc (.cells #[.string ⟨#[97]⟩, .string ⟨#[97]⟩, .string ⟨#[]⟩, .int .i64 0, .int .i64 0, .string ⟨#[]⟩] 47)).alloc (.cells #[.string ⟨#[98]⟩, .string ⟨#[98]⟩, .string ⟨#[]⟩, .int .i64 0, .int .i64 0, .string ⟨#[]⟩] 47)).alloc (.cells #[.string ⟨#[98]⟩, .string ⟨#[98]⟩, .string ⟨#[]⟩, .int .i64 0, .int .i64 0, .string ⟨#[]⟩] 47)).alloc (.cells #[.slice (some ⟨w.heap.size + 1 + 1, 0, none⟩) 2 2, .slice (some ⟨w.heap.size + 1 + 1 + 1 + 1, 0, none⟩) 1 1, .slice (some ⟨w.heap.size + 1 + 1 + 1 + 1 + 1 + 1, 0, none⟩) 1 1] 37))).heap[w.heap.size + 1 + 1 + 1 + 1 + 1 + 1 + 1]? = some (.cells #[.slice (some ⟨w.heap.size + 1 + 1, 0, none⟩) 2 2, .slice (some ⟨w.heap.size + 1 + 1 + 1 + 1, 0, none⟩) 1 1, .slice (some ⟨w.heap.size + 1 + 1 + 1 + 1 + 1 + 1, 0, none⟩) 1 1] 37 (0, 0)) := by
    have := World.alloc_heap_new (((((((w.alloc (.cells #[.string ⟨#[97]⟩, .string ⟨#[97]⟩, .string ⟨#[]⟩, .int .i64 0, .int .i64 0, .string ⟨#[]⟩] 47)).alloc (.cells #[.string ⟨#[98]⟩, .string ⟨#[98]⟩, .string ⟨#[]⟩, .int .i64 0, .int .i64 0, .string ⟨#[]⟩] 47)).alloc (.cells #[.string ⟨#[97]⟩, .string ⟨#[97]⟩, .string ⟨#[]⟩, .int .i64 0, .int .i64 0, .string ⟨#[]⟩, .string ⟨#[98]⟩, .string ⟨#[98]⟩, .string ⟨#[]⟩, .int .i64 0, .int .i64 0, .string ⟨#[]⟩] 47)).alloc (.cells #[.string ⟨#[97]⟩, .string ⟨#[97]⟩, .string ⟨#[]⟩, .int .i64 0, .int .i64 0, .string ⟨#[]⟩] 47)).alloc (.cells #[.string ⟨#[97]⟩, .string ⟨#[97]⟩, .string ⟨#[]⟩, .int .i64 0, .int .i64 0, .string ⟨#[]⟩] 47)).alloc (.cells #[.string ⟨#[98]⟩, .string ⟨#[98]⟩, .string ⟨#[]⟩, .int .i64 0, .int .i64 0, .string ⟨#[]⟩] 47)).alloc (.cells #[.string ⟨#[98]⟩, .string ⟨#[98]⟩, .string ⟨#[]⟩, .int .i64 0, .int .i64 0, .string ⟨#[]⟩] 47)) (.cells #[.slice (some ⟨w.heap.size + 1 + 1, 0, none⟩) 2 2, .slice (some ⟨w.heap.size + 1 + 1 + 1 + 1, 0, none⟩) 1 1, .slice (some ⟨w.heap.size + 1 + 1 + 1 + 1 + 1 + 1, 0, none⟩) 1 1] 37)
    simpa using this
  have hb : Below w.heap.size w ((((((((w.alloc (.cells #[.string ⟨#[97]⟩, .string ⟨#[97]⟩, .string ⟨#[]⟩, .int .i64 0, .int .i64 0, .string ⟨#[]⟩] 47)).alloc (.cells #[.string ⟨#[98]⟩, .string ⟨#[98]⟩, .string ⟨#[]⟩, .int .i64 0, .int .i64 0, .string ⟨#[]⟩] 47)).alloc (.cells #[.string ⟨#[97]⟩, .string ⟨#[97]⟩, .string ⟨#[]⟩, .int .i64 0, .int .i64 0, .string ⟨#[]⟩, .string ⟨#[98]⟩, .string ⟨#[98]⟩, .string ⟨#[]⟩, .int .i64 0, .int .i64 0, .string ⟨#[]⟩] 47)).alloc (.cells #[.string ⟨#[97]⟩, .string ⟨#[97]⟩, .string ⟨#[]⟩, .int .i64 0, .int .i64 0, .string ⟨#[]⟩] 47)).alloc (.cells #[.string ⟨#[97]⟩, .string ⟨#[97]⟩, .string ⟨#[]⟩, .int .i64 0, .int .i64 0, .string ⟨#[]⟩] 47)).alloc (.cells #[.string ⟨#[98]⟩, .string ⟨#[98]⟩, .string ⟨#[]⟩, .int .i64 0, .int .i64 0, .string ⟨#[]⟩] 47)).alloc (.cells #[.string ⟨#[98]⟩, .string ⟨#[98]⟩, .string ⟨#[]⟩, .int .i64 0, .int .i64 0, .string ⟨#[]⟩] 47)).alloc (.cells #[.slice (some ⟨w.heap.size + 1 + 1, 0, none⟩) 2 2, .slice (some ⟨w.heap.size + 1 + 1 + 1 + 1, 0, none⟩) 1 1, .slice (some ⟨w.heap.size + 1 + 1 + 1 + 1 + 1 + 1, 0, none⟩) 1 1] 37)) := ((((((((Below.refl _ _).alloc (Nat.le_refl _) _).alloc (by simp) _).alloc (by simp; omega) _).alloc (by simp; omega) _).alloc (by simp; omega) _).alloc (by simp; omega) _).alloc (by simp; omega) _).alloc (by simp; omega) _
  refine ⟨?_, hb⟩
  generalize ((((((((w.alloc (.cells #[.string ⟨#[97]⟩, .string ⟨#[97]⟩, .string ⟨#[]⟩, .int .i64 0, .int .i64 0, .string ⟨#[]⟩] 47)).alloc (.cells #[.string ⟨#[98]⟩, .string ⟨#[98]⟩, .string ⟨#[]⟩, .int .i64 0, .int .i64 0, .string ⟨#[]⟩] 47)).alloc (.cells #[.string ⟨#[97]⟩, .string ⟨#[97]⟩, .string ⟨#[]⟩, .int .i64 0, .int .i64 0, .string ⟨#[]⟩, .string ⟨#[98]⟩, .string ⟨#[98]⟩, .string ⟨#[]⟩, .int .i64 0, .int .i64 0, .string ⟨#[]⟩] 47)).alloc (.cells #[.string ⟨#[97]⟩, .string ⟨#[97]⟩, .string ⟨#[]⟩, .int .i64 0, .int .i64 0, .string ⟨#[]⟩] 47)).alloc (.cells #[.string ⟨#[97]⟩, .string ⟨#[97]⟩, .string ⟨#[]⟩, .int .i64 0, .int .i64 0, .string ⟨#[]⟩] 47)).alloc (.cells #[.string ⟨#[98]⟩, .string ⟨#[98]⟩, .string ⟨#[]⟩, .int .i64 0, .int .i64 0, .string ⟨#[]⟩] 47)).alloc (.cells #[.string ⟨#[98]⟩, .string ⟨#[98]⟩, .string ⟨#[]⟩, .int .i64 0, .int .i64 0, .string ⟨#[]⟩] 47)).alloc (.cells #[.slice (some ⟨w.heap.size + 1 + 1, 0, none⟩) 2 2, .slice (some ⟨w.heap.size + 1 + 1 + 1 + 1, 0, none⟩) 1 1, .slice (some ⟨w.heap.size + 1 + 1 + 1 + 1 + 1 + 1, 0, none⟩) 1 1] 37)) = V at *
  have t1 : Toks (fun _ => True) V (some ⟨w.heap.size + 1 + 1, 0, none⟩) 2 2 [wd0 97, wd0 98] := toks_lit 2 h3 rfl (by omega) (fun t ht => by simp at ht; rcases ht with rfl | rfl <;> exact wd0_ok _)
  have t2 : Toks (fun _ => True) V (some ⟨w.heap.size + 1 + 1 + 1 + 1, 0, none⟩) 1 1 [wd0 97] := toks_lit 1 h5 rfl (by omega) (fun t ht => by simp at ht; rw [ht]; exact wd0_ok _)
  have t3 : Toks (fun _ => True) V (some ⟨w.heap.size + 1 + 1 + 1 + 1 + 1 + 1, 0, none⟩) 1 1 [wd0 98] := toks_lit 1 h7 rfl (by omega) (fun t ht => by simp at ht; rw [ht]; exact wd0_ok _)
  have o : OwnQ 37 1 encR V (w.heap.size + 1 + 1 + 1 + 1 + 1 + 1 + 1) (some ⟨w.heap.size + 1 + 1 + 1 + 1 + 1 + 1 + 1, 0, none⟩) 3 3 (([((some ⟨w.heap.size + 1 + 1, 0, none⟩, 2, 2), [wd0 97, wd0 98]), ((some ⟨w.heap.size + 1 + 1 + 1 + 1, 0, none⟩, 1, 1), [wd0 97]), ((some ⟨w.heap.size + 1 + 1 + 1 + 1 + 1 + 1, 0, none⟩, 1, 1), [wd0 98])] : List (Row × List Tok)).map (fun p => p.1)) :=
    ⟨rfl, rfl, Or.inr ⟨_, 3, #[.slice (some ⟨w.heap.size + 1 + 1, 0, none⟩) 2 2, .slice (some ⟨w.heap.size + 1 + 1 + 1 + 1, 0, none⟩) 1 1, .slice (some ⟨w.heap.size + 1 + 1 + 1 + 1 + 1 + 1, 0, none⟩) 1 1], rfl, Nat.le_refl _, h8, Nat.le_refl _, by unfold maxLen; omega, rfl, rfl⟩⟩
  refine rows_sq o (by omega) (fun _ _ => trivial) (fun p hp => ?_)
  simp only [List.mem_cons, List.not_mem_nil, or_false] at hp
  rcases hp with rfl | rfl | rfl
  · exact t1
  · exact t2
  · exact t3
set_option maxRecDepth 100000 in
theorem word_any (s : ByteArray) (w : World) : Calls Tryz.prog 19 #[.string s] w fun e w' => e = .returned (.agg #[.string s, .string s, .string ⟨#[]⟩, .int .i64 0, .int .i64 0, .string ⟨#[]⟩]) ∧ w' = w.alloc (.cells #[.string s, .string s, .string ⟨#[]⟩, .int .i64 0, .int .i64 0, .string ⟨#[]⟩] 47) := by
  go_enter Tryz.func19, Tryz.ntmps19
  go_wp2
  refine bodyPost_ret (v := .agg #[.string s, .string s, .string ⟨#[]⟩, .int .i64 0, .int .i64 0, .string ⟨#[]⟩]) ?_ rfl ⟨rfl, rfl⟩
  simp [results, Tryz.results19, go_sem]
theorem vdl_ex : VdL ex0 := ⟨by decide, by decide, ex_ok⟩
theorem c00_ok : c00.ok := by unfold Cst.ok CstOk c00; decide
set_option maxRecDepth 100000 in
set_option maxHeartbeats 4000000 in
theorem awake_any (w : World) (hE : Env w) : Calls Tryz.prog 5 #[] w fun e w' => e = .returned (.bool true) ∧ Below w.heap.size w w' := by
  obtain ⟨hts, hb8⟩ := lay_ex w
  go_enter Tryz.func5, Tryz.ntmps5
  go_upto_region 3 with (go_at_call 19; refine (word_any _ _).mono ?_; rintro e w' ⟨rfl, rfl⟩)
  have hs8 : w.heap.size ≤ (((((((((w.alloc (.cells #[.string ⟨#[97]⟩, .string ⟨#[97]⟩, .string ⟨#[]⟩, .int .i64 0, .int .i64 0, .string ⟨#[]⟩] 47)).alloc (.cells #[.string ⟨#[98]⟩, .string ⟨#[98]⟩, .string ⟨#[]⟩, .int .i64 0, .int .i64 0, .string ⟨#[]⟩] 47)).alloc (.cells #[.string ⟨#[97]⟩, .string ⟨#[97]⟩, .string ⟨#[]⟩, .int .i64 0, .int .i64 0, .string ⟨#[]⟩, .string ⟨#[98]⟩, .string ⟨#[98]⟩, .string ⟨#[]⟩, .int .i64 0, .int .i64 0, .string ⟨#[]⟩] 47)).alloc (.cells #[.string ⟨#[97]⟩, .string ⟨#[97]⟩, .string ⟨#[]⟩, .int .i64 0, .int .i64 0, .string ⟨#[]⟩] 47)).alloc (.cells #[.string ⟨#[97]⟩, .string ⟨#[97]⟩, .string ⟨#[]⟩, .int .i64 0, .int .i64 0, .string ⟨#[]⟩] 47)).alloc (.cells #[.string ⟨#[98]⟩, .string ⟨#[98]⟩, .string ⟨#[]⟩, .int .i64 0, .int .i64 0, .string ⟨#[]⟩] 47)).alloc (.cells #[.string ⟨#[98]⟩, .string ⟨#[98]⟩, .string ⟨#[]⟩, .int .i64 0, .int .i64 0, .string ⟨#[]⟩] 47)).alloc (.cells #[.slice (some ⟨w.heap.size + 1 + 1, 0, none⟩) 2 2, .slice (some ⟨w.heap.size + 1 + 1 + 1 + 1, 0, none⟩) 1 1, .slice (some ⟨w.heap.size + 1 + 1 + 1 + 1 + 1 + 1, 0, none⟩) 1 1] 37))).heap.size := hb8.size
  generalize ((((((((w.alloc (.cells #[.string ⟨#[97]⟩, .string ⟨#[97]⟩, .string ⟨#[]⟩, .int .i64 0, .int .i64 0, .string ⟨#[]⟩] 47)).alloc (.cells #[.string ⟨#[98]⟩, .string ⟨#[98]⟩, .string ⟨#[]⟩, .int .i64 0, .int .i64 0, .string ⟨#[]⟩] 47)).alloc (.cells #[.string ⟨#[97]⟩, .string ⟨#[97]⟩, .string ⟨#[]⟩, .int .i64 0, .int .i64 0, .string ⟨#[]⟩, .string ⟨#[98]⟩, .string ⟨#[98]⟩, .string ⟨#[]⟩, .int .i64 0, .int .i64 0, .string ⟨#[]⟩] 47)).alloc (.cells #[.string ⟨#[97]⟩, .string ⟨#[97]⟩, .string ⟨#[]⟩, .int .i64 0, .int .i64 0, .string ⟨#[]⟩] 47)).alloc (.cells #[.string ⟨#[97]⟩, .string ⟨#[97]⟩, .string ⟨#[]⟩, .int .i64 0, .int .i64 0, .string ⟨#[]⟩] 47)).alloc (.cells #[.string ⟨#[98]⟩, .string ⟨#[98]⟩, .string ⟨#[]⟩, .int .i64 0, .int .i64 0, .string ⟨#[]⟩] 47)).alloc (.cells #[.string ⟨#[98]⟩, .string ⟨#[98]⟩, .string ⟨#[]⟩, .int .i64 0, .int .i64 0, .string ⟨#[]⟩] 47)).alloc (.cells #[.slice (some ⟨w.heap.size + 1 + 1, 0, none⟩) 2 2, .slice (some ⟨w.heap.size + 1 + 1 + 1 + 1, 0, none⟩) 1 1, .slice (some ⟨w.heap.size + 1 + 1 + 1 + 1 + 1 + 1, 0, none⟩) 1 1] 37)) = V at *
  generalize w.heap.size + 1 + 1 + 1 + 1 + 1 + 1 + 1 = g4 at *
  have hbx : Below V.heap.size V (V.alloc (.cells #[.int .i64 40, .int .i64 5, .int .i64 50, .int .i64 50] 23)) := (Below.refl _ _).alloc (Nat.le_refl _) _
  have hX := World.alloc_heap_new V (.cells #[.int .i64 40, .int .i64 5, .int .i64 50, .int .i64 50] 23)
  have HV := Lib.hid (And.intro hts (And.intro hb8 (And.intro hbx hX)))
  have HE := Lib.hid (fun W (hW : Below V.heap.size V W) => hE.below (hb8.trans (hW.mono hb8.size)))
  have HAL := Lib.hid (fun W (hW : Below V.heap.size V W) => align_any (fun _ => True) c00 (some ⟨g4, 0, none⟩) 3 3 ex0 W (hts.below (rSl_ok rTok_ok) hW) vdl_ex c00_ok (.inr rfl) (HE.out W hW))
  have HCO := Lib.hid (fun W (hW : Below V.heap.size V W) (S2 : Nat → Prop) (xa : Option Addr) (xc : Nat) (hx : Numss S2 W xa 2 xc ((alnC c00 ex0).map colI)) => mCost_any (fun _ => True) S2 c00 (some ⟨g4, 0, none⟩) xa 3 2 xc ex0 (alnC c00 ex0) W (hts.below (rSl_ok rTok_ok) hW) hx vdl_ex (alnC_vc (.inr rfl)) c00_ok (by omega) (HE.out W hW))
  rw [ex_cost] at HCO
  obtain ⟨x0, bA, oA, r0, n0, q0, hx0, -, ea, -, -, hr0, hc0⟩ := hts.row (j := 0) (by omega)
  cases ea
  obtain ⟨x1, bB, oB, r1, n1, q1, hx1, -, ea, -, -, hr1, hc1⟩ := hts.row (j := 1) (by omega)
  cases ea
  cases hx0
  cases hx1
  have HDI := Lib.hid (fun W (hW : Below V.heap.size V W) => dist_any (fun _ => True) (fun _ => True) c00 [wd0 97, wd0 98] [wd0 97] r0 r1 n0 n1 q0 q1 W (hr0.below rTok_ok hW) (hr1.below rTok_ok hW) (by have := hr0.len; simp at this; omega) (by have := hr1.len; simp at this; omega) c00_ok (fun t ht => ex_ok _ (by simp [ex0]) t ht) (fun t ht => ex_ok [wd0 97] (by simp [ex0]) t ht) (HE.out W hW))
  have hd40 : tabS c00 [wd0 97, wd0 98] [wd0 97] 0 0 = 40 := ex_dist
  rw [hd40] at HDI
  have c0' : V.cell? ⟨g4, 0, none⟩ = some (.slice r0 n0 q0) := hc0
  have c1' : V.cell? ⟨g4, 1, none⟩ = some (.slice r1 n1 q1) := hc1
  have HCC := Lib.hid (And.intro c0' c1')
  have hcv : c00.val = .agg #[.int .i64 40, .int .i64 5, .int .i64 50, .int .i64 50] := rfl
  rw [hcv] at HAL HCO HDI
  clear hts hb8 hbx hX hc0 hc1 c0' c1' hr0 hr1 hd40 hcv hs8 hE
  go_upto_region 4 with fail
  have hB0 : Below V.heap.size V (V.alloc (.cells #[.int .i64 40, .int .i64 5, .int .i64 50, .int .i64 50] 23)) := HV.out.2.2.1
  have hX0 := HV.out.2.2.2
  generalize V.alloc (.cells #[.int .i64 40, .int .i64 5, .int .i64 50, .int .i64 50] 23) = WA at *
  obtain ⟨k0, k1, k2, k3, -⟩ := box_cells4 hX0
  have HB0 := Lib.hid hB0
  have HX0 := Lib.hid hX0
  clear hB0 hX0
  go_upto_region 6 with (first | (go_at_call 7; refine (HAL.out _ HB0.out).mono ?_; rintro e w1 ⟨xa, n', xc, rfl, hnum, hb1⟩; obtain rfl : n' = 2 := (by have h : n' = ((alnC c00 ex0).map colI).length := hnum.len; rw [List.length_map, ex_cols] at h; exact h); have HNM := Lib.hid hnum; have HB1 := Lib.hid (HB0.out.trans (hb1.mono HB0.out.size)); have HX1 := Lib.hid ((hb1.block _ (Array.getElem?_eq_some_iff.1 HX0.out).1).trans HX0.out); clear hnum hb1; obtain ⟨k0, k1, k2, k3, -⟩ := box_cells4 HX1.out) | (go_at_call 20; refine (HCO.out _ HB1.out _ xa xc HNM.out).mono ?_; rintro e w2 ⟨rfl, hb2⟩; have HB2 := Lib.hid (HB1.out.trans (hb2.mono HB1.out.size)); have HX2 := Lib.hid ((hb2.block _ (Array.getElem?_eq_some_iff.1 HX1.out).1).trans HX1.out); clear hb2))
  clear k0 k1 k2 k3
  obtain ⟨k0, k1, k2, k3, -⟩ := box_cells4 HX2.out
  have c0 := cell_later HB2.out HCC.out.1
  have c1 := cell_later HB2.out HCC.out.2
  obtain ⟨X, Wf, hX, hS1, hS2⟩ := family (fun V => Below w2.heap.size w2 V) w2 (Below.refl _ _)
  have HS2 := Lib.hid hS2
  have q_k0 := fun x => cell_later (hS1 x) k0
  have q_k1 := fun x => cell_later (hS1 x) k1
  have q_k2 := fun x => cell_later (hS1 x) k2
  have q_k3 := fun x => cell_later (hS1 x) k3
  have q_c0 := fun x => cell_later (hS1 x) c0
  have q_c1 := fun x => cell_later (hS1 x) c1
  clear hS1 hS2
  have hd0 : Below w2.heap.size w2 w2.drew := (Below.refl _ _).drew
  refine wp_region_treAN (Wf := Wf) 12 (.read 0 (.read 1 (.read 2 (.read 3 (.read 4 (.read 5 (.read 6 (.act 7 (.read 8 (.read 9 (.read 10 (.act 11 .fin)))))))))))) (by kernel_rfl) (by kernel_rfl) (HS2.out _ hd0) ?_
  refine wpTreA_read _ rfl (fun K hK => ?_); unfold rOp; go_simp; (refine hK _ ?_; clear hK K)
  refine wpTreA_read _ rfl (fun K hK => ?_); unfold rOp; go_simp; (refine hK _ ?_; clear hK K)
  refine wpTreA_read _ rfl (fun K hK => ?_); unfold rOp; go_simp; (refine hK _ ?_; clear hK K)
  refine wpTreA_read _ rfl (fun K hK => ?_); unfold rOp; go_simp; (refine hK _ ?_; clear hK K)
  refine wpTreA_read _ rfl (fun K hK => ?_); unfold rOp; go_simp; (refine hK _ ?_; clear hK K)
  refine wpTreA_read _ rfl (fun K hK => ?_); unfold rOp; go_simp; (refine hK _ ?_; clear hK K)
  refine wpTreA_read _ rfl (fun K hK => ?_); unfold rOp; go_simp; (refine hK _ ?_; clear hK K)
  refine wpTreA_act _ rfl ?_
  go_wp2_with fail
  refine (HDI.out _ (HB2.out.trans (hd0.mono HB2.out.size))).mono ?_
  rintro e w3 ⟨rfl, hb3⟩
  have hd3 := hd0.trans hb3
  go_wp2_with fail
  refine ⟨HS2.out _ hd3, ?_⟩
  refine wpTreA_read _ rfl (fun K hK => ?_); unfold rOp; go_simp; (refine hK _ ?_; clear hK K)
  refine wpTreA_read _ rfl (fun K hK => ?_); unfold rOp; go_simp; (refine hK _ ?_; clear hK K)
  refine wpTreA_read _ rfl (fun K hK => ?_); unfold rOp; go_simp; (refine hK _ ?_; clear hK K)
  refine wpTreA_act _ rfl ?_
  go_wp2_with fail
  refine ⟨HS2.out _ hd3, ?_⟩
  refine wpTreA_fin ?_
  have HB3 := Lib.hid (HB2.out.trans (hd3.mono HB2.out.size))
  clear hd0 hd3 hb3 q_k0 q_k1 q_k2 q_k3 q_c0 q_c1 k0 k1 k2 k3 c0 c1 HS2 hX
  clear X Wf
  go_wp2_with fail
  rw [noPanic_normal]
  go_wp2
  go_ret
  exact ⟨rfl, HV.out.2.1.trans (HB3.out.mono HV.out.2.1.size)⟩
end Go.Proofs.YtaelfjlmkgimhaaGreatDoor

set_option linter.unusedVariables false
set_option linter.unusedSimpArgs false
namespace Go.Proofs.YtaelfjlmkgimhaaGreatDoor
open Go.RowKit Go.Shelf

theorem two_ints {w : World} (i k : Nat) (hi : i ≤ 1000) (hk : k ≤ 1000) : Nums (fun _ => True) (w.alloc (.cells #[.int .i64 i, .int .i64 k] 3)) (some ⟨w.heap.size, 0, none⟩) 2 2 [(i : Int), (k : Int)] := by
  have o : OwnQ 3 1 encI (w.alloc (.cells #[.int .i64 i, .int .i64 k] 3)) 0 (some ⟨w.heap.size, 0, none⟩) 2 2 [(i : Int), (k : Int)] :=
    ownq_of (World.alloc_heap_new w (.cells #[.int .i64 i, .int .i64 k] 3)) (Nat.zero_le _) rfl (by omega)
  refine o.sq (R := rInt) (fun _ => rfl) (by omega) (fun _ _ => trivial) (fun x hx => ⟨rfl, ?_⟩)
  simp only [List.mem_cons, List.not_mem_nil, or_false] at hx
  rcases hx with rfl | rfl <;> exact ⟨by omega, by omega⟩
set_option maxRecDepth 100000 in
set_option maxHeartbeats 8000000 in
theorem law_any (S : Nat → Prop) (c : Cst) (a : Option Addr) (n cp : Nat) (l : List (List Tok)) (w : World) (h : Tokss S w a n cp l) (hE : Env w) :
    Calls Tryz.prog 3 #[c.val, .slice a n cp] w fun e w' => e = .returned (.bool true) ∧ Below w.heap.size w w' := by
  have hnl := h.len
  have hlb := h.bound
  have hb0 : Below w.heap.size w (w.alloc (.cells c.arr 23)) := (Below.refl _ _).alloc (Nat.le_refl _) _
  have hX := World.alloc_heap_new w (.cells c.arr 23)
  have HFI := Lib.hid (fun W (hW : Below w.heap.size w W) => fine_any' S c a n cp l W (h.below (rSl_ok rTok_ok) hW))
  have HAW := Lib.hid (fun W (hW : Below w.heap.size w W) => awake_any W (hE.below hW))
  by_cases hn2 : n < 2
  · have d2 : decide (n < 2) = true := decide_eq_true hn2
    have d2' : decide ((n : Int) < 2) = true := decide_eq_true (by omega)
    clear h hE hnl
    generalize (c.ok ∧ 0 < n ∧ n ≤ 3 ∧ ∀ r ∈ l, r.length ≤ 4 ∧ ∀ t ∈ r, t.err = 0) = OK at *
    obtain ⟨cg, cn, cl, cm⟩ := c
    dsimp only [Cst.val, Cst.arr] at hb0 hX HFI ⊢
    generalize hWA : w.alloc (.cells #[.int .i64 cg, .int .i64 cn, .int .i64 cl, .int .i64 cm] 23) = WA at *
    obtain ⟨k0, k1, k2, k3, -⟩ := box_cells4 hX
    have HB0 := Lib.hid hb0
    have HX := Lib.hid hX
    clear hb0 hX hn2
    go_enter Tryz.func3, Tryz.ntmps3
    go_wp2_with (first | (go_at_call 4; go_loud (refine (HFI.out _ HB0.out).mono ?_; rintro e w1 ⟨bb, rfl, hP, hb1⟩; have HB1 := Lib.hid (HB0.out.trans (hb1.mono HB0.out.size)); have HX1 := Lib.hid ((hb1.block _ (Array.getElem?_eq_some_iff.1 HX.out).1).trans HX.out); clear hb1; have HP := Lib.hid hP; clear hP; obtain ⟨k0, k1, k2, k3, -⟩ := box_cells4 HX1.out; cases bb)) | (go_at_call 5; refine (HAW.out _ HB1.out).mono ?_; rintro e w9 ⟨rfl, hb9⟩; have HB9 := Lib.hid (HB1.out.trans (hb9.mono HB1.out.size)); clear hb9))
    all_goals go_ret
    all_goals exact ⟨rfl, HB9.out⟩
  have d2 : decide (n < 2) = false := decide_eq_false hn2
  have d2' : decide ((n : Int) < 2) = false := decide_eq_false (by omega)
  by_cases hp : c.ok ∧ 0 < n ∧ n ≤ 3 ∧ ∀ r ∈ l, r.length ≤ 4 ∧ ∀ t ∈ r, t.err = 0
  · have hv : VdL l := ⟨by omega, fun r hr => by have := (hp.2.2.2 r hr).1; omega, fun r hr t ht => (hp.2.2.2 r hr).2 t ht⟩
    have hc := hp.1
    have h2 : n = 2 ∨ n = 3 := by omega
    have h2l : l.length = 2 ∨ l.length = 3 := by omega
    have HOD := Lib.hid (fun W (hW : Below w.heap.size w W) => Order_any S c a n cp l W (h.below (rSl_ok rTok_ok) hW) hv hc h2 (hE.below hW))
    have HAL : Hid (∀ W (hW : Below w.heap.size w W), Calls Tryz.prog 7 #[c.val, .slice a n cp] W fun e w' => ∃ a' n' c', e = .returned (.tuple #[.slice a' n' c', .int .i64 0]) ∧ Numss (fun b => W.heap.size ≤ b) w' a' n' c' ((alnC c l).map colI) ∧ Below W.heap.size W w') := fun W hW => by
      have := align_any S c a n cp l W (h.below (rSl_ok rTok_ok) hW) hv hc h2 (hE.below hW)
      rw [hnl] at this ⊢
      exact this
    have hqb : (alnC c l).length ≤ 1000 := by
      unfold alnC; rw [List.length_map]
      have := colsA_len (c := c) (order := ordF c l) hv l.length
      omega
    have HPJ : Hid (∀ W (hW : Below w.heap.size w W) (S2 S3 : Nat → Prop) (xa ka : Option Addr) (q xc kc i k : Nat) (hx : Numss S2 W xa q xc ((alnC c l).map colI)) (hk : Nums S3 W ka 2 kc [(i : Int), (k : Int)]) (hik : i < k) (hkn : k < n),
        Calls Tryz.prog 8 #[.slice a n cp, .slice xa q xc, .slice ka 2 kc] W fun e w' => ∃ a' n' c', e = .returned (.tuple #[.slice a' n' c', .int .i64 0]) ∧ Numss (fun b => W.heap.size ≤ b) w' a' n' c' (prI (prs i k (alnC c l))) ∧ Below W.heap.size W w') := fun W hW S2 S3 xa ka q xc kc i k hx hk hik hkn => by
      rw [← prF_eq]
      exact project_any S S2 S3 a xa ka n cp q xc kc i k l (alnC c l) W (h.below (rSl_ok rTok_ok) hW) hx hk hv hik hkn (alnC_vc h2l) (by have := hx.len; rw [List.length_map] at this; omega)
    have HCO : Hid (∀ W (hW : Below w.heap.size w W) (S1 S2 S3 : Nat → Prop) (ra rb xa : Option Addr) (rn rm rc rd q xc i k : Nat) (hl : Toks S1 W ra rn rc (srcAt l i)) (hr : Toks S2 W rb rm rd (srcAt l k)) (hx : Numss S3 W xa q xc (prI (prs i k (alnC c l)))) (hi : i < n) (hk : k < n),
        Calls Tryz.prog 9 #[c.val, .slice ra rn rc, .slice rb rm rd, .slice xa q xc] W fun e w' => e = .returned (.tuple #[.int .i64 (cstL (pN c (srcAt l i) (srcAt l k)) (gN c (srcAt l i)) (gN c (srcAt l k)) (prs i k (alnC c l)) : Nat), .int .i64 0]) ∧ Below W.heap.size W w') := fun W hW S1 S2 S3 ra rb xa rn rm rc rd q xc i k hl hr hx hi hk => by
      have hal := alnC_aln (c := c) h2l (i := i) (k := k) (by omega) (by omega)
      rw [← hl.len, ← hr.len] at hal
      have h1 := hv.len _ (srcAt_mem (l := l) (i := i) (by omega))
      have h1' := hv.len _ (srcAt_mem (l := l) (i := k) (by omega))
      exact cost_any S1 S2 S3 c _ _ _ ra rb xa rn rm rc rd q xc W hl hr hx hal (by rw [hl.len]; omega) (by rw [hr.len]; omega) hc (hv.err _ (srcAt_mem (by omega))) (hv.err _ (srcAt_mem (by omega))) (hE.below hW)
    have HDI : Hid (∀ W (hW : Below w.heap.size w W) (S1 S2 : Nat → Prop) (ra rb : Option Addr) (rn rm rc rd i k : Nat) (hl : Toks S1 W ra rn rc (srcAt l i)) (hr : Toks S2 W rb rm rd (srcAt l k)) (hi : i < n) (hk : k < n),
        Calls Tryz.prog 10 #[c.val, .slice ra rn rc, .slice rb rm rd] W fun e w' => e = .returned (.tuple #[.int .i64 (tabS c (srcAt l i) (srcAt l k) 0 0 : Nat), .int .i64 0]) ∧ Below W.heap.size W w') := fun W hW S1 S2 ra rb rn rm rc rd i k hl hr hi hk => by
      have h1 := hv.len _ (srcAt_mem (l := l) (i := i) (by omega))
      have h1' := hv.len _ (srcAt_mem (l := l) (i := k) (by omega))
      exact dist_any S1 S2 c _ _ ra rb rn rm rc rd W hl hr (by rw [hl.len]; omega) (by rw [hr.len]; omega) hc (hv.err _ (srcAt_mem (by omega))) (hv.err _ (srcAt_mem (by omega))) (hE.below hW)
    have HLS : Hid (∀ i k, i < n → k < n → tabS c (srcAt l i) (srcAt l k) 0 0 ≤ cstL (pN c (srcAt l i) (srcAt l k)) (gN c (srcAt l i)) (gN c (srcAt l k)) (prs i k (alnC c l))) := fun i k hi hk => alnC_least h2l (by omega) (by omega)
    have HFS : Hid (∀ i k, i < k → i ∈ (ordF c l).take 2 → k ∈ (ordF c l).take 2 → cstL (pN c (srcAt l i) (srcAt l k)) (gN c (srcAt l i)) (gN c (srcAt l k)) (prs i k (alnC c l)) = tabS c (srcAt l i) (srcAt l k) 0 0) := fun i k hik hi hk => alnC_first h2l hik hi hk
    have HH := Lib.hid h
    have hn3 : n ≤ 3 := by omega
    have hn2' : 2 ≤ n := by omega
    generalize hOO : ordF c l = O at *
    generalize hAA : alnC c l = AA at *
    generalize hCF : (fun i k => cstL (pN c (srcAt l i) (srcAt l k)) (gN c (srcAt l i)) (gN c (srcAt l k)) (prs i k AA)) = CF at *
    generalize hTF : (fun i k => tabS c (srcAt l i) (srcAt l k) 0 0) = TF at *
    replace HCO : Hid (∀ W (hW : Below w.heap.size w W) (S1 S2 S3 : Nat → Prop) (ra rb xa : Option Addr) (rn rm rc rd q xc i k : Nat) (hl : Toks S1 W ra rn rc (srcAt l i)) (hr : Toks S2 W rb rm rd (srcAt l k)) (hx : Numss S3 W xa q xc (prI (prs i k AA))) (hi : i < n) (hk : k < n),
        Calls Tryz.prog 9 #[c.val, .slice ra rn rc, .slice rb rm rd, .slice xa q xc] W fun e w' => e = .returned (.tuple #[.int .i64 (CF i k : Nat), .int .i64 0]) ∧ Below W.heap.size W w') := by rw [← hCF]; exact HCO
    replace HDI : Hid (∀ W (hW : Below w.heap.size w W) (S1 S2 : Nat → Prop) (ra rb : Option Addr) (rn rm rc rd i k : Nat) (hl : Toks S1 W ra rn rc (srcAt l i)) (hr : Toks S2 W rb rm rd (srcAt l k)) (hi : i < n) (hk : k < n),
        Calls Tryz.prog 10 #[c.val, .slice ra rn rc, .slice rb rm rd] W fun e w' => e = .returned (.tuple #[.int .i64 (TF i k : Nat), .int .i64 0]) ∧ Below W.heap.size W w') := by rw [← hTF]; exact HDI
    replace HLS : Hid (∀ i k, i < n → k < n → TF i k ≤ CF i k) := by rw [← hTF, ← hCF]; exact HLS
    replace HFS : Hid (∀ i k, i < k → i ∈ O.take 2 → k ∈ O.take 2 → CF i k = TF i k) := by rw [← hTF, ← hCF]; exact HFS
    clear h hE hnl hp hv hc h2 h2l hqb hOO hAA hCF hTF
    generalize (c.ok ∧ 0 < n ∧ n ≤ 3 ∧ ∀ r ∈ l, r.length ≤ 4 ∧ ∀ t ∈ r, t.err = 0) = OK at *
    obtain ⟨cg, cn, cl, cm⟩ := c
    dsimp only [Cst.val, Cst.arr] at hb0 hX HFI HOD HAL HCO HDI ⊢
    generalize hWA : w.alloc (.cells #[.int .i64 cg, .int .i64 cn, .int .i64 cl, .int .i64 cm] 23) = WA at *
    obtain ⟨k0, k1, k2, k3, -⟩ := box_cells4 hX
    have HB0 := Lib.hid hb0
    have HX := Lib.hid hX
    clear hb0 hX hn2
    go_enter Tryz.func3, Tryz.ntmps3
    go_wp2_with (first | (go_at_call 4; go_loud (refine (HFI.out _ HB0.out).mono ?_; rintro e w1 ⟨bb, rfl, hP, hb1⟩; have HB1 := Lib.hid (HB0.out.trans (hb1.mono HB0.out.size)); have HX1 := Lib.hid ((hb1.block _ (Array.getElem?_eq_some_iff.1 HX.out).1).trans HX.out); clear hb1; have HP := Lib.hid hP; clear hP; obtain ⟨k0, k1, k2, k3, -⟩ := box_cells4 HX1.out; cases bb)) | (go_at_call 5; refine (HAW.out _ HB1.out).mono ?_; rintro e w9 ⟨rfl, hb9⟩; have HB9 := Lib.hid (HB1.out.trans (hb9.mono HB1.out.size)); clear hb9) | (go_at_call 6; refine (HOD.out _ HB1.out).mono ?_; rintro e w2 ⟨oo, oc, rfl, hN, hb2⟩; have HB2 := Lib.hid (HB1.out.trans (hb2.mono HB1.out.size)); have HN := Lib.hid hN; have hX2 := (hb2.block _ (Array.getElem?_eq_some_iff.1 HX1.out).1).trans HX1.out; obtain ⟨k0, k1, k2, k3, -⟩ := box_cells4 hX2; have HX2 := Lib.hid hX2; clear hb2 hN hX2) | (go_at_call 7; refine (HAL.out _ HB2.out).mono ?_; rintro e w3 ⟨xa, xn, xc, rfl, hM, hb3⟩; have HB3 := Lib.hid (HB2.out.trans (hb3.mono HB2.out.size)); have HN3 := Lib.hid (HN.out.below rInt_ok hb3); have HM := Lib.hid hM; have HX3 := Lib.hid ((hb3.block _ (Array.getElem?_eq_some_iff.1 HX2.out).1).trans HX2.out); clear hb3 hM))
    · go_ret
      exact ⟨rfl, HB9.out⟩
    clear k0 k1 k2 k3
    have hb00 : Hid (Below w3.heap.size w3 w3) := Below.refl _ _
    go_loopw [55] (fun kv wr => ∃ k : Nat, kv = .int .i64 (k : Int) ∧ k ≤ n ∧ Hid (Below w3.heap.size w3 wr)) (fun kv _ => n - (intOf kv).toNat)
    case atStart => exact ⟨0, rfl, Nat.zero_le _, hb00⟩
    case round =>
      clear hb00
      obtain ⟨k, rfl, hk, hb⟩ := hrel
      by_cases hkn : k < n
      · go_wp2_with fail
        go_loopw [59] (fun iv wr => ∃ i : Nat, iv = .int .i64 (i : Int) ∧ i ≤ k ∧ Hid (Below w3.heap.size w3 wr)) (fun iv _ => k - (intOf iv).toNat)
        case atStart => exact ⟨0, rfl, Nat.zero_le _, hb⟩
        case round =>
          clear hb
          obtain ⟨i, rfl, hi, hb⟩ := hrel
          by_cases hik : i < k
          · have hbw0 : Below w.heap.size w wr := HB3.out.trans (hb.out.mono HB3.out.size)
            obtain ⟨x, bA, oA, ra, rn, rc, hx, -, hae, -, -, hrow, hcr⟩ := HH.out.row (j := i) (by omega)
            subst hae
            have hxe : x = srcAt l i := by unfold srcAt; rw [hx]; rfl
            subst hxe
            obtain ⟨x, bA', oA', rb, rm, rd, hx', -, hae, -, -, hrow', hcr'⟩ := HH.out.row (j := k) hkn
            cases hae
            have hxe : x = srcAt l k := by unfold srcAt; rw [hx']; rfl
            subst hxe
            have hal : Below wr.heap.size wr (wr.alloc (.cells #[.int .i64 i, .int .i64 k] 3)) := (Below.refl _ _).alloc (Nat.le_refl _) _
            have hk2 := two_ints (w := wr) i k (by omega) (by omega)
            have h3a := hb.out.trans (hal.mono hb.out.size)
            have HPC := Lib.hid (HPJ.out (wr.alloc (.cells #[.int .i64 i, .int .i64 k] 3)) (HB3.out.trans (h3a.mono HB3.out.size)) _ _ xa _ xn xc 2 i k (HM.out.below (rSl_ok rInt_ok) h3a) hk2 hik hkn)
            have HA3 := Lib.hid h3a
            have HROW := Lib.hid (And.intro hrow (And.intro hrow' (And.intro hcr hcr')))
            have hin : i < n := by omega
            have HLS1 := Lib.hid (HLS.out i k hin hkn)
            have HFS1 := Lib.hid (HFS.out i k hik)
            clear hbw0 hx hx' hrow hrow' hcr hcr' hal hk2 h3a
            go_wp2_with (go_at_call 8; refine HPC.out.mono ?_; rintro e w5 ⟨a5, n5, c5, rfl, hnum5, hb5⟩; have H35 := Lib.hid (HA3.out.trans (hb5.mono HA3.out.size)); have HN5 := Lib.hid hnum5; clear hnum5 hb5)
            have H05 := Lib.hid (HB3.out.trans (H35.out.mono HB3.out.size))
            have HX5 := Lib.hid ((H35.out.block _ (Array.getElem?_eq_some_iff.1 HX3.out).1).trans HX3.out)
            obtain ⟨k0, k1, k2, k3, -⟩ := box_cells4 HX5.out
            have c0 := cell_later H05.out HROW.out.2.2.1
            have c1 := cell_later H05.out HROW.out.2.2.2
            obtain ⟨X, Wf, hX, hS1, hS2⟩ := family (fun V => Below w5.heap.size w5 V) w5 (Below.refl _ _)
            have HS2 := Lib.hid hS2
            have q_k0 := fun x => cell_later (hS1 x) k0
            have q_k1 := fun x => cell_later (hS1 x) k1
            have q_k2 := fun x => cell_later (hS1 x) k2
            have q_k3 := fun x => cell_later (hS1 x) k3
            have q_c0 := fun x => cell_later (hS1 x) c0
            have q_c1 := fun x => cell_later (hS1 x) c1
            clear hS1 hS2
            have hd0 : Below w5.heap.size w5 w5.drew := (Below.refl _ _).drew
            refine wp_region_treAN (Wf := Wf) 15 (.read 0 (.read 1 (.read 2 (.read 3 (.read 4 (.read 5 (.read 6 (.read 7 (.read 8 (.read 9 (.act 10 (.read 11 (.read 12 (.read 13 (.act 14 .fin))))))))))))))) (by kernel_rfl) (by kernel_rfl) (HS2.out _ hd0) ?_
            refine wpTreA_read _ rfl (fun K hK => ?_); unfold rOp; go_simp; (refine hK _ ?_; clear hK K)
            refine wpTreA_read _ rfl (fun K hK => ?_); unfold rOp; go_simp; (refine hK _ ?_; clear hK K)
            refine wpTreA_read _ rfl (fun K hK => ?_); unfold rOp; go_simp; (refine hK _ ?_; clear hK K)
            refine wpTreA_read _ rfl (fun K hK => ?_); unfold rOp; go_simp; (refine hK _ ?_; clear hK K)
            refine wpTreA_read _ rfl (fun K hK => ?_); unfold rOp; go_simp; (refine hK _ ?_; clear hK K)
            refine wpTreA_read _ rfl (fun K hK => ?_); unfold rOp; go_simp; (refine hK _ ?_; clear hK K)
            refine wpTreA_read _ rfl (fun K hK => ?_); unfold rOp; go_simp; (refine hK _ ?_; clear hK K)
            refine wpTreA_read _ rfl (fun K hK => ?_); unfold rOp; go_simp; (refine hK _ ?_; clear hK K)
            refine wpTreA_read _ rfl (fun K hK => ?_); unfold rOp; go_simp; (refine hK _ ?_; clear hK K)
            refine wpTreA_read _ rfl (fun K hK => ?_); unfold rOp; go_simp; (refine hK _ ?_; clear hK K)
            refine wpTreA_act _ rfl ?_
            go_wp2_with fail
            refine (HCO.out _ (H05.out.trans (hd0.mono H05.out.size)) _ _ _ ra rb a5 rn rm rc rd n5 c5 i k (HROW.out.1.below rTok_ok (H05.out.trans (hd0.mono H05.out.size))) (HROW.out.2.1.below rTok_ok (H05.out.trans (hd0.mono H05.out.size))) (HN5.out.below (rSl_ok rInt_ok) hd0) hin hkn).mono ?_
            rintro e w6 ⟨rfl, hb6⟩
            have hd6 := hd0.trans hb6
            go_wp2_with fail
            refine ⟨HS2.out _ hd6, ?_⟩
            refine wpTreA_read _ rfl (fun K hK => ?_); unfold rOp; go_simp; (refine hK _ ?_; clear hK K)
            refine wpTreA_read _ rfl (fun K hK => ?_); unfold rOp; go_simp; (refine hK _ ?_; clear hK K)
            refine wpTreA_read _ rfl (fun K hK => ?_); unfold rOp; go_simp; (refine hK _ ?_; clear hK K)
            refine wpTreA_act _ rfl ?_
            go_wp2_with fail
            refine ⟨HS2.out _ hd6, ?_⟩
            refine wpTreA_fin ?_
            have H36 := Lib.hid (H35.out.trans (hd6.mono H35.out.size))
            clear hd0 hd6 hb6 q_k0 q_k1 q_k2 q_k3 q_c0 q_c1 k0 k1 k2 k3 c0 c1 HS2 hX HN5 HX5 H05
            clear X Wf
            go_wp2_with fail
            rw [noPanic_normal]
            go_wp2_with fail
            have H05 := Lib.hid (HB3.out.trans (H36.out.mono HB3.out.size))
            have HX5 := Lib.hid ((H36.out.block _ (Array.getElem?_eq_some_iff.1 HX3.out).1).trans HX3.out)
            obtain ⟨k0, k1, k2, k3, -⟩ := box_cells4 HX5.out
            have c0 := cell_later H05.out HROW.out.2.2.1
            have c1 := cell_later H05.out HROW.out.2.2.2
            obtain ⟨X, Wf, hX, hS1, hS2⟩ := family (fun V => Below w6.heap.size w6 V) w6 (Below.refl _ _)
            have HS2 := Lib.hid hS2
            have q_k0 := fun x => cell_later (hS1 x) k0
            have q_k1 := fun x => cell_later (hS1 x) k1
            have q_k2 := fun x => cell_later (hS1 x) k2
            have q_k3 := fun x => cell_later (hS1 x) k3
            have q_c0 := fun x => cell_later (hS1 x) c0
            have q_c1 := fun x => cell_later (hS1 x) c1
            clear hS1 hS2
            have hd0 : Below w6.heap.size w6 w6.drew := (Below.refl _ _).drew
            refine wp_region_treAN (Wf := Wf) 14 (.read 0 (.read 1 (.read 2 (.read 3 (.read 4 (.read 5 (.read 6 (.read 7 (.read 8 (.act 9 (.read 10 (.read 11 (.read 12 (.act 13 .fin)))))))))))))) (by kernel_rfl) (by kernel_rfl) (HS2.out _ hd0) ?_
            refine wpTreA_read _ rfl (fun K hK => ?_); unfold rOp; go_simp; (refine hK _ ?_; clear hK K)
            refine wpTreA_read _ rfl (fun K hK => ?_); unfold rOp; go_simp; (refine hK _ ?_; clear hK K)
            refine wpTreA_read _ rfl (fun K hK => ?_); unfold rOp; go_simp; (refine hK _ ?_; clear hK K)
            refine wpTreA_read _ rfl (fun K hK => ?_); unfold rOp; go_simp; (refine hK _ ?_; clear hK K)
            refine wpTreA_read _ rfl (fun K hK => ?_); unfold rOp; go_simp; (refine hK _ ?_; clear hK K)
            refine wpTreA_read _ rfl (fun K hK => ?_); unfold rOp; go_simp; (refine hK _ ?_; clear hK K)
            refine wpTreA_read _ rfl (fun K hK => ?_); unfold rOp; go_simp; (refine hK _ ?_; clear hK K)
            refine wpTreA_read _ rfl (fun K hK => ?_); unfold rOp; go_simp; (refine hK _ ?_; clear hK K)
            refine wpTreA_read _ rfl (fun K hK => ?_); unfold rOp; go_simp; (refine hK _ ?_; clear hK K)
            refine wpTreA_act _ rfl ?_
            go_wp2_with fail
            refine (HDI.out _ (H05.out.trans (hd0.mono H05.out.size)) _ _ ra rb rn rm rc rd i k (HROW.out.1.below rTok_ok (H05.out.trans (hd0.mono H05.out.size))) (HROW.out.2.1.below rTok_ok (H05.out.trans (hd0.mono H05.out.size))) hin hkn).mono ?_
            rintro e w7 ⟨rfl, hb7⟩
            have hd7 := hd0.trans hb7
            go_wp2_with fail
            refine ⟨HS2.out _ hd7, ?_⟩
            refine wpTreA_read _ rfl (fun K hK => ?_); unfold rOp; go_simp; (refine hK _ ?_; clear hK K)
            refine wpTreA_read _ rfl (fun K hK => ?_); unfold rOp; go_simp; (refine hK _ ?_; clear hK K)
            refine wpTreA_read _ rfl (fun K hK => ?_); unfold rOp; go_simp; (refine hK _ ?_; clear hK K)
            refine wpTreA_act _ rfl ?_
            go_wp2_with fail
            refine ⟨HS2.out _ hd7, ?_⟩
            refine wpTreA_fin ?_
            have H37 := Lib.hid (H36.out.trans (hd7.mono H36.out.size))
            clear hd0 hd7 hb7 q_k0 q_k1 q_k2 q_k3 q_c0 q_c1 k0 k1 k2 k3 c0 c1 HS2 hX HX5 H05
            clear X Wf
            generalize CF i k = cv at *
            generalize TF i k = dv at *
            obtain ⟨z, bO, oO, -, -, hoe, -, -, -, -⟩ := HN3.out.int (j := 0) (by omega)
            subst hoe
            have hoc : n ≤ oc := HN3.out.le
            have HCT := Lib.hid (fun (x : Nat) (c' : Nat) (h : 2 ≤ c') => contn_any _ _ 2 c' (O.take 2) x w7 (by
              have := (HN3.out.below rInt_ok H37.out).take (m := 2) (c' := c') (by omega) h
              unfold natI at this ⊢
              rw [List.map_take]; exact this) (by omega) (by omega))
            generalize hbi : decide (i ∈ O.take 2) = bi
            generalize hbk : decide (k ∈ O.take 2) = bk
            have HBB : Hid (bi = true → bk = true → cv = dv) := fun h1 h2 => HFS1.out (of_decide_eq_true (hbi.trans h1)) (of_decide_eq_true (hbk.trans h2))
            have HBI : Hid (decide (i ∈ O.take 2) = bi ∧ decide (k ∈ O.take 2) = bk) := ⟨hbi, hbk⟩
            have dd : decide (cv < dv) = false := decide_eq_false (by have := HLS1.out; omega)
            have dd' : decide ((cv : Int) < (dv : Int)) = false := decide_eq_false (by have := HLS1.out; omega)
            have do1 : decide (2 ≤ oc) = true := decide_eq_true (by omega)
            clear hbi hbk
            go_wp2_with fail
            rw [noPanic_normal]
            go_wp2_with fail
            have hoc2 : 2 ≤ oc := by omega
            go_wp2_with (go_at_call 11; first | (refine (HCT.out i oc hoc2).mono ?_; rintro e w8 ⟨rfl, rfl⟩; rw [HBI.out.1]; cases bi) | (refine (HCT.out k oc hoc2).mono ?_; rintro e w8 ⟨rfl, rfl⟩; rw [HBI.out.2]; cases bk; rotate_left; obtain rfl : cv = dv := (by have := HBB.out; simpa using this); rotate_right))
            all_goals go_roundw
            all_goals first | exact ⟨i + 1, by first | rfl | go_num, by omega, H37⟩ | (simp [intOf]; omega)
          · go_wp2_with fail
            go_roundw
            case rel => exact ⟨k + 1, by first | rfl | go_num, by omega, hb⟩
            case measure => simp [intOf]; omega
      · go_wp2_with (go_at_call 5; refine (HAW.out _ (HB3.out.trans (hb.out.mono HB3.out.size))).mono ?_; rintro e w9 ⟨rfl, hb9⟩; have HB9 := Lib.hid ((HB3.out.trans (hb.out.mono HB3.out.size)).trans (hb9.mono (HB3.out.trans (hb.out.mono HB3.out.size)).size)); clear hb9)
        go_ret
        exact ⟨rfl, HB9.out⟩
  · have HNP := Lib.hid hp
    clear h hE hnl hp
    generalize (c.ok ∧ 0 < n ∧ n ≤ 3 ∧ ∀ r ∈ l, r.length ≤ 4 ∧ ∀ t ∈ r, t.err = 0) = OK at *
    obtain ⟨cg, cn, cl, cm⟩ := c
    dsimp only [Cst.val, Cst.arr] at hb0 hX HFI ⊢
    generalize hWA : w.alloc (.cells #[.int .i64 cg, .int .i64 cn, .int .i64 cl, .int .i64 cm] 23) = WA at *
    obtain ⟨k0, k1, k2, k3, -⟩ := box_cells4 hX
    have HB0 := Lib.hid hb0
    have HX := Lib.hid hX
    clear hb0 hX hn2
    go_enter Tryz.func3, Tryz.ntmps3
    go_wp2_with (first | ((go_at_call 4; go_loud (refine (HFI.out _ HB0.out).mono ?_; rintro e w1 ⟨bb, rfl, hP, hb1⟩; have HB1 := Lib.hid (HB0.out.trans (hb1.mono HB0.out.size)); have HX1 := Lib.hid ((hb1.block _ (Array.getElem?_eq_some_iff.1 HX.out).1).trans HX.out); clear hb1; have HP := Lib.hid hP; clear hP; obtain ⟨k0, k1, k2, k3, -⟩ := box_cells4 HX1.out; cases bb)); rotate_left; exact absurd (HP.out rfl) HNP.out) | (go_at_call 5; refine (HAW.out _ HB1.out).mono ?_; rintro e w9 ⟨rfl, hb9⟩; have HB9 := Lib.hid (HB1.out.trans (hb9.mono HB1.out.size)); clear hb9))
    go_ret
    exact ⟨rfl, HB9.out⟩
end Go.Proofs.YtaelfjlmkgimhaaGreatDoor

namespace Go.Proofs.YtaelfjlmkgimhaaGreatDoor
open Go.RowKit Go.ChangeShapes Go.WideShapes Go.Deep

theorem list_of {α : Type} (d : α) (R : Nat → α → Prop) : ∀ n : Nat, (∀ i, i < n → ∃ x, R i x) → ∃ l : List α, l.length = n ∧ ∀ i, i < n → R i (l[i]?.getD d)
  | 0, _ => ⟨[], rfl, fun i hi => by omega⟩
  | n + 1, h => by
    obtain ⟨l, hl, hR⟩ := list_of d R n (fun i hi => h i (by omega))
    obtain ⟨x, hx⟩ := h n (by omega)
    refine ⟨l ++ [x], by simp [hl], fun i hi => ?_⟩
    by_cases e : i < n
    · rw [List.getElem?_append_left (by omega)]; exact hR i e
    · obtain rfl : i = l.length := by omega
      rw [List.getElem?_append_right (Nat.le_refl _)]; simpa [hl] using hx
theorem addr_plain {w : World} {x : Addr} {v : Value} (h : w.cell? (x.add 0) = some v) : ∃ b off, x = ⟨b, off, none⟩ := by
  obtain ⟨b, off, spot⟩ := x
  have hspot : spot = none := by simpa [Addr.add] using World.cell?_spot h
  exact ⟨b, off, by rw [hspot]⟩
theorem len_2 {α : Type} {l : List α} (h : l.length = 2) : ∃ a b, l = [a, b] := by
  match l, h with
  | [a, b], _ => exact ⟨a, b, rfl⟩
theorem len_4 {α : Type} {l : List α} (h : l.length = 4) : ∃ a b c d, l = [a, b, c, d] := by
  match l, h with
  | [a, b, c, d], _ => exact ⟨a, b, c, d, rfl⟩
theorem len_5 {α : Type} {l : List α} (h : l.length = 5) : ∃ a b c d e, l = [a, b, c, d, e] := by
  match l, h with
  | [a, b, c, d, e], _ => exact ⟨a, b, c, d, e, rfl⟩
theorem len_6 {α : Type} {l : List α} (h : l.length = 6) : ∃ a b c d e f, l = [a, b, c, d, e, f] := by
  match l, h with
  | [a, b, c, d, e, f], _ => exact ⟨a, b, c, d, e, f, rfl⟩
section
variable {H : Type} {enc : TypeId × Value → H} {w : World} {base : Nat} {held : Bool} {spare : Nat → Bool}
theorem weightsAll_mem {P : Program} {e : TypeId} : ∀ {ds : List (DataW H)} {d : DataW H}, d ∈ ds → ∀ n ∈ d.weights P e, n ∈ DataW.weightsAll P e ds
  | d0 :: r, d, hd, n, hn => by
    rw [DataW.weightsAll, List.mem_append]
    rcases List.mem_cons.1 hd with rfl | hd
    · exact .inl hn
    · exact .inr (weightsAll_mem hd n hn)

/-- What is to be shown at a type. -/
def Opn {α : Type} (enc : TypeId × Value → H) (w : World) (base : Nat) (spare : Nat → Bool) (held : Bool) (t : TypeId) (R : Rel α) : Prop :=
  ∀ (fuel : Nat) (cs : List Value) (x : DataW H × List MemPlace), DataW.trod enc Tryz.prog w base spare held fuel t cs = some x → (∀ k ∈ DataW.weights Tryz.prog t x.1, k ≤ reachBytes) → ∃ y : α, R (fun b => b < w.heap.size) w cs y
theorem opn_int : Opn enc w base spare held 3 rInt := by
  intro fuel cs x h hw
  obtain ⟨n, rfl, _, hwf⟩ := DataW.trod_int Tryz.underlying3 h
  exact ⟨n, rfl, I64.of_wf hwf⟩
theorem opn_text {t : TypeId} (hu : Tryz.prog.underlying t = some .string) : Opn enc w base spare held t rStr := by
  intro fuel cs x h hw
  obtain ⟨s, rfl, hx, _⟩ := DataW.trod_string hu h
  refine ⟨s, rfl, ?_⟩
  have := hw s.data.toList.length (by rw [hx]; simp [DataW.weights])
  have h9 : reachBytes = 140737488351232 := rfl
  have h8 : s.data.toList.length = s.size := Array.length_toList
  omega
theorem opn_slice {α : Type} [Inhabited α] {R : Rel α} {t e : TypeId} {k s : Nat} (hu : Tryz.prog.underlying t = some (.slice e)) (hk : Tryz.prog.cellsOf e = k) (hs : Tryz.prog.bytesOf e = s) (hk0 : 0 < k) (hR : Opn enc w base spare held e R) :
    Opn enc w base spare held t (rSl R k s) := by
  intro fuel cs x h hw
  rcases DataW.trod_slice hu h with ⟨hcs, _⟩ | ⟨a, len, cap, elems, rest, n, rfl, hcs, rfl, hb, hl, hm, hel, hat, _, _⟩
  · exact ⟨[], none, 0, 0, hcs, Sq.nil _ _ _ _ _⟩
  · rw [hk] at hat
    have hsz : len * s ≤ 140737488355328 := by
      have := hw ((elems.length + rest.length) * s) (by simp [DataW.weights, hu, hs])
      have h9 : reachBytes = 140737488351232 := rfl
      rw [hel] at this
      have h8 : len * s ≤ (len + rest.length) * s := Nat.mul_le_mul_right _ (by omega)
      omega
    obtain ⟨l, hll, hRl⟩ := list_of (default : α) (fun i (d : α) => ∃ cs : List Value, cs.length = k ∧ (∀ j y, cs[j]? = some y → w.cell? ((a.add (i * k)).add j) = some y) ∧ R (fun b => b < w.heap.size) w cs d) len (fun i hi => by
      obtain ⟨y, hy⟩ : ∃ y, elems[i]? = some y := ⟨_, List.getElem?_eq_getElem (by omega)⟩
      have h1 := hat i hi
      rw [hy] at h1
      obtain ⟨cs', hc, ht⟩ := Option.bind_eq_some_iff.1 h1
      obtain ⟨d, hd⟩ := hR n cs' y ht (fun k hk => hw k (by
        simp only [DataW.weights, hu, List.mem_cons, List.mem_append]
        exact .inr (.inl (weightsAll_mem (List.mem_map.2 ⟨y, List.mem_of_getElem? hy, rfl⟩) k hk))))
      obtain ⟨_, hlen, hcl⟩ := World.cells?_some hc
      refine ⟨d, cs', hlen, fun j y hj => ?_, hd⟩
      have hjk : j < k := by rw [← hlen]; exact (List.getElem?_eq_some_iff.1 hj).1
      rw [hcl j hjk, hj])
    refine ⟨l, some a, len, cap, hcs, hll.symm, hl, hsz, fun j d hj => ?_⟩
    have hjl : j < len := by rw [← hll]; exact (List.getElem?_eq_some_iff.1 hj).1
    obtain ⟨cs1, g1, g2, g3⟩ := hRl j hjl
    rw [hj] at g3
    obtain ⟨b, off, sp⟩ := a
    obtain ⟨y, hy⟩ : ∃ y, cs1[0]? = some y := ⟨_, List.getElem?_eq_getElem (by omega)⟩
    obtain ⟨cs0, e1, e2, _⟩ := hRl 0 (by omega)
    have g0 := e2 0 _ (List.getElem?_eq_getElem (by omega))
    rw [Nat.zero_mul] at g0
    have hsp : sp = none := by simpa [Addr.add] using World.cell?_spot g0
    subst hsp
    have h0 := g2 0 y hy
    rw [Addr.add_lit, Addr.add_lit] at h0
    refine ⟨b, off, cs1, rfl, World.block_lt_of_cell? _ _ h0, World.block_lt_of_cell? _ _ h0, g1, fun i y hi => ?_, g3⟩
    have := g2 i y hi
    rw [Addr.add_lit, Addr.add_lit] at this
    exact this
set_option maxRecDepth 100000 in
theorem opn_tok : Opn enc w base spare held 47 rTok := by
  intro fuel cs x h hw
  obtain ⟨xs, n, rfl, rfl, hl, hlen, hf⟩ := DataW.trod_struct Tryz.underlying47 h
  rw [show Tryz.prog.cellsOf 47 = 6 by kernel_rfl] at hl
  have hlen' : xs.length = 5 := hlen
  obtain ⟨c0, c1, c2, c3, c4, c5, rfl⟩ := len_6 hl
  obtain ⟨y0, y1, y2, y3, y4, rfl⟩ := len_5 hlen'
  clear hl hlen hlen'
  have g0 := hf 0 _ rfl
  have g1 := hf 1 _ rfl
  have g2 := hf 2 _ rfl
  have g3 := hf 3 _ rfl
  have g4 := hf 4 _ rfl
  simp only [List.getElem?_cons_zero, List.getElem?_cons_succ] at g0 g1 g2 g3 g4
  have hwe : ∀ k, (k ∈ DataW.weights Tryz.prog 9 y0.1 ∨ k ∈ DataW.weights Tryz.prog 9 y1.1 ∨ k ∈ DataW.weights Tryz.prog 45 y2.1 ∨ k ∈ DataW.weights Tryz.prog 3 y3.1 ∨ k ∈ DataW.weights Tryz.prog 9 y4.1) → k ≤ reachBytes := fun k hk => hw k (by
    simp only [DataW.weights, Tryz.underlying47, List.map_cons, List.map_nil, DataW.weightsEach, List.mem_append]
    rcases hk with hk | hk | hk | hk | hk
    · exact .inl hk
    · exact .inr (.inl hk)
    · exact .inr (.inr (.inl hk))
    · exact .inr (.inr (.inr (.inl hk)))
    · exact .inr (.inr (.inr (.inr (.inl hk)))))
  obtain ⟨s0, e0, z0⟩ := opn_text Tryz.underlying9 _ _ _ g0 (fun k hk => hwe k (.inl hk))
  obtain ⟨s1, e1, z1⟩ := opn_text Tryz.underlying9 _ _ _ g1 (fun k hk => hwe k (.inr (.inl hk)))
  obtain ⟨s4, e4, z4⟩ := opn_text Tryz.underlying9 _ _ _ g4 (fun k hk => hwe k (.inr (.inr (.inr (.inr hk)))))
  obtain ⟨n3, e3, z3⟩ := opn_int _ _ _ g3 (fun k hk => hwe k (.inr (.inr (.inr (.inl hk)))))
  obtain ⟨xp, np, rfl, ex, hlp, hlenp, hfp⟩ := DataW.trod_struct Tryz.underlying45 g2
  have hlenp' : xp.length = 2 := hlenp
  obtain ⟨w0, w1, rfl⟩ := len_2 hlenp'
  have p0 := hfp 0 _ rfl
  have p1 := hfp 1 _ rfl
  simp only [List.getElem?_cons_zero, List.getElem?_cons_succ] at p0 p1
  have hwp : ∀ k, (k ∈ DataW.weights Tryz.prog 9 w0.1 ∨ k ∈ DataW.weights Tryz.prog 3 w1.1) → k ≤ reachBytes := fun k hk => hwe k (.inr (.inr (.inl (by
    rw [ex]
    simp only [DataW.weights, Tryz.underlying45, List.map_cons, List.map_nil, DataW.weightsEach, List.mem_append]
    rcases hk with hk | hk
    · exact .inl hk
    · exact .inr (.inl hk)))))
  obtain ⟨s2, e2, z2⟩ := opn_text Tryz.underlying9 _ _ _ p0 (fun k hk => hwp k (.inl hk))
  obtain ⟨n2, e5, z5⟩ := opn_int _ _ _ p1 (fun k hk => hwp k (.inr hk))
  change [c0] = [_] at e0
  change [c1] = [_] at e1
  change [c2] = [_] at e2
  change [c3] = [_] at e5
  change [c4] = [_] at e3
  change [c5] = [_] at e4
  cases e0; cases e1; cases e2; cases e3; cases e4; cases e5
  exact ⟨⟨s0, s1, s2, n2, n3, s4⟩, rfl, z0, z1, z2, z5, z3, z4⟩
set_option maxRecDepth 100000 in
/-- The costs. -/
theorem opn_costs {fuel : Nat} {cs : List Value} {x : DataW H × List MemPlace} (h : DataW.trod enc Tryz.prog w base spare held fuel 23 cs = some x) : ∃ c : Cst, cs = c.arr.toList := by
  obtain ⟨xs, n, rfl, rfl, hl, hlen, hf⟩ := DataW.trod_struct Tryz.underlying23 h
  rw [show Tryz.prog.cellsOf 23 = 4 by kernel_rfl] at hl
  have hlen' : xs.length = 4 := hlen
  obtain ⟨c0, c1, c2, c3, rfl⟩ := len_4 hl
  obtain ⟨y0, y1, y2, y3, rfl⟩ := len_4 hlen'
  clear hl hlen hlen'
  have g0 := hf 0 _ rfl
  have g1 := hf 1 _ rfl
  have g2 := hf 2 _ rfl
  have g3 := hf 3 _ rfl
  simp only [List.getElem?_cons_zero, List.getElem?_cons_succ] at g0 g1 g2 g3
  obtain ⟨n0, e0, _, _⟩ := DataW.trod_int Tryz.underlying3 g0
  obtain ⟨n1, e1, _, _⟩ := DataW.trod_int Tryz.underlying3 g1
  obtain ⟨n2, e2, _, _⟩ := DataW.trod_int Tryz.underlying3 g2
  obtain ⟨n3, e3, _, _⟩ := DataW.trod_int Tryz.underlying3 g3
  change [c0] = [_] at e0
  change [c1] = [_] at e1
  change [c2] = [_] at e2
  change [c3] = [_] at e3
  cases e0; cases e1; cases e2; cases e3
  exact ⟨⟨n0, n1, n2, n3⟩, rfl⟩
/-- The lists of tokens. -/
theorem opn_toks : Opn enc w base spare held 24 (rSl (rSl rTok 6 80) 1 24) := by
  haveI : Inhabited Tok := ⟨⟨⟨#[]⟩, ⟨#[]⟩, ⟨#[]⟩, 0, 0, ⟨#[]⟩⟩⟩
  exact opn_slice Tryz.underlying24 (k := 1) (s := 24) (by kernel_rfl) (by kernel_rfl) (by decide) (opn_slice Tryz.underlying37 (k := 6) (s := 80) (by kernel_rfl) (by kernel_rfl) (by decide) opn_tok)
end
/-- The library's variables, as every row of the seat lists them. -/
def laid5 : List (String × DataW Unit) := [("math/bits.deBruijn32tab", Rows.laid_math_bits_deBruijn32tab), ("math/bits.deBruijn64tab", Rows.laid_math_bits_deBruijn64tab), ("internal/strconv.uint64pow10", Rows.laid_internal_strconv_uint64pow10), ("strconv.ErrRange", Rows.laid_strconv_ErrRange), ("strconv.ErrSyntax", Rows.laid_strconv_ErrSyntax)]
theorem door_met (os : Os) (args : Array Value) : laidMetH Tryz.prog laid5 ((World.doorLaid Tryz.prog 62 os).forCall (fun _ _ => 0) ⟨#[], args, []⟩).memory :=
  laidMetH_of_parts3 (fuel := 8) (laidMet_of_run' 8 (by kernel_rfl) (by kernel_rfl)) (by kernel_rfl) (by kernel_rfl)
theorem pow10_data : (Rows.laid_internal_strconv_uint64pow10 : DataW Unit) = Lib.tabData .u64 Lib.pow10Tab := by rfl
theorem iface_of {P : Program} {W : World} {held : Bool} {fuel : Nat} {t : TypeId} {ms : Array (String × TypeId)} {cs : List Value} {nm : String} {d : DataW Unit} {p : List MemPlace} {enc : TypeId × Value → Unit} (ht : P.underlying t = some (.interface ms))
    (h : DataW.trod enc P W 0 (fun _ => true) held fuel t cs = some (.iface nm d, p)) : ∃ u v, cs = [.iface u v] := by
  cases fuel with
  | zero => simp [DataW.trod] at h
  | succ fuel =>
    unfold DataW.trod at h
    rw [ht] at h
    split at h <;> simp_all
theorem env_of_laid {W : World} (h : laidMetH Tryz.prog laid5 W) : Env W := by
  rw [MakeChecks.laidMetH_plain _ _ _ (by kernel_rfl)] at h
  obtain ⟨ps, ⟨g0, t0, cs0, f0, p0, q0, -, -, -, -, ⟨g1, t1, cs1, f1, p1, q1, -, -, -, -, ⟨g2, t2, cs2, f2, p2, q2, hg2, ht2, hv2, hd2, ⟨g3, t3, cs3, f3, p3, q3, hg3, ht3, hv3, hd3, ⟨g4, t4, cs4, f4, p4, q4, hg4, ht4, hv4, hd4, -, -⟩, -⟩, -⟩, -⟩, -⟩, -⟩ := h
  obtain rfl := Option.some.inj ((show Tryz.prog.globalNamed "internal/strconv.uint64pow10" = some 0 by kernel_rfl).symm.trans hg2)
  obtain rfl := Option.some.inj ((show Tryz.prog.globalNamed "strconv.ErrRange" = some 2 by kernel_rfl).symm.trans hg3)
  obtain rfl := Option.some.inj ((show Tryz.prog.globalNamed "strconv.ErrSyntax" = some 1 by kernel_rfl).symm.trans hg4)
  obtain rfl := Option.some.inj ((show (Tryz.prog.globals[0]?).map (·.type) = some 158 by kernel_rfl).symm.trans ht2)
  obtain rfl := Option.some.inj ((show (Tryz.prog.globals[2]?).map (·.type) = some 128 by kernel_rfl).symm.trans ht3)
  obtain rfl := Option.some.inj ((show (Tryz.prog.globals[1]?).map (·.type) = some 128 by kernel_rfl).symm.trans ht4)
  obtain ⟨u3, v3, e3⟩ := iface_of Tryz.underlying128 hd3
  obtain ⟨u4, v4, e4⟩ := iface_of Tryz.underlying128 hd4
  refine ⟨?_, ⟨u4, v4, ?_⟩, ⟨u3, v3, ?_⟩⟩
  · rw [pow10_data] at hd2
    unfold Lib.TabIs
    rw [hv2, ← Lib.cells_of_tab Tryz.underlying158 Tryz.underlying122 (by kernel_rfl) (by kernel_rfl) hd2]
  · rw [hv4, Array.eq_one_of_toList e4]
  · rw [hv3, Array.eq_one_of_toList e3]
end Go.Proofs.YtaelfjlmkgimhaaGreatDoor
