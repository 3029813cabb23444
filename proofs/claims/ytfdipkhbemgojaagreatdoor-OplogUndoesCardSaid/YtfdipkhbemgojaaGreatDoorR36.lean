/- Joined: OSta, OTrp. -/
import Derived.Test.YtfdipkhbemgojaaGreatDoorR35
import Derived.Test.YtfdipkhbemgojaaGreatDoorR32
import Derived.Test.YtfdipkhbemgojaaGreatDoorR34
set_option linter.unusedVariables false
set_option linter.unusedSimpArgs false
set_option maxRecDepth 100000
set_option maxHeartbeats 16000000
namespace Go.Proofs.YtfdipkhbemgojaaGreatDoor
open Go.RowKit

def allocs (w : World) : List (Array Value × TypeId) -> World
  | [] => w
  | p :: r => allocs (w.alloc (.cells p.1 p.2)) r
theorem allocs_spec : ∀ (l : List (Array Value × TypeId)) (w : World), Below w.heap.size w (allocs w l) /\ (allocs w l).heap.size = w.heap.size + l.length /\ ∀ i p, l[i]? = some p -> (allocs w l).heap[w.heap.size + i]? = some (.cells p.1 p.2 (0, 0))
  | [], w => ⟨Below.refl _ _, rfl, fun i p h => by simp at h⟩
  | p :: r, w => by
    obtain ⟨h1, h2, h3⟩ := allocs_spec r (w.alloc (.cells p.1 p.2))
    have hs : (w.alloc (.cells p.1 p.2)).heap.size = w.heap.size + 1 := by simp
    have ha : Below w.heap.size w (w.alloc (.cells p.1 p.2)) := (Below.refl _ _).alloc (Nat.le_refl _) _
    refine ⟨ha.trans (h1.mono ha.size), by show (allocs _ r).heap.size = _; rw [h2, hs, List.length_cons]; omega, fun i q hi => ?_⟩
    match i with
    | 0 =>
      cases hi
      show (allocs _ r).heap[w.heap.size + 0]? = _
      rw [h1.block _ (by omega)]
      exact World.alloc_heap_new w _
    | i + 1 =>
      have := h3 i q hi
      rw [hs, show w.heap.size + 1 + i = w.heap.size + (i + 1) by omega] at this
      exact this
def bAa : ByteArray := ⟨#[97]⟩
def bBb : ByteArray := ⟨#[98]⟩
def startC : Col := ⟨⟨#[73]⟩, [⟨#[65]⟩, ⟨#[66]⟩], [[tokS bAa, tokS bBb], [tokS bAa, tokS bBb]], [[0, 0], [1, 1]]⟩
theorem start_any (w : World) : Calls Tryz.prog 53 #[] w fun e w' => ∃ v : CV, e = .returned v.val /\ RdC (fun _ => True) w' v startC /\ Below w.heap.size w w' := by
  go_enter Tryz.func53, Tryz.ntmps53
  go_wp2
  change bodyPost _ _ _ _ _ (allocs w [(#[.string ⟨#[73]⟩, .slice (some ⟨w.heap.size + 1 + 1 + 1, 0, none⟩) 2 2, .slice (some ⟨w.heap.size + 1 + 1 + 1 + 1 + 1 + 1, 0, none⟩) 2 2, .slice (some ⟨w.heap.size + 1 + 1 + 1 + 1 + 1 + 1 + 1 + 1 + 1, 0, none⟩) 2 2], 26), (#[.string ⟨#[97]⟩, .string ⟨#[97]⟩, .string ⟨#[]⟩, .int .i64 0, .int .i64 0, .string ⟨#[]⟩], 102), (#[.string ⟨#[98]⟩, .string ⟨#[98]⟩, .string ⟨#[]⟩, .int .i64 0, .int .i64 0, .string ⟨#[]⟩], 102), (#[.string ⟨#[65]⟩, .string ⟨#[66]⟩], 9), (#[.string ⟨#[97]⟩, .string ⟨#[97]⟩, .string ⟨#[]⟩, .int .i64 0, .int .i64 0, .string ⟨#[]⟩, .string ⟨#[98]⟩, .string ⟨#[98]⟩, .string ⟨#[]⟩, .int .i64 0, .int .i64 0, .string ⟨#[]⟩], 102), (#[.string ⟨#[97]⟩, .string ⟨#[97]⟩, .string ⟨#[]⟩, .int .i64 0, .int .i64 0, .string ⟨#[]⟩, .string ⟨#[98]⟩, .string ⟨#[98]⟩, .string ⟨#[]⟩, .int .i64 0, .int .i64 0, .string ⟨#[]⟩], 102), (#[.slice (some ⟨w.heap.size + 1 + 1 + 1 + 1, 0, none⟩) 2 2, .slice (some ⟨w.heap.size + 1 + 1 + 1 + 1 + 1, 0, none⟩) 2 2], 94), (#[.int .i64 0, .int .i64 0], 3), (#[.int .i64 1, .int .i64 1], 3), (#[.slice (some ⟨w.heap.size + 1 + 1 + 1 + 1 + 1 + 1 + 1, 0, none⟩) 2 2, .slice (some ⟨w.heap.size + 1 + 1 + 1 + 1 + 1 + 1 + 1 + 1, 0, none⟩) 2 2], 51)])
  obtain ⟨hb, hs, hg⟩ := allocs_spec [(#[.string ⟨#[73]⟩, .slice (some ⟨w.heap.size + 1 + 1 + 1, 0, none⟩) 2 2, .slice (some ⟨w.heap.size + 1 + 1 + 1 + 1 + 1 + 1, 0, none⟩) 2 2, .slice (some ⟨w.heap.size + 1 + 1 + 1 + 1 + 1 + 1 + 1 + 1 + 1, 0, none⟩) 2 2], 26), (#[.string ⟨#[97]⟩, .string ⟨#[97]⟩, .string ⟨#[]⟩, .int .i64 0, .int .i64 0, .string ⟨#[]⟩], 102), (#[.string ⟨#[98]⟩, .string ⟨#[98]⟩, .string ⟨#[]⟩, .int .i64 0, .int .i64 0, .string ⟨#[]⟩], 102), (#[.string ⟨#[65]⟩, .string ⟨#[66]⟩], 9), (#[.string ⟨#[97]⟩, .string ⟨#[97]⟩, .string ⟨#[]⟩, .int .i64 0, .int .i64 0, .string ⟨#[]⟩, .string ⟨#[98]⟩, .string ⟨#[98]⟩, .string ⟨#[]⟩, .int .i64 0, .int .i64 0, .string ⟨#[]⟩], 102), (#[.string ⟨#[97]⟩, .string ⟨#[97]⟩, .string ⟨#[]⟩, .int .i64 0, .int .i64 0, .string ⟨#[]⟩, .string ⟨#[98]⟩, .string ⟨#[98]⟩, .string ⟨#[]⟩, .int .i64 0, .int .i64 0, .string ⟨#[]⟩], 102), (#[.slice (some ⟨w.heap.size + 1 + 1 + 1 + 1, 0, none⟩) 2 2, .slice (some ⟨w.heap.size + 1 + 1 + 1 + 1 + 1, 0, none⟩) 2 2], 94), (#[.int .i64 0, .int .i64 0], 3), (#[.int .i64 1, .int .i64 1], 3), (#[.slice (some ⟨w.heap.size + 1 + 1 + 1 + 1 + 1 + 1 + 1, 0, none⟩) 2 2, .slice (some ⟨w.heap.size + 1 + 1 + 1 + 1 + 1 + 1 + 1 + 1, 0, none⟩) 2 2], 51)] w
  have gC := hg 0 _ rfl
  have gS := hg 3 _ rfl
  have gT1 := hg 4 _ rfl
  have gT2 := hg 5 _ rfl
  have gR := hg 6 _ rfl
  have gI1 := hg 7 _ rfl
  have gI2 := hg 8 _ rfl
  have gK := hg 9 _ rfl
  generalize allocs w [(#[.string ⟨#[73]⟩, .slice (some ⟨w.heap.size + 1 + 1 + 1, 0, none⟩) 2 2, .slice (some ⟨w.heap.size + 1 + 1 + 1 + 1 + 1 + 1, 0, none⟩) 2 2, .slice (some ⟨w.heap.size + 1 + 1 + 1 + 1 + 1 + 1 + 1 + 1 + 1, 0, none⟩) 2 2], 26), (#[.string ⟨#[97]⟩, .string ⟨#[97]⟩, .string ⟨#[]⟩, .int .i64 0, .int .i64 0, .string ⟨#[]⟩], 102), (#[.string ⟨#[98]⟩, .string ⟨#[98]⟩, .string ⟨#[]⟩, .int .i64 0, .int .i64 0, .string ⟨#[]⟩], 102), (#[.string ⟨#[65]⟩, .string ⟨#[66]⟩], 9), (#[.string ⟨#[97]⟩, .string ⟨#[97]⟩, .string ⟨#[]⟩, .int .i64 0, .int .i64 0, .string ⟨#[]⟩, .string ⟨#[98]⟩, .string ⟨#[98]⟩, .string ⟨#[]⟩, .int .i64 0, .int .i64 0, .string ⟨#[]⟩], 102), (#[.string ⟨#[97]⟩, .string ⟨#[97]⟩, .string ⟨#[]⟩, .int .i64 0, .int .i64 0, .string ⟨#[]⟩, .string ⟨#[98]⟩, .string ⟨#[98]⟩, .string ⟨#[]⟩, .int .i64 0, .int .i64 0, .string ⟨#[]⟩], 102), (#[.slice (some ⟨w.heap.size + 1 + 1 + 1 + 1, 0, none⟩) 2 2, .slice (some ⟨w.heap.size + 1 + 1 + 1 + 1 + 1, 0, none⟩) 2 2], 94), (#[.int .i64 0, .int .i64 0], 3), (#[.int .i64 1, .int .i64 1], 3), (#[.slice (some ⟨w.heap.size + 1 + 1 + 1 + 1 + 1 + 1 + 1, 0, none⟩) 2 2, .slice (some ⟨w.heap.size + 1 + 1 + 1 + 1 + 1 + 1 + 1 + 1, 0, none⟩) 2 2], 51)] = W at *
  clear hg hs
  have hS1 : Strs (fun _ => True) W (some ⟨w.heap.size + 3, 0, none⟩) 2 2 [⟨#[65]⟩, ⟨#[66]⟩] := Sq.lit _ [⟨#[65]⟩, ⟨#[66]⟩] encS gS rfl (fun _ => rfl) trivial (by simp) (fun x hx => ⟨rfl, by simp at hx; rcases hx with rfl | rfl <;> decide⟩)
  have hT1 : Toks (fun _ => True) W (some ⟨w.heap.size + 4, 0, none⟩) 2 2 [tokS bAa, tokS bBb] := Sq.lit _ [tokS bAa, tokS bBb] Tok.cells gT1 rfl (fun _ => rfl) trivial (by simp) (fun x hx => ⟨rfl, by simp at hx; rcases hx with rfl | rfl <;> (unfold Tok.ok I64; decide)⟩)
  have hT2 : Toks (fun _ => True) W (some ⟨w.heap.size + 5, 0, none⟩) 2 2 [tokS bAa, tokS bBb] := Sq.lit _ [tokS bAa, tokS bBb] Tok.cells gT2 rfl (fun _ => rfl) trivial (by simp) (fun x hx => ⟨rfl, by simp at hx; rcases hx with rfl | rfl <;> (unfold Tok.ok I64; decide)⟩)
  have hC1 : Nums (fun _ => True) W (some ⟨w.heap.size + 7, 0, none⟩) 2 2 [0, 0] := Sq.lit _ [0, 0] encI gI1 rfl (fun _ => rfl) trivial (by simp) (fun x hx => ⟨rfl, by simp at hx; subst hx; unfold I64; decide⟩)
  have hC2 : Nums (fun _ => True) W (some ⟨w.heap.size + 8, 0, none⟩) 2 2 [1, 1] := Sq.lit _ [1, 1] encI gI2 rfl (fun _ => rfl) trivial (by simp) (fun x hx => ⟨rfl, by simp at hx; subst hx; unfold I64; decide⟩)
  have hR : RdC (fun _ => True) W ⟨⟨#[73]⟩, some ⟨w.heap.size + 1 + 1 + 1, 0, none⟩, 2, 2, some ⟨w.heap.size + 1 + 1 + 1 + 1 + 1 + 1, 0, none⟩, 2, 2, some ⟨w.heap.size + 1 + 1 + 1 + 1 + 1 + 1 + 1 + 1 + 1, 0, none⟩, 2, 2⟩ startC :=
    ⟨rfl, by show (⟨#[73]⟩ : ByteArray).size <= _; decide, hS1, Sq.lit2 gR trivial hT1 hT2, Sq.lit2 gK trivial hC1 hC2⟩
  obtain ⟨r0, r1, r2, r3, -⟩ := box_cells4 gC
  rw [Nat.add_zero] at r0 r1 r2 r3
  exact bodyPost_ret (v := .agg #[.string ⟨#[73]⟩, .slice (some ⟨w.heap.size + 1 + 1 + 1, 0, none⟩) 2 2, .slice (some ⟨w.heap.size + 1 + 1 + 1 + 1 + 1 + 1, 0, none⟩) 2 2, .slice (some ⟨w.heap.size + 1 + 1 + 1 + 1 + 1 + 1 + 1 + 1 + 1, 0, none⟩) 2 2]) (by simp [results, Tryz.results53, go_sem, r0, r1, r2, r3]) rfl ⟨_, rfl, hR, hb⟩
end Go.Proofs.YtfdipkhbemgojaaGreatDoor
namespace Go.Proofs.YtfdipkhbemgojaaGreatDoor
open Go.RowKit

theorem undo_any (S : Nat -> Prop) (v : LV) (l : Lg) (i : Int) (w : World) (h : RdL S w v l) (hm : SmL l) (hE : Env w) : Calls Tryz.prog 27 #[v.val, .int .i64 i] w (LogPost S (l.turn i true) w) := by
  have h2 : RdL (fun b => S b /\ b < w.heap.size) w v l := h.mono (fun b q q' => ⟨q, q'⟩)
  have HIX : Hid (∀ W, Below w.heap.size w W -> Calls Tryz.prog 63 #[v.val, .int .i64 i] W fun e w' => e = .returned (.int .i64 (l.idx i)) /\ Below W.heap.size W w') := fun W hb => idx_any S v l i W (h.below hb) hm (hE.below hb)
  have HU := hiq h2.2.2
  have hub := h2.2.2.bound
  by_cases i0 : l.idx i = 0
  · obtain ⟨k, rfl, hk1, hk2⟩ := idx_nat i0
    have hkn : k < v.un := by rw [h2.2.2.len]; exact hk2
    have HT1 : Hid (unK l.und k ≠ true -> l.turn (k : Int) true = l.changed k true) := turn_changed i0
    have HT2 : Hid (unK l.und k = true -> l.turn (k : Int) true = (Lg.none, 7)) := fun q => turn_same i0 q
    obtain ⟨u, bu, ofu, eu, -, eua, -, hbu, du⟩ := h2.2.2.flg hkn
    have hun : unK l.und k = u := by unfold unK; rw [eu]; rfl
    rw [hun] at HT1 HT2
    rw [i0] at HIX
    have HCH : Hid (∀ W, Below w.heap.size w W -> Calls Tryz.prog 64 #[v.val, .int .i64 (k : Int), .bool true] W (LogPost (fun b => S b /\ b < w.heap.size) (l.changed k true) W)) := fun W hb => changed_any _ v l k true W (h2.below hb) hm (hE.below hb) hk2
    unfold LogPost at HCH
    unfold LogPost
    generalize l.turn (k : Int) true = R at *
    generalize l.changed k true = CR at *
    clear h h2 hm hE HU i0 eu hun hk1 hk2
    obtain ⟨⟨sec, sa, sn, sc, ta, tn, tc, ca, cn, cc⟩, oa, on, oc, ua, un, uc⟩ := v
    dsimp only at hkn hub eua
    subst eua
    change Calls _ _ #[.agg #[.string sec, .slice sa sn sc, .slice ta tn tc, .slice ca cn cc, .slice oa on oc, .slice (some ⟨bu, ofu, none⟩) un uc], _] _ _
    change Hid (∀ W, _ -> Calls _ _ #[.agg #[.string sec, .slice sa sn sc, .slice ta tn tc, .slice ca cn cc, .slice oa on oc, .slice (some ⟨bu, ofu, none⟩) un uc], _] _ _) at HIX
    change Hid (∀ W, _ -> Calls _ _ #[.agg #[.string sec, .slice sa sn sc, .slice ta tn tc, .slice ca cn cc, .slice oa on oc, .slice (some ⟨bu, ofu, none⟩) un uc], _, _] _ _) at HCH
    obtain ⟨W1, hW1, hb, hs1, gX, gR⟩ := box2r w #[.string sec, .slice sa sn sc, .slice ta tn tc, .slice ca cn cc, .slice oa on oc, .slice (some ⟨bu, ofu, none⟩) un uc] #[.string ⟨#[]⟩, .slice none 0 0, .slice none 0 0, .slice none 0 0, .slice none 0 0, .slice none 0 0] 30 30
    have HIQ := hiq (HIX.out _ hb)
    obtain ⟨c0, c1, c2, c3, c4, c5⟩ := box_cells6 gX
    rw [hW1] at c0 c1 c2 c3 c4 c5
    clear HIX
    go_enter Tryz.func27, Tryz.ntmps27
    go_wp2_with fail
    rw [<- hW1] at *
    clear hW1 gX
    refine HIQ.out.mono ?_
    rintro e W2 ⟨rfl, hb2⟩
    replace c0 := clq hb2 c0; replace c1 := clq hb2 c1; replace c2 := clq hb2 c2; replace c3 := clq hb2 c3; replace c4 := clq hb2 c4; replace c5 := clq hb2 c5
    replace gR := (hb2.block _ (by omega)).trans gR
    replace hb := hb.trans (hb2.mono hb.size)
    replace du := clq hb du
    have hs2 := hb2.size
    clear HIQ hb2
    cases u with
    | true =>
      have HEQ := hiq (HT2.out rfl)
      clear HT1 HT2
      obtain ⟨y0, y1, y2, y3, y4, y5⟩ := box_cells6 gR
      have yf0 := frozen5 gR 0
      have yf1 := frozen5 gR 1
      have yf2 := frozen5 gR 2
      have yf3 := frozen5 gR 3
      have yf4 := frozen5 gR 4
      have yf5 := frozen5 gR 5
      have HALL := hiq (And.intro gR hb)
      clear gR hb 
      go_wp2
      change bodyPost _ _ _ _ _ (put6 W2 (w.heap.size + 1) (.string ⟨#[]⟩) (.slice none 0 0) (.slice none 0 0) (.slice none 0 0) (.slice none 0 0) (.slice none 0 0))
      obtain ⟨gR, hb⟩ := HALL.out
      obtain ⟨r0, r1, r2, r3, r4, r5⟩ := box_cells6 (put6_at gR (.string ⟨#[]⟩) (.slice none 0 0) (.slice none 0 0) (.slice none 0 0) (.slice none 0 0) (.slice none 0 0))
      have hbf := put6_below hb (b := w.heap.size + 1) (by omega) (.string ⟨#[]⟩) (.slice none 0 0) (.slice none 0 0) (.slice none 0 0) (.slice none 0 0) (.slice none 0 0)
      generalize put6 W2 (w.heap.size + 1) (.string ⟨#[]⟩) (.slice none 0 0) (.slice none 0 0) (.slice none 0 0) (.slice none 0 0) (.slice none 0 0) = WF at *
      refine bodyPost_ret (v := .tuple #[.agg #[.string ⟨#[]⟩, .slice none 0 0, .slice none 0 0, .slice none 0 0, .slice none 0 0, .slice none 0 0], .int .i64 7]) (by simp [results, Tryz.results27, go_sem, r0, r1, r2, r3, r4, r5]) rfl ?_
      rw [HEQ.out]
      exact ⟨⟨⟨⟨#[]⟩, none, 0, 0, none, 0, 0, none, 0, 0⟩, none, 0, 0, none, 0, 0⟩, rfl, rdL_none _ _, hbf⟩
    | false =>
      have HEQ := hiq (HT1.out (by simp))
      clear HT1 HT2
      have HCQ := hiq (HCH.out _ hb)
      clear HCH
      go_wp2_with fail
      refine HCQ.out.mono ?_
      rintro e W3 ⟨v2, he, hR3, hb4⟩
      obtain ⟨LL, RC⟩ := CR
      dsimp only at he hR3
      obtain ⟨⟨sec2, sa2, sn2, sc2, ta2, tn2, tc2, ca2, cn2, cc2⟩, oa2, on2, oc2, ua2, un2, uc2⟩ := v2
      change e = .returned (.tuple #[.agg #[.string sec2, .slice sa2 sn2 sc2, .slice ta2 tn2 tc2, .slice ca2 cn2 cc2, .slice oa2 on2 oc2, .slice ua2 un2 uc2], .int .i64 RC]) at he
      subst he
      replace gR := (hb4.block _ (by omega)).trans gR
      replace hb := hb.trans (hb4.mono hb.size)
      have HRV := hiq hR3
      have hs4 := hb4.size
      clear HCQ hR3 hb4 c0 c1 c2 c3 c4 c5 du
      obtain ⟨y0, y1, y2, y3, y4, y5⟩ := box_cells6 gR
      have yf0 := frozen5 gR 0
      have yf1 := frozen5 gR 1
      have yf2 := frozen5 gR 2
      have yf3 := frozen5 gR 3
      have yf4 := frozen5 gR 4
      have yf5 := frozen5 gR 5
      have HALL := hiq (And.intro gR hb)
      clear gR hb 
      go_wp2
      change bodyPost _ _ _ _ _ (put6 W3 (w.heap.size + 1) (.string sec2) (.slice sa2 sn2 sc2) (.slice ta2 tn2 tc2) (.slice ca2 cn2 cc2) (.slice oa2 on2 oc2) (.slice ua2 un2 uc2))
      obtain ⟨gR, hb⟩ := HALL.out
      obtain ⟨r0, r1, r2, r3, r4, r5⟩ := box_cells6 (put6_at gR (.string sec2) (.slice sa2 sn2 sc2) (.slice ta2 tn2 tc2) (.slice ca2 cn2 cc2) (.slice oa2 on2 oc2) (.slice ua2 un2 uc2))
      have hbf := put6_below hb (b := w.heap.size + 1) (by omega) (.string sec2) (.slice sa2 sn2 sc2) (.slice ta2 tn2 tc2) (.slice ca2 cn2 cc2) (.slice oa2 on2 oc2) (.slice ua2 un2 uc2)
      have hRf := HRV.out.keep (put6_keep (W := W3) (b := w.heap.size + 1) (by rintro (⟨-, q⟩ | q) <;> omega) (.string sec2) (.slice sa2 sn2 sc2) (.slice ta2 tn2 tc2) (.slice ca2 cn2 cc2) (.slice oa2 on2 oc2) (.slice ua2 un2 uc2))
      generalize put6 W3 (w.heap.size + 1) (.string sec2) (.slice sa2 sn2 sc2) (.slice ta2 tn2 tc2) (.slice ca2 cn2 cc2) (.slice oa2 on2 oc2) (.slice ua2 un2 uc2) = WF at *
      refine bodyPost_ret (v := .tuple #[.agg #[.string sec2, .slice sa2 sn2 sc2, .slice ta2 tn2 tc2, .slice ca2 cn2 cc2, .slice oa2 on2 oc2, .slice ua2 un2 uc2], .int .i64 RC]) (by simp [results, Tryz.results27, go_sem, r0, r1, r2, r3, r4, r5]) rfl ?_
      rw [HEQ.out]
      exact ⟨⟨⟨sec2, sa2, sn2, sc2, ta2, tn2, tc2, ca2, cn2, cc2⟩, oa2, on2, oc2, ua2, un2, uc2⟩, rfl, hRf.mono (fun b q _ => by rcases q with q | q; exact .inl q.1; exact .inr (by omega)), hbf⟩
  · have HEQ : Hid (l.turn i true = (Lg.none, l.idx i)) := turn_err i0
    have t0 : ((l.idx i : Int) != 0) = true := by simpa using i0
    unfold LogPost
    generalize l.turn i true = R at *
    generalize l.idx i = I at *
    clear h h2 hm hE HU i0
    obtain ⟨⟨sec, sa, sn, sc, ta, tn, tc, ca, cn, cc⟩, oa, on, oc, ua, un, uc⟩ := v
    change Calls _ _ #[.agg #[.string sec, .slice sa sn sc, .slice ta tn tc, .slice ca cn cc, .slice oa on oc, .slice ua un uc], _] _ _
    change Hid (∀ W, _ -> Calls _ _ #[.agg #[.string sec, .slice sa sn sc, .slice ta tn tc, .slice ca cn cc, .slice oa on oc, .slice ua un uc], _] _ _) at HIX
    obtain ⟨W1, hW1, hb, hs1, gX, gR⟩ := box2r w #[.string sec, .slice sa sn sc, .slice ta tn tc, .slice ca cn cc, .slice oa on oc, .slice ua un uc] #[.string ⟨#[]⟩, .slice none 0 0, .slice none 0 0, .slice none 0 0, .slice none 0 0, .slice none 0 0] 30 30
    have HIQ := hiq (HIX.out _ hb)
    obtain ⟨c0, c1, c2, c3, c4, c5⟩ := box_cells6 gX
    rw [hW1] at c0 c1 c2 c3 c4 c5
    clear HIX
    go_enter Tryz.func27, Tryz.ntmps27
    go_wp2_with fail
    rw [<- hW1] at *
    clear hW1 gX
    refine HIQ.out.mono ?_
    rintro e W2 ⟨rfl, hb2⟩
    replace gR := (hb2.block _ (by omega)).trans gR
    replace hb := hb.trans (hb2.mono hb.size)
    have hs2 := hb2.size
    clear HIQ hb2 c0 c1 c2 c3 c4 c5
    obtain ⟨y0, y1, y2, y3, y4, y5⟩ := box_cells6 gR
    have yf0 := frozen5 gR 0
    have yf1 := frozen5 gR 1
    have yf2 := frozen5 gR 2
    have yf3 := frozen5 gR 3
    have yf4 := frozen5 gR 4
    have yf5 := frozen5 gR 5
    have HALL := hiq (And.intro gR hb)
    clear gR hb 
    go_wp2
    change bodyPost _ _ _ _ _ (put6 W2 (w.heap.size + 1) (.string ⟨#[]⟩) (.slice none 0 0) (.slice none 0 0) (.slice none 0 0) (.slice none 0 0) (.slice none 0 0))
    obtain ⟨gR, hb⟩ := HALL.out
    obtain ⟨r0, r1, r2, r3, r4, r5⟩ := box_cells6 (put6_at gR (.string ⟨#[]⟩) (.slice none 0 0) (.slice none 0 0) (.slice none 0 0) (.slice none 0 0) (.slice none 0 0))
    have hbf := put6_below hb (b := w.heap.size + 1) (by omega) (.string ⟨#[]⟩) (.slice none 0 0) (.slice none 0 0) (.slice none 0 0) (.slice none 0 0) (.slice none 0 0)
    generalize put6 W2 (w.heap.size + 1) (.string ⟨#[]⟩) (.slice none 0 0) (.slice none 0 0) (.slice none 0 0) (.slice none 0 0) (.slice none 0 0) = WF at *
    refine bodyPost_ret (v := .tuple #[.agg #[.string ⟨#[]⟩, .slice none 0 0, .slice none 0 0, .slice none 0 0, .slice none 0 0, .slice none 0 0], .int .i64 I]) (by simp [results, Tryz.results27, go_sem, r0, r1, r2, r3, r4, r5]) rfl ?_
    rw [HEQ.out]
    exact ⟨⟨⟨⟨#[]⟩, none, 0, 0, none, 0, 0, none, 0, 0⟩, none, 0, 0, none, 0, 0⟩, rfl, rdL_none _ _, hbf⟩
theorem redo_any (S : Nat -> Prop) (v : LV) (l : Lg) (i : Int) (w : World) (h : RdL S w v l) (hm : SmL l) (hE : Env w) : Calls Tryz.prog 28 #[v.val, .int .i64 i] w (LogPost S (l.turn i false) w) := by
  have h2 : RdL (fun b => S b /\ b < w.heap.size) w v l := h.mono (fun b q q' => ⟨q, q'⟩)
  have HIX : Hid (∀ W, Below w.heap.size w W -> Calls Tryz.prog 63 #[v.val, .int .i64 i] W fun e w' => e = .returned (.int .i64 (l.idx i)) /\ Below W.heap.size W w') := fun W hb => idx_any S v l i W (h.below hb) hm (hE.below hb)
  have HU := hiq h2.2.2
  have hub := h2.2.2.bound
  by_cases i0 : l.idx i = 0
  · obtain ⟨k, rfl, hk1, hk2⟩ := idx_nat i0
    have hkn : k < v.un := by rw [h2.2.2.len]; exact hk2
    have HT1 : Hid (unK l.und k ≠ false -> l.turn (k : Int) false = l.changed k false) := turn_changed i0
    have HT2 : Hid (unK l.und k = false -> l.turn (k : Int) false = (Lg.none, 6)) := fun q => turn_same i0 q
    obtain ⟨u, bu, ofu, eu, -, eua, -, hbu, du⟩ := h2.2.2.flg hkn
    have hun : unK l.und k = u := by unfold unK; rw [eu]; rfl
    rw [hun] at HT1 HT2
    rw [i0] at HIX
    have HCH : Hid (∀ W, Below w.heap.size w W -> Calls Tryz.prog 64 #[v.val, .int .i64 (k : Int), .bool false] W (LogPost (fun b => S b /\ b < w.heap.size) (l.changed k false) W)) := fun W hb => changed_any _ v l k false W (h2.below hb) hm (hE.below hb) hk2
    unfold LogPost at HCH
    unfold LogPost
    generalize l.turn (k : Int) false = R at *
    generalize l.changed k false = CR at *
    clear h h2 hm hE HU i0 eu hun hk1 hk2
    obtain ⟨⟨sec, sa, sn, sc, ta, tn, tc, ca, cn, cc⟩, oa, on, oc, ua, un, uc⟩ := v
    dsimp only at hkn hub eua
    subst eua
    change Calls _ _ #[.agg #[.string sec, .slice sa sn sc, .slice ta tn tc, .slice ca cn cc, .slice oa on oc, .slice (some ⟨bu, ofu, none⟩) un uc], _] _ _
    change Hid (∀ W, _ -> Calls _ _ #[.agg #[.string sec, .slice sa sn sc, .slice ta tn tc, .slice ca cn cc, .slice oa on oc, .slice (some ⟨bu, ofu, none⟩) un uc], _] _ _) at HIX
    change Hid (∀ W, _ -> Calls _ _ #[.agg #[.string sec, .slice sa sn sc, .slice ta tn tc, .slice ca cn cc, .slice oa on oc, .slice (some ⟨bu, ofu, none⟩) un uc], _, _] _ _) at HCH
    obtain ⟨W1, hW1, hb, hs1, gX, gR⟩ := box2r w #[.string sec, .slice sa sn sc, .slice ta tn tc, .slice ca cn cc, .slice oa on oc, .slice (some ⟨bu, ofu, none⟩) un uc] #[.string ⟨#[]⟩, .slice none 0 0, .slice none 0 0, .slice none 0 0, .slice none 0 0, .slice none 0 0] 30 30
    have HIQ := hiq (HIX.out _ hb)
    obtain ⟨c0, c1, c2, c3, c4, c5⟩ := box_cells6 gX
    rw [hW1] at c0 c1 c2 c3 c4 c5
    clear HIX
    go_enter Tryz.func28, Tryz.ntmps28
    go_wp2_with fail
    rw [<- hW1] at *
    clear hW1 gX
    refine HIQ.out.mono ?_
    rintro e W2 ⟨rfl, hb2⟩
    replace c0 := clq hb2 c0; replace c1 := clq hb2 c1; replace c2 := clq hb2 c2; replace c3 := clq hb2 c3; replace c4 := clq hb2 c4; replace c5 := clq hb2 c5
    replace gR := (hb2.block _ (by omega)).trans gR
    replace hb := hb.trans (hb2.mono hb.size)
    replace du := clq hb du
    have hs2 := hb2.size
    clear HIQ hb2
    cases u with
    | false =>
      have HEQ := hiq (HT2.out rfl)
      clear HT1 HT2
      obtain ⟨y0, y1, y2, y3, y4, y5⟩ := box_cells6 gR
      have yf0 := frozen5 gR 0
      have yf1 := frozen5 gR 1
      have yf2 := frozen5 gR 2
      have yf3 := frozen5 gR 3
      have yf4 := frozen5 gR 4
      have yf5 := frozen5 gR 5
      have HALL := hiq (And.intro gR hb)
      clear gR hb 
      go_wp2
      change bodyPost _ _ _ _ _ (put6 W2 (w.heap.size + 1) (.string ⟨#[]⟩) (.slice none 0 0) (.slice none 0 0) (.slice none 0 0) (.slice none 0 0) (.slice none 0 0))
      obtain ⟨gR, hb⟩ := HALL.out
      obtain ⟨r0, r1, r2, r3, r4, r5⟩ := box_cells6 (put6_at gR (.string ⟨#[]⟩) (.slice none 0 0) (.slice none 0 0) (.slice none 0 0) (.slice none 0 0) (.slice none 0 0))
      have hbf := put6_below hb (b := w.heap.size + 1) (by omega) (.string ⟨#[]⟩) (.slice none 0 0) (.slice none 0 0) (.slice none 0 0) (.slice none 0 0) (.slice none 0 0)
      generalize put6 W2 (w.heap.size + 1) (.string ⟨#[]⟩) (.slice none 0 0) (.slice none 0 0) (.slice none 0 0) (.slice none 0 0) (.slice none 0 0) = WF at *
      refine bodyPost_ret (v := .tuple #[.agg #[.string ⟨#[]⟩, .slice none 0 0, .slice none 0 0, .slice none 0 0, .slice none 0 0, .slice none 0 0], .int .i64 6]) (by simp [results, Tryz.results28, go_sem, r0, r1, r2, r3, r4, r5]) rfl ?_
      rw [HEQ.out]
      exact ⟨⟨⟨⟨#[]⟩, none, 0, 0, none, 0, 0, none, 0, 0⟩, none, 0, 0, none, 0, 0⟩, rfl, rdL_none _ _, hbf⟩
    | true =>
      have HEQ := hiq (HT1.out (by simp))
      clear HT1 HT2
      have HCQ := hiq (HCH.out _ hb)
      clear HCH
      go_wp2_with fail
      refine HCQ.out.mono ?_
      rintro e W3 ⟨v2, he, hR3, hb4⟩
      obtain ⟨LL, RC⟩ := CR
      dsimp only at he hR3
      obtain ⟨⟨sec2, sa2, sn2, sc2, ta2, tn2, tc2, ca2, cn2, cc2⟩, oa2, on2, oc2, ua2, un2, uc2⟩ := v2
      change e = .returned (.tuple #[.agg #[.string sec2, .slice sa2 sn2 sc2, .slice ta2 tn2 tc2, .slice ca2 cn2 cc2, .slice oa2 on2 oc2, .slice ua2 un2 uc2], .int .i64 RC]) at he
      subst he
      replace gR := (hb4.block _ (by omega)).trans gR
      replace hb := hb.trans (hb4.mono hb.size)
      have HRV := hiq hR3
      have hs4 := hb4.size
      clear HCQ hR3 hb4 c0 c1 c2 c3 c4 c5 du
      obtain ⟨y0, y1, y2, y3, y4, y5⟩ := box_cells6 gR
      have yf0 := frozen5 gR 0
      have yf1 := frozen5 gR 1
      have yf2 := frozen5 gR 2
      have yf3 := frozen5 gR 3
      have yf4 := frozen5 gR 4
      have yf5 := frozen5 gR 5
      have HALL := hiq (And.intro gR hb)
      clear gR hb 
      go_wp2
      change bodyPost _ _ _ _ _ (put6 W3 (w.heap.size + 1) (.string sec2) (.slice sa2 sn2 sc2) (.slice ta2 tn2 tc2) (.slice ca2 cn2 cc2) (.slice oa2 on2 oc2) (.slice ua2 un2 uc2))
      obtain ⟨gR, hb⟩ := HALL.out
      obtain ⟨r0, r1, r2, r3, r4, r5⟩ := box_cells6 (put6_at gR (.string sec2) (.slice sa2 sn2 sc2) (.slice ta2 tn2 tc2) (.slice ca2 cn2 cc2) (.slice oa2 on2 oc2) (.slice ua2 un2 uc2))
      have hbf := put6_below hb (b := w.heap.size + 1) (by omega) (.string sec2) (.slice sa2 sn2 sc2) (.slice ta2 tn2 tc2) (.slice ca2 cn2 cc2) (.slice oa2 on2 oc2) (.slice ua2 un2 uc2)
      have hRf := HRV.out.keep (put6_keep (W := W3) (b := w.heap.size + 1) (by rintro (⟨-, q⟩ | q) <;> omega) (.string sec2) (.slice sa2 sn2 sc2) (.slice ta2 tn2 tc2) (.slice ca2 cn2 cc2) (.slice oa2 on2 oc2) (.slice ua2 un2 uc2))
      generalize put6 W3 (w.heap.size + 1) (.string sec2) (.slice sa2 sn2 sc2) (.slice ta2 tn2 tc2) (.slice ca2 cn2 cc2) (.slice oa2 on2 oc2) (.slice ua2 un2 uc2) = WF at *
      refine bodyPost_ret (v := .tuple #[.agg #[.string sec2, .slice sa2 sn2 sc2, .slice ta2 tn2 tc2, .slice ca2 cn2 cc2, .slice oa2 on2 oc2, .slice ua2 un2 uc2], .int .i64 RC]) (by simp [results, Tryz.results28, go_sem, r0, r1, r2, r3, r4, r5]) rfl ?_
      rw [HEQ.out]
      exact ⟨⟨⟨sec2, sa2, sn2, sc2, ta2, tn2, tc2, ca2, cn2, cc2⟩, oa2, on2, oc2, ua2, un2, uc2⟩, rfl, hRf.mono (fun b q _ => by rcases q with q | q; exact .inl q.1; exact .inr (by omega)), hbf⟩
  · have HEQ : Hid (l.turn i false = (Lg.none, l.idx i)) := turn_err i0
    have t0 : ((l.idx i : Int) != 0) = true := by simpa using i0
    unfold LogPost
    generalize l.turn i false = R at *
    generalize l.idx i = I at *
    clear h h2 hm hE HU i0
    obtain ⟨⟨sec, sa, sn, sc, ta, tn, tc, ca, cn, cc⟩, oa, on, oc, ua, un, uc⟩ := v
    change Calls _ _ #[.agg #[.string sec, .slice sa sn sc, .slice ta tn tc, .slice ca cn cc, .slice oa on oc, .slice ua un uc], _] _ _
    change Hid (∀ W, _ -> Calls _ _ #[.agg #[.string sec, .slice sa sn sc, .slice ta tn tc, .slice ca cn cc, .slice oa on oc, .slice ua un uc], _] _ _) at HIX
    obtain ⟨W1, hW1, hb, hs1, gX, gR⟩ := box2r w #[.string sec, .slice sa sn sc, .slice ta tn tc, .slice ca cn cc, .slice oa on oc, .slice ua un uc] #[.string ⟨#[]⟩, .slice none 0 0, .slice none 0 0, .slice none 0 0, .slice none 0 0, .slice none 0 0] 30 30
    have HIQ := hiq (HIX.out _ hb)
    obtain ⟨c0, c1, c2, c3, c4, c5⟩ := box_cells6 gX
    rw [hW1] at c0 c1 c2 c3 c4 c5
    clear HIX
    go_enter Tryz.func28, Tryz.ntmps28
    go_wp2_with fail
    rw [<- hW1] at *
    clear hW1 gX
    refine HIQ.out.mono ?_
    rintro e W2 ⟨rfl, hb2⟩
    replace gR := (hb2.block _ (by omega)).trans gR
    replace hb := hb.trans (hb2.mono hb.size)
    have hs2 := hb2.size
    clear HIQ hb2 c0 c1 c2 c3 c4 c5
    obtain ⟨y0, y1, y2, y3, y4, y5⟩ := box_cells6 gR
    have yf0 := frozen5 gR 0
    have yf1 := frozen5 gR 1
    have yf2 := frozen5 gR 2
    have yf3 := frozen5 gR 3
    have yf4 := frozen5 gR 4
    have yf5 := frozen5 gR 5
    have HALL := hiq (And.intro gR hb)
    clear gR hb 
    go_wp2
    change bodyPost _ _ _ _ _ (put6 W2 (w.heap.size + 1) (.string ⟨#[]⟩) (.slice none 0 0) (.slice none 0 0) (.slice none 0 0) (.slice none 0 0) (.slice none 0 0))
    obtain ⟨gR, hb⟩ := HALL.out
    obtain ⟨r0, r1, r2, r3, r4, r5⟩ := box_cells6 (put6_at gR (.string ⟨#[]⟩) (.slice none 0 0) (.slice none 0 0) (.slice none 0 0) (.slice none 0 0) (.slice none 0 0))
    have hbf := put6_below hb (b := w.heap.size + 1) (by omega) (.string ⟨#[]⟩) (.slice none 0 0) (.slice none 0 0) (.slice none 0 0) (.slice none 0 0) (.slice none 0 0)
    generalize put6 W2 (w.heap.size + 1) (.string ⟨#[]⟩) (.slice none 0 0) (.slice none 0 0) (.slice none 0 0) (.slice none 0 0) (.slice none 0 0) = WF at *
    refine bodyPost_ret (v := .tuple #[.agg #[.string ⟨#[]⟩, .slice none 0 0, .slice none 0 0, .slice none 0 0, .slice none 0 0, .slice none 0 0], .int .i64 I]) (by simp [results, Tryz.results28, go_sem, r0, r1, r2, r3, r4, r5]) rfl ?_
    rw [HEQ.out]
    exact ⟨⟨⟨⟨#[]⟩, none, 0, 0, none, 0, 0, none, 0, 0⟩, none, 0, 0, none, 0, 0⟩, rfl, rdL_none _ _, hbf⟩
end Go.Proofs.YtfdipkhbemgojaaGreatDoor
