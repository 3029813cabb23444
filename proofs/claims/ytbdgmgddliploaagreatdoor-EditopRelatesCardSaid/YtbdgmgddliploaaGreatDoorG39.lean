/- Joined: ECom. -/
import Derived.Test.YtbdgmgddliploaaGreatDoorG21
import Derived.Test.YtbdgmgddliploaaGreatDoorG22
set_option linter.unusedVariables false
set_option linter.unusedSimpArgs false
set_option maxRecDepth 100000
set_option maxHeartbeats 16000000
namespace Go.Proofs.YtbdgmgddliploaaGreatDoor
open Go.RowKit

/-- The error of one operation behind the other. -/
def bothErr (x : Col) (a b : Op) : Int := if opErr x a ≠ 0 then opErr x a else opErr (opApply x a) b
def bothCol (x : Col) (a b : Op) : Col := if opErr x a ≠ 0 then Col.none else opApply (opApply x a) b
theorem commute_both {x : Col} {a b : Op} (ha : opErr x a = 0) (hb : opErr x b = 0) : commute x a b = (decide (bothErr x a b = 0) && decide (bothErr x b a = 0) && decide (bothCol x a b = bothCol x b a), 0) := by
  unfold commute bothErr bothCol
  rw [if_neg (by simp [ha]), if_neg (by simp [hb]), if_neg (by simp [ha]), if_neg (by simp [hb]), if_neg (by simp [ha]), if_neg (by simp [hb])]
theorem both_any (S : Nat -> Prop) (v : CV) (x : Col) (a b : Op) (bx : Nat) (w : World) (hx : w.heap[bx]? = some (.cells v.arr 26 (0, 0))) (h : RdC S w v x) (hm : Sml x) (hE : Env w) (ha : a.ok) (hb : b.ok) (hta : a.text.size <= 1000000) (htb : b.text.size <= 1000000) :
    Calls Tryz.prog 66 #[a.val, b.val, .pointer (some ⟨bx, 0, none⟩)] w fun e w' => ∃ v' : CV, e = .returned (.tuple #[v'.val, .int .i64 (bothErr x a b)]) /\ RdC (fun j => S j \/ w.heap.size <= j) w' v' (bothCol x a b) /\ Below w.heap.size w w' := by
  have HP : Hid (∀ W, Below w.heap.size w W -> Calls Tryz.prog 14 #[v.val, a.val] W (EditPost (fun j => S j /\ j < w.heap.size) x a W)) := fun W hb => edit_any _ v x a W ((h.mono (fun b h1 h2 => ⟨h1, h2⟩)).below hb) hm (hE.below hb) ha hta
  have HQ : Hid (∀ (T : Nat -> Prop) (u : CV) W, Below w.heap.size w W -> RdC T W u (opApply x a) -> Calls Tryz.prog 14 #[u.val, b.val] W (EditPost T (opApply x a) b W)) := fun T u W hbW hu => edit_any T u _ b W hu (sml_op hm hta) (hE.below hbW) hb htb
  have HN : Hid (opErr x a ≠ 0 -> opApply x a = Col.none) := opApply_none
  unfold EditPost at HP HQ
  unfold bothErr bothCol
  generalize hY : opApply x a = Y at *
  generalize opErr x a = E at *
  generalize opErr Y b = G at *
  generalize opApply Y b = Z at *
  clear h hm hE ha hb hta htb hY
  obtain ⟨sec, sa, sn, sc, ta, tn, tc, ca, cn, cc⟩ := v
  obtain ⟨a1, a2, a3, a4, a5⟩ := a
  obtain ⟨b1, b2, b3, b4, b5⟩ := b
  change w.heap[bx]? = some (.cells #[.string sec, .slice sa sn sc, .slice ta tn tc, .slice ca cn cc] 26 (0, 0)) at hx
  change Calls _ _ #[.agg #[.int .i64 a1, .string a2, .int .i64 a3, .int .i64 a4, .string a5], .agg #[.int .i64 b1, .string b2, .int .i64 b3, .int .i64 b4, .string b5], _] _ _
  change Hid (∀ W, _ -> Calls _ _ #[.agg #[.string sec, .slice sa sn sc, .slice ta tn tc, .slice ca cn cc], .agg #[.int .i64 a1, .string a2, .int .i64 a3, .int .i64 a4, .string a5]] _ _) at HP
  change Hid (∀ (T : Nat -> Prop) (u : CV) W, _ -> _ -> Calls _ _ #[_, .agg #[.int .i64 b1, .string b2, .int .i64 b3, .int .i64 b4, .string b5]] _ _) at HQ
  obtain ⟨hb0, hsz, hA, hB, hR⟩ := box3 w #[.int .i64 a1, .string a2, .int .i64 a3, .int .i64 a4, .string a5] #[.int .i64 b1, .string b2, .int .i64 b3, .int .i64 b4, .string b5] #[.string ⟨#[]⟩, .slice none 0 0, .slice none 0 0, .slice none 0 0] 28 28 26
  have hbx : (((w.alloc (.cells #[.int .i64 a1, .string a2, .int .i64 a3, .int .i64 a4, .string a5] 28)).alloc (.cells #[.int .i64 b1, .string b2, .int .i64 b3, .int .i64 b4, .string b5] 28)).alloc (.cells #[.string ⟨#[]⟩, .slice none 0 0, .slice none 0 0, .slice none 0 0] 26)).heap[w.heap.size + 1 + 1]? = some (.cells #[.string ⟨#[]⟩, .slice none 0 0, .slice none 0 0, .slice none 0 0] 26 (0, 0)) := by
    have := World.alloc_heap_new ((w.alloc (.cells #[.int .i64 a1, .string a2, .int .i64 a3, .int .i64 a4, .string a5] 28)).alloc (.cells #[.int .i64 b1, .string b2, .int .i64 b3, .int .i64 b4, .string b5] 28)) (.cells #[.string ⟨#[]⟩, .slice none 0 0, .slice none 0 0, .slice none 0 0] 26)
    simpa using this
  have o0 := hA 0 _ rfl
  have o1 := hA 1 _ rfl
  have o2 := hA 2 _ rfl
  have o3 := hA 3 _ rfl
  have o4 := hA 4 _ rfl
  have q0 := hB 0 _ rfl
  have q1 := hB 1 _ rfl
  have q2 := hB 2 _ rfl
  have q3 := hB 3 _ rfl
  have q4 := hB 4 _ rfl
  obtain ⟨c0, c1, c2, c3, -⟩ := box_cells4 hx
  replace c0 := clq hb0 c0; replace c1 := clq hb0 c1; replace c2 := clq hb0 c2; replace c3 := clq hb0 c3
  have hsb : w.heap.size + 1 + 1 < (((w.alloc (.cells #[.int .i64 a1, .string a2, .int .i64 a3, .int .i64 a4, .string a5] 28)).alloc (.cells #[.int .i64 b1, .string b2, .int .i64 b3, .int .i64 b4, .string b5] 28)).alloc (.cells #[.string ⟨#[]⟩, .slice none 0 0, .slice none 0 0, .slice none 0 0] 26)).heap.size := by simp
  have HPP := hiq (HP.out _ hb0)
  clear hA hB hR HP hx
  go_enter Tryz.func66, Tryz.ntmps66
  go_wp2_with fail
  generalize ((w.alloc (.cells #[.int .i64 a1, .string a2, .int .i64 a3, .int .i64 a4, .string a5] 28)).alloc (.cells #[.int .i64 b1, .string b2, .int .i64 b3, .int .i64 b4, .string b5] 28)).alloc (.cells #[.string ⟨#[]⟩, .slice none 0 0, .slice none 0 0, .slice none 0 0] 26) = W1 at *
  refine HPP.out.mono ?_
  rintro e W2 ⟨v', he, hR, hb2⟩
  obtain ⟨sec2, sa2, sn2, sc2, ta2, tn2, tc2, ca2, cn2, cc2⟩ := v'
  change e = .returned (.tuple #[.agg #[.string sec2, .slice sa2 sn2 sc2, .slice ta2 tn2 tc2, .slice ca2 cn2 cc2], .int .i64 E]) at he
  subst he
  have hal : Below W2.heap.size W2 (W2.alloc (.cells #[.string sec2, .slice sa2 sn2 sc2, .slice ta2 tn2 tc2, .slice ca2 cn2 cc2] 26)) := (Below.refl _ _).alloc (Nat.le_refl _) _
  have hb3 := hb2.trans (hal.mono hb2.size)
  obtain ⟨z0, z1, z2, z3, -⟩ := box_cells4 (World.alloc_heap_new W2 (.cells #[.string sec2, .slice sa2 sn2 sc2, .slice ta2 tn2 tc2, .slice ca2 cn2 cc2] 26))
  replace q0 := clq hb3 q0; replace q1 := clq hb3 q1; replace q2 := clq hb3 q2; replace q3 := clq hb3 q3; replace q4 := clq hb3 q4
  have gz := (hb3.block _ hsb).trans hbx
  have hb4 := hb0.trans (hb3.mono hb0.size)
  have HR := hiq (hR.below hal)
  have HB4 := hiq hb4
  have HGZ := hiq gz
  have hs1 := hb3.size
  clear hR hal hb2 hb3 hb4 hbx HPP o0 o1 o2 o3 o4 c0 c1 c2 c3
  by_cases h0 : E = 0
  · have t0 : ((E : Int) != 0) = false := by simp [h0]
    have HQQ := hiq (HQ.out _ ⟨sec2, sa2, sn2, sc2, ta2, tn2, tc2, ca2, cn2, cc2⟩ _ HB4.out HR.out)
    change Hid (Calls _ _ #[.agg #[.string sec2, .slice sa2 sn2 sc2, .slice ta2 tn2 tc2, .slice ca2 cn2 cc2], _] _ _) at HQQ
    clear gz HN
    go_wp2_with fail
    generalize W2.alloc (.cells #[.string sec2, .slice sa2 sn2 sc2, .slice ta2 tn2 tc2, .slice ca2 cn2 cc2] 26) = W3 at *
    refine HQQ.out.mono ?_
    rintro e W4 ⟨v', he, hR4, hb5⟩
    obtain ⟨sec3, sa3, sn3, sc3, ta3, tn3, tc3, ca3, cn3, cc3⟩ := v'
    change e = .returned (.tuple #[.agg #[.string sec3, .slice sa3 sn3 sc3, .slice ta3 tn3 tc3, .slice ca3 cn3 cc3], .int .i64 G]) at he
    subst he
    have hlt : w.heap.size + 1 + 1 < W3.heap.size := (Array.getElem?_eq_some_iff.1 HGZ.out).1
    have gz4 := (hb5.block _ hlt).trans HGZ.out
    obtain ⟨z0, z1, z2, z3, zf⟩ := box_cells4 gz4
    have zf0 := zf 0
    have zf1 := zf 1
    have zf2 := zf 2
    have zf3 := zf 3
    have HR4 := hiq hR4
    have HB5 := hiq hb5
    have HG4 := hiq gz4
    clear zf gz4 hR4 hb5 HQQ HQ q0 q1 q2 q3 q4
    go_wp2
    obtain ⟨r0, r1, r2, r3, -⟩ := box_cells4 (put4_at HG4.out (.string sec3) (.slice sa3 sn3 sc3) (.slice ta3 tn3 tc3) (.slice ca3 cn3 cc3))
    have hbf : Below w.heap.size w (put4 W4 (w.heap.size + 1 + 1) (.string sec3) (.slice sa3 sn3 sc3) (.slice ta3 tn3 tc3) (.slice ca3 cn3 cc3)) := put4_below (HB4.out.trans (HB5.out.mono HB4.out.size)) (by omega) _ _ _ _
    have hRf := HR4.out.keep (w' := put4 W4 (w.heap.size + 1 + 1) (.string sec3) (.slice sa3 sn3 sc3) (.slice ta3 tn3 tc3) (.slice ca3 cn3 cc3)) (put4_keep (by rintro ((⟨-, q⟩ | q) | q) <;> omega) _ _ _ _)
    change bodyPost _ _ _ _ _ (put4 W4 (w.heap.size + 1 + 1) (.string sec3) (.slice sa3 sn3 sc3) (.slice ta3 tn3 tc3) (.slice ca3 cn3 cc3))
    generalize put4 W4 (w.heap.size + 1 + 1) (.string sec3) (.slice sa3 sn3 sc3) (.slice ta3 tn3 tc3) (.slice ca3 cn3 cc3) = WF at *
    exact bodyPost_ret (v := .tuple #[.agg #[.string sec3, .slice sa3 sn3 sc3, .slice ta3 tn3 tc3, .slice ca3 cn3 cc3], .int .i64 G]) (by simp [results, Tryz.results66, go_sem, r0, r1, r2, r3]) rfl
      ⟨⟨sec3, sa3, sn3, sc3, ta3, tn3, tc3, ca3, cn3, cc3⟩, rfl, by
        exact hRf.mono (fun b hb _ => by rcases hb with (q | q) | q <;> first | exact .inl q.1 | exact .inr (by have := HB4.out.size; omega)), hbf⟩
  · have t0 : ((E : Int) != 0) = true := by simpa using h0
    have HNN := hiq (HN.out h0)
    obtain ⟨y0, y1, y2, y3, yf⟩ := box_cells4 gz
    have yf0 := yf 0
    have yf1 := yf 1
    have yf2 := yf 2
    have yf3 := yf 3
    clear HN HQ yf gz
    go_wp2
    generalize W2.alloc (.cells #[.string sec2, .slice sa2 sn2 sc2, .slice ta2 tn2 tc2, .slice ca2 cn2 cc2] 26) = W3 at *
    obtain ⟨r0, r1, r2, r3, -⟩ := box_cells4 (put4_at HGZ.out (.string sec2) (.slice sa2 sn2 sc2) (.slice ta2 tn2 tc2) (.slice ca2 cn2 cc2))
    have hbf : Below w.heap.size w (put4 W3 (w.heap.size + 1 + 1) (.string sec2) (.slice sa2 sn2 sc2) (.slice ta2 tn2 tc2) (.slice ca2 cn2 cc2)) := put4_below HB4.out (by omega) _ _ _ _
    have hRf := HR.out.keep (w' := put4 W3 (w.heap.size + 1 + 1) (.string sec2) (.slice sa2 sn2 sc2) (.slice ta2 tn2 tc2) (.slice ca2 cn2 cc2)) (put4_keep (by rintro (⟨-, q⟩ | q) <;> omega) _ _ _ _)
    change bodyPost _ _ _ _ _ (put4 W3 (w.heap.size + 1 + 1) (.string sec2) (.slice sa2 sn2 sc2) (.slice ta2 tn2 tc2) (.slice ca2 cn2 cc2))
    generalize put4 W3 (w.heap.size + 1 + 1) (.string sec2) (.slice sa2 sn2 sc2) (.slice ta2 tn2 tc2) (.slice ca2 cn2 cc2) = WF at *
    exact bodyPost_ret (v := .tuple #[.agg #[.string sec2, .slice sa2 sn2 sc2, .slice ta2 tn2 tc2, .slice ca2 cn2 cc2], .int .i64 E]) (by simp [results, Tryz.results66, go_sem, r0, r1, r2, r3]) rfl
      ⟨⟨sec2, sa2, sn2, sc2, ta2, tn2, tc2, ca2, cn2, cc2⟩, rfl, by
        rw [<- HNN.out]
        exact hRf.mono (fun b hb _ => by rcases hb with q | q <;> first | exact .inl q.1 | exact .inr (by omega)), hbf⟩
theorem box_cells10 {W : World} {b : Nat} {c0 c1 c2 c3 c4 c5 c6 c7 c8 c9 : Value} {t : TypeId} (h : W.heap[b]? = some (.cells #[c0, c1, c2, c3, c4, c5, c6, c7, c8, c9] t (0, 0))) :
    W.cell? ⟨b, 0, none⟩ = some c0 /\ W.cell? ⟨b, 1, none⟩ = some c1 /\ W.cell? ⟨b, 2, none⟩ = some c2 /\ W.cell? ⟨b, 3, none⟩ = some c3 /\ W.cell? ⟨b, 4, none⟩ = some c4 /\ W.cell? ⟨b, 5, none⟩ = some c5 /\ W.cell? ⟨b, 6, none⟩ = some c6 /\ W.cell? ⟨b, 7, none⟩ = some c7 /\ W.cell? ⟨b, 8, none⟩ = some c8 /\ W.cell? ⟨b, 9, none⟩ = some c9 := by
  refine ⟨?_, ?_, ?_, ?_, ?_, ?_, ?_, ?_, ?_, ?_⟩ <;> (rw [Lib.cell_of_heap h]; rfl)
theorem commute_any (S : Nat -> Prop) (v : CV) (x : Col) (a b : Op) (w : World) (h : RdC S w v x) (hm : Sml x) (hE : Env w) (ha : a.ok) (hb : b.ok) (hta : a.text.size <= 1000000) (htb : b.text.size <= 1000000) :
    Calls Tryz.prog 31 #[v.val, a.val, b.val] w fun e w' => e = .returned (.tuple #[.bool (commute x a b).1, .int .i64 (commute x a b).2]) /\ Below w.heap.size w w' := by
  have HKA : Hid (∀ W, Below w.heap.size w W -> Calls Tryz.prog 18 #[v.val, a.val] W fun e w' => e = .returned (.int .i64 (opErr x a)) /\ Below W.heap.size W w') := fun W hbW => echeck_any S v x a W (h.below hbW) hm (hE.below hbW) ha hta
  have HKB : Hid (∀ W, Below w.heap.size w W -> Calls Tryz.prog 18 #[v.val, b.val] W fun e w' => e = .returned (.int .i64 (opErr x b)) /\ Below W.heap.size W w') := fun W hbW => echeck_any S v x b W (h.below hbW) hm (hE.below hbW) hb htb
  have HAB : Hid (∀ W, Below w.heap.size w W -> W.heap[w.heap.size]? = some (.cells v.arr 26 (0, 0)) -> Calls Tryz.prog 66 #[a.val, b.val, .pointer (some ⟨w.heap.size, 0, none⟩)] W fun e w' => ∃ v' : CV, e = .returned (.tuple #[v'.val, .int .i64 (bothErr x a b)]) /\ RdC (fun j => S j \/ W.heap.size <= j) w' v' (bothCol x a b) /\ Below W.heap.size W w') := fun W hbW hx => both_any S v x a b _ W hx (h.below hbW) hm (hE.below hbW) ha hb hta htb
  have HBA : Hid (∀ W, Below w.heap.size w W -> W.heap[w.heap.size]? = some (.cells v.arr 26 (0, 0)) -> Calls Tryz.prog 66 #[b.val, a.val, .pointer (some ⟨w.heap.size, 0, none⟩)] W fun e w' => ∃ v' : CV, e = .returned (.tuple #[v'.val, .int .i64 (bothErr x b a)]) /\ RdC (fun j => S j \/ W.heap.size <= j) w' v' (bothCol x b a) /\ Below W.heap.size W w') := fun W hbW hx => both_any S v x b a _ W hx (h.below hbW) hm (hE.below hbW) hb ha htb hta
  have HC1 : Hid (opErr x a ≠ 0 -> commute x a b = (false, opErr x a)) := fun h0 => by unfold commute; rw [if_pos h0]
  have HC2 : Hid (opErr x a = 0 -> opErr x b ≠ 0 -> commute x a b = (false, opErr x b)) := fun h0 h1 => by unfold commute; rw [if_neg (by simp [h0]), if_pos h1]
  have HC3 : Hid (opErr x a = 0 -> opErr x b = 0 -> commute x a b = (decide (bothErr x a b = 0) && decide (bothErr x b a = 0) && decide (bothCol x a b = bothCol x b a), 0)) := commute_both
  generalize commute x a b = R at *
  generalize bothErr x a b = GA at *
  generalize bothErr x b a = GB at *
  generalize bothCol x a b = YA at *
  generalize bothCol x b a = YB at *
  generalize opErr x a = EA at *
  generalize opErr x b = EB at *
  clear h hm hE ha hb hta htb
  obtain ⟨sec, sa, sn, sc, ta, tn, tc, ca, cn, cc⟩ := v
  obtain ⟨a1, a2, a3, a4, a5⟩ := a
  obtain ⟨b1, b2, b3, b4, b5⟩ := b
  change Calls _ _ #[.agg #[.string sec, .slice sa sn sc, .slice ta tn tc, .slice ca cn cc], .agg #[.int .i64 a1, .string a2, .int .i64 a3, .int .i64 a4, .string a5], .agg #[.int .i64 b1, .string b2, .int .i64 b3, .int .i64 b4, .string b5]] _ _
  change Hid (∀ W, _ -> Calls _ _ #[.agg #[.string sec, .slice sa sn sc, .slice ta tn tc, .slice ca cn cc], .agg #[.int .i64 a1, .string a2, .int .i64 a3, .int .i64 a4, .string a5]] _ _) at HKA
  change Hid (∀ W, _ -> Calls _ _ #[.agg #[.string sec, .slice sa sn sc, .slice ta tn tc, .slice ca cn cc], .agg #[.int .i64 b1, .string b2, .int .i64 b3, .int .i64 b4, .string b5]] _ _) at HKB
  change Hid (∀ (W : World), _ -> W.heap[w.heap.size]? = some (.cells #[.string sec, .slice sa sn sc, .slice ta tn tc, .slice ca cn cc] 26 (0, 0)) -> Calls _ _ #[.agg #[.int .i64 a1, .string a2, .int .i64 a3, .int .i64 a4, .string a5], .agg #[.int .i64 b1, .string b2, .int .i64 b3, .int .i64 b4, .string b5], _] _ _) at HAB
  change Hid (∀ (W : World), _ -> W.heap[w.heap.size]? = some (.cells #[.string sec, .slice sa sn sc, .slice ta tn tc, .slice ca cn cc] 26 (0, 0)) -> Calls _ _ #[.agg #[.int .i64 b1, .string b2, .int .i64 b3, .int .i64 b4, .string b5], .agg #[.int .i64 a1, .string a2, .int .i64 a3, .int .i64 a4, .string a5], _] _ _) at HBA
  obtain ⟨hb0, hsz, hC, hA, hB⟩ := box3 w #[.string sec, .slice sa sn sc, .slice ta tn tc, .slice ca cn cc] #[.int .i64 a1, .string a2, .int .i64 a3, .int .i64 a4, .string a5] #[.int .i64 b1, .string b2, .int .i64 b3, .int .i64 b4, .string b5] 26 28 28
  have hx1 : (((w.alloc (.cells #[.string sec, .slice sa sn sc, .slice ta tn tc, .slice ca cn cc] 26)).alloc (.cells #[.int .i64 a1, .string a2, .int .i64 a3, .int .i64 a4, .string a5] 28)).alloc (.cells #[.int .i64 b1, .string b2, .int .i64 b3, .int .i64 b4, .string b5] 28)).heap[w.heap.size]? = some (.cells #[.string sec, .slice sa sn sc, .slice ta tn tc, .slice ca cn cc] 26 (0, 0)) := by
    have q1 := World.alloc_heap_new w (.cells #[.string sec, .slice sa sn sc, .slice ta tn tc, .slice ca cn cc] 26)
    have q2 : Below (w.heap.size + 1) (w.alloc (.cells #[.string sec, .slice sa sn sc, .slice ta tn tc, .slice ca cn cc] 26)) (((w.alloc (.cells #[.string sec, .slice sa sn sc, .slice ta tn tc, .slice ca cn cc] 26)).alloc (.cells #[.int .i64 a1, .string a2, .int .i64 a3, .int .i64 a4, .string a5] 28)).alloc (.cells #[.int .i64 b1, .string b2, .int .i64 b3, .int .i64 b4, .string b5] 28)) := ((Below.refl _ _).alloc (by simp) _).alloc (by simp) _
    exact (q2.block _ (by omega)).trans q1
  have c0 := hC 0 _ rfl
  have c1 := hC 1 _ rfl
  have c2 := hC 2 _ rfl
  have c3 := hC 3 _ rfl
  have o0 := hA 0 _ rfl
  have o1 := hA 1 _ rfl
  have o2 := hA 2 _ rfl
  have o3 := hA 3 _ rfl
  have o4 := hA 4 _ rfl
  have q0 := hB 0 _ rfl
  have q1 := hB 1 _ rfl
  have q2 := hB 2 _ rfl
  have q3 := hB 3 _ rfl
  have q4 := hB 4 _ rfl
  have hl : Below (((w.alloc (.cells #[.string sec, .slice sa sn sc, .slice ta tn tc, .slice ca cn cc] 26)).alloc (.cells #[.int .i64 a1, .string a2, .int .i64 a3, .int .i64 a4, .string a5] 28)).alloc (.cells #[.int .i64 b1, .string b2, .int .i64 b3, .int .i64 b4, .string b5] 28)).heap.size (((w.alloc (.cells #[.string sec, .slice sa sn sc, .slice ta tn tc, .slice ca cn cc] 26)).alloc (.cells #[.int .i64 a1, .string a2, .int .i64 a3, .int .i64 a4, .string a5] 28)).alloc (.cells #[.int .i64 b1, .string b2, .int .i64 b3, .int .i64 b4, .string b5] 28)) ((((w.alloc (.cells #[.string sec, .slice sa sn sc, .slice ta tn tc, .slice ca cn cc] 26)).alloc (.cells #[.int .i64 a1, .string a2, .int .i64 a3, .int .i64 a4, .string a5] 28)).alloc (.cells #[.int .i64 b1, .string b2, .int .i64 b3, .int .i64 b4, .string b5] 28)).alloc (.cells #[.int .i64 a1, .string a2, .int .i64 a3, .int .i64 a4, .string a5, .int .i64 b1, .string b2, .int .i64 b3, .int .i64 b4, .string b5] 28)) := (Below.refl _ _).alloc (Nat.le_refl _) _
  obtain ⟨l0, l1, l2, l3, l4, l5, l6, l7, l8, l9⟩ := box_cells10 (World.alloc_heap_new (((w.alloc (.cells #[.string sec, .slice sa sn sc, .slice ta tn tc, .slice ca cn cc] 26)).alloc (.cells #[.int .i64 a1, .string a2, .int .i64 a3, .int .i64 a4, .string a5] 28)).alloc (.cells #[.int .i64 b1, .string b2, .int .i64 b3, .int .i64 b4, .string b5] 28)) (.cells #[.int .i64 a1, .string a2, .int .i64 a3, .int .i64 a4, .string a5, .int .i64 b1, .string b2, .int .i64 b3, .int .i64 b4, .string b5] 28))
  have e3 : (((w.alloc (.cells #[.string sec, .slice sa sn sc, .slice ta tn tc, .slice ca cn cc] 26)).alloc (.cells #[.int .i64 a1, .string a2, .int .i64 a3, .int .i64 a4, .string a5] 28)).alloc (.cells #[.int .i64 b1, .string b2, .int .i64 b3, .int .i64 b4, .string b5] 28)).heap.size = w.heap.size + 1 + 1 + 1 := by simp
  have hx2 := (hl.block w.heap.size (by omega)).trans hx1
  have hb2 := hb0.trans (hl.mono hb0.size)
  rw [e3] at l0 l1 l2 l3 l4 l5 l6 l7 l8 l9
  replace c0 := clq hl c0; replace c1 := clq hl c1; replace c2 := clq hl c2; replace c3 := clq hl c3; replace o0 := clq hl o0; replace o1 := clq hl o1; replace o2 := clq hl o2; replace o3 := clq hl o3; replace o4 := clq hl o4; replace q0 := clq hl q0; replace q1 := clq hl q1; replace q2 := clq hl q2; replace q3 := clq hl q3; replace q4 := clq hl q4
  have HX2 := hiq hx2
  have HB2 := hiq hb2
  have hlt : w.heap.size < ((((w.alloc (.cells #[.string sec, .slice sa sn sc, .slice ta tn tc, .slice ca cn cc] 26)).alloc (.cells #[.int .i64 a1, .string a2, .int .i64 a3, .int .i64 a4, .string a5] 28)).alloc (.cells #[.int .i64 b1, .string b2, .int .i64 b3, .int .i64 b4, .string b5] 28)).alloc (.cells #[.int .i64 a1, .string a2, .int .i64 a3, .int .i64 a4, .string a5, .int .i64 b1, .string b2, .int .i64 b3, .int .i64 b4, .string b5] 28)).heap.size := by simp; omega
  clear hC hA hB hx1 hl hx2 hb0 hb2 hsz e3
  go_enter Tryz.func31, Tryz.ntmps31
  go_wp2_with fail
  generalize (((w.alloc (.cells #[.string sec, .slice sa sn sc, .slice ta tn tc, .slice ca cn cc] 26)).alloc (.cells #[.int .i64 a1, .string a2, .int .i64 a3, .int .i64 a4, .string a5] 28)).alloc (.cells #[.int .i64 b1, .string b2, .int .i64 b3, .int .i64 b4, .string b5] 28)).alloc (.cells #[.int .i64 a1, .string a2, .int .i64 a3, .int .i64 a4, .string a5, .int .i64 b1, .string b2, .int .i64 b3, .int .i64 b4, .string b5] 28) = W2 at *
  go_loopw [21] (fun i wr => ∃ (k : Nat), i = .int .i64 k /\ (k = 0 \/ (k = 1 /\ EA = 0) \/ (k = 2 /\ EA = 0 /\ EB = 0)) /\ Below W2.heap.size W2 wr) (fun i _ => 2 - (intOf i).toNat)
  case atStart => exact ⟨0, rfl, .inl rfl, Below.refl _ _⟩
  case round =>
    obtain ⟨k, rfl, hk, hb⟩ := hrel
    have hbr := HB2.out.trans (hb.mono HB2.out.size)
    have HBR := hiq hbr
    replace c0 := clq hb c0; replace c1 := clq hb c1; replace c2 := clq hb c2; replace c3 := clq hb c3; replace o0 := clq hb o0; replace o1 := clq hb o1; replace o2 := clq hb o2; replace o3 := clq hb o3; replace o4 := clq hb o4; replace q0 := clq hb q0; replace q1 := clq hb q1; replace q2 := clq hb q2; replace q3 := clq hb q3; replace q4 := clq hb q4; replace l0 := clq hb l0; replace l1 := clq hb l1
    replace l2 := clq hb l2; replace l3 := clq hb l3; replace l4 := clq hb l4; replace l5 := clq hb l5; replace l6 := clq hb l6; replace l7 := clq hb l7; replace l8 := clq hb l8; replace l9 := clq hb l9
    rcases hk with rfl | ⟨rfl, ea⟩ | ⟨rfl, ea, eb⟩
    · have hal : Below wr.heap.size wr (wr.alloc (.cells #[.int .i64 a1, .string a2, .int .i64 a3, .int .i64 a4, .string a5] 28)) := (Below.refl _ _).alloc (Nat.le_refl _) _
      have HK := hiq (HKA.out _ (hbr.trans (hal.mono hbr.size)))
      have hb5 := hb.trans (hal.mono hb.size)
      have hb6 := hbr.trans (hal.mono hbr.size)
      obtain ⟨p0, p1, p2, p3, p4⟩ := box_cells5 (World.alloc_heap_new wr (.cells #[.int .i64 a1, .string a2, .int .i64 a3, .int .i64 a4, .string a5] 28))
      replace c0 := clq hal c0; replace c1 := clq hal c1; replace c2 := clq hal c2; replace c3 := clq hal c3
      clear hal hb hbr HKA HKB HAB HBA HC2 HC3
      go_wp2_with fail
      generalize wr.alloc (.cells #[.int .i64 a1, .string a2, .int .i64 a3, .int .i64 a4, .string a5] 28) = W5 at *
      refine HK.out.mono ?_
      rintro e W6 ⟨rfl, hb7⟩
      have hb8 := hb5.trans (hb7.mono hb5.size)
      have hb9 := hb6.trans (hb7.mono hb6.size)
      by_cases h0 : EA = 0
      · have t0 : ((EA : Int) != 0) = false := by simp [h0]
        go_wp2_with fail
        go_roundw
        case rel => exact ⟨1, rfl, .inr (.inl ⟨rfl, h0⟩), hb8⟩
        case measure => simp [intOf]
      · have t0 : ((EA : Int) != 0) = true := by simpa using h0
        have hR := hiq (HC1.out h0)
        clear HC1 h0
        go_wp2_with fail
        go_ret2
        exact ⟨by rw [hR.out]; rfl, hb9⟩
    · have hal : Below wr.heap.size wr (wr.alloc (.cells #[.int .i64 b1, .string b2, .int .i64 b3, .int .i64 b4, .string b5] 28)) := (Below.refl _ _).alloc (Nat.le_refl _) _
      have HK := hiq (HKB.out _ (hbr.trans (hal.mono hbr.size)))
      have hb5 := hb.trans (hal.mono hb.size)
      have hb6 := hbr.trans (hal.mono hbr.size)
      obtain ⟨p0, p1, p2, p3, p4⟩ := box_cells5 (World.alloc_heap_new wr (.cells #[.int .i64 b1, .string b2, .int .i64 b3, .int .i64 b4, .string b5] 28))
      replace c0 := clq hal c0; replace c1 := clq hal c1; replace c2 := clq hal c2; replace c3 := clq hal c3
      clear hal hb hbr HKA HKB HAB HBA HC1 HC3
      go_wp2_with fail
      generalize wr.alloc (.cells #[.int .i64 b1, .string b2, .int .i64 b3, .int .i64 b4, .string b5] 28) = W5 at *
      refine HK.out.mono ?_
      rintro e W6 ⟨rfl, hb7⟩
      have hb8 := hb5.trans (hb7.mono hb5.size)
      have hb9 := hb6.trans (hb7.mono hb6.size)
      by_cases h0 : EB = 0
      · have t0 : ((EB : Int) != 0) = false := by simp [h0]
        go_wp2_with fail
        go_roundw
        case rel => exact ⟨2, rfl, .inr (.inr ⟨rfl, ea, h0⟩), hb8⟩
        case measure => simp [intOf]
      · have t0 : ((EB : Int) != 0) = true := by simpa using h0
        have hR := hiq (HC2.out ea h0)
        clear HC2 h0 ea
        go_wp2_with fail
        go_ret2
        exact ⟨by rw [hR.out]; rfl, hb9⟩
    · have hR := hiq (HC3.out ea eb)
      have hxr := (hb.block _ hlt).trans HX2.out
      have HXR := hiq hxr
      have H1 := hiq (HAB.out _ hbr hxr)
      have hltr : w.heap.size < wr.heap.size := Nat.lt_of_lt_of_le hlt hb.size
      clear HKA HKB HAB HC1 HC2 HC3 ea eb hxr l0 l1 l2 l3 l4 l5 l6 l7 l8 l9 hb hbr c0 c1 c2 c3
      go_wp2_with fail
      refine H1.out.mono ?_
      rintro e W5 ⟨v', he, hR5, hb5⟩
      obtain ⟨sec2, sa2, sn2, sc2, ta2, tn2, tc2, ca2, cn2, cc2⟩ := v'
      change e = .returned (.tuple #[.agg #[.string sec2, .slice sa2 sn2 sc2, .slice ta2 tn2 tc2, .slice ca2 cn2 cc2], .int .i64 GA]) at he
      subst he
      have hal : Below W5.heap.size W5 (W5.alloc (.cells #[.string sec2, .slice sa2 sn2 sc2, .slice ta2 tn2 tc2, .slice ca2 cn2 cc2] 26)) := (Below.refl _ _).alloc (Nat.le_refl _) _
      have hb6 := hb5.trans (hal.mono hb5.size)
      obtain ⟨z0, z1, z2, z3, -⟩ := box_cells4 (World.alloc_heap_new W5 (.cells #[.string sec2, .slice sa2 sn2 sc2, .slice ta2 tn2 tc2, .slice ca2 cn2 cc2] 26))
      replace o0 := clq hb6 o0; replace o1 := clq hb6 o1; replace o2 := clq hb6 o2; replace o3 := clq hb6 o3; replace o4 := clq hb6 o4; replace q0 := clq hb6 q0; replace q1 := clq hb6 q1; replace q2 := clq hb6 q2; replace q3 := clq hb6 q3; replace q4 := clq hb6 q4
      have hb7 := HBR.out.trans (hb6.mono HBR.out.size)
      have HB7 := hiq hb7
      have HR6 := hiq (hR5.below hal)
      have H2 := hiq (HBA.out _ hb7 ((hb6.block _ hltr).trans HXR.out))
      clear hR5 hal hb5 hb6 H1 HBA hb7
      go_wp2_with fail
      generalize W5.alloc (.cells #[.string sec2, .slice sa2 sn2 sc2, .slice ta2 tn2 tc2, .slice ca2 cn2 cc2] 26) = W6 at *
      refine H2.out.mono ?_
      rintro e W7 ⟨v', he, hR7, hb8⟩
      obtain ⟨sec3, sa3, sn3, sc3, ta3, tn3, tc3, ca3, cn3, cc3⟩ := v'
      change e = .returned (.tuple #[.agg #[.string sec3, .slice sa3 sn3 sc3, .slice ta3 tn3 tc3, .slice ca3 cn3 cc3], .int .i64 GB]) at he
      subst he
      have hal : Below W7.heap.size W7 (W7.alloc (.cells #[.string sec3, .slice sa3 sn3 sc3, .slice ta3 tn3 tc3, .slice ca3 cn3 cc3] 26)) := (Below.refl _ _).alloc (Nat.le_refl _) _
      have hb9 := hb8.trans (hal.mono hb8.size)
      obtain ⟨y0, y1, y2, y3, -⟩ := box_cells4 (World.alloc_heap_new W7 (.cells #[.string sec3, .slice sa3 sn3 sc3, .slice ta3 tn3 tc3, .slice ca3 cn3 cc3] 26))
      replace z0 := clq hb9 z0; replace z1 := clq hb9 z1; replace z2 := clq hb9 z2; replace z3 := clq hb9 z3
      have hb10 := HB7.out.trans (hb9.mono HB7.out.size)
      have HSM := hiq (sameC_any _ _ ⟨sec2, sa2, sn2, sc2, ta2, tn2, tc2, ca2, cn2, cc2⟩ ⟨sec3, sa3, sn3, sc3, ta3, tn3, tc3, ca3, cn3, cc3⟩ YA YB _ (HR6.out.below hb9) (hR7.below hal))
      change Hid (Calls _ _ #[.agg #[.string sec2, .slice sa2 sn2 sc2, .slice ta2 tn2 tc2, .slice ca2 cn2 cc2], .agg #[.string sec3, .slice sa3 sn3 sc3, .slice ta3 tn3 tc3, .slice ca3 cn3 cc3]] _ _) at HSM
      clear hR7 hal hb8 hb9 H2 o0 o1 o2 o3 o4 q0 q1 q2 q3 q4
      have HB10 := hiq hb10
      clear hb10
      generalize decide (YA = YB) = DY at *
      by_cases g1 : GA = 0
      · have t1 : ((GA : Int) == 0) = true := by simp [g1]
        by_cases g2 : GB = 0
        · have t2 : ((GB : Int) == 0) = true := by simp [g2]
          have hR2 : Hid (R = (DY, 0)) := by show _ = _; rw [hR.out, decide_eq_true g1, decide_eq_true g2]; rfl
          clear hR g1 g2
          go_wp2_with fail
          generalize W7.alloc (.cells #[.string sec3, .slice sa3 sn3 sc3, .slice ta3 tn3 tc3, .slice ca3 cn3 cc3] 26) = W8 at *
          refine HSM.out.mono ?_
          rintro e W9 ⟨rfl, hb11⟩
          have hb12 := HB10.out.trans (hb11.mono HB10.out.size)
          go_wp2
          go_ret2
          exact ⟨by rw [hR2.out]; rfl, hb12⟩
        · have t2 : ((GB : Int) == 0) = false := by simpa using g2
          have hR2 : Hid (R = (false, 0)) := by show _ = _; rw [hR.out, decide_eq_true g1, decide_eq_false g2]; rfl
          clear hR g1 g2
          go_wp2
          generalize W7.alloc (.cells #[.string sec3, .slice sa3 sn3 sc3, .slice ta3 tn3 tc3, .slice ca3 cn3 cc3] 26) = W8 at *
          go_ret2
          exact ⟨by rw [hR2.out]; rfl, HB10.out⟩
      · have t1 : ((GA : Int) == 0) = false := by simpa using g1
        have hR2 : Hid (R = (false, 0)) := by show _ = _; rw [hR.out, decide_eq_false g1]; rfl
        clear hR g1
        go_wp2
        generalize W7.alloc (.cells #[.string sec3, .slice sa3 sn3 sc3, .slice ta3 tn3 tc3, .slice ca3 cn3 cc3] 26) = W8 at *
        go_ret2
        exact ⟨by rw [hR2.out]; rfl, HB10.out⟩
end Go.Proofs.YtbdgmgddliploaaGreatDoor
