/- hands.advanced: what a correction is replaced by. -/
import Derived.Test.YtbjanlmnmeegnaaDoorTReb
set_option linter.unusedVariables false
set_option linter.unusedSimpArgs false
namespace Go.Proofs.YtbjanlmnmeegnaaDoor
open Go.RowKit

set_option maxRecDepth 100000 in
set_option maxHeartbeats 2000000 in
theorem repl_adv (S : Nat → Prop) (v : Vl) (xb eb hb : Nat) (h : Int) (w : World) (hv : Rd S w v) (hok : okN v.er) (hcn : cntL (v.items.map Vl.er) ≤ 4096) (hh : w.cell? ⟨hb, 0, none⟩ = some (.int .i64 h)) (hS : ∀ b, S b → b < w.heap.size) (k89 : v.kind = 8 ∨ v.kind = 9)
    (hP : ∀ W, Below w.heap.size w W → Calls Tryd.prog 40 #[.pointer (some ⟨eb, 0, none⟩), .pointer (some ⟨xb, 0, none⟩)] W (LstP S (advL h (v.items.map Vl.er)) W)) :
    Calls Tryd.prog 28 #[v.val, .func (.func 40) #[] #[.pointer (some ⟨eb, 0, none⟩), .pointer (some ⟨xb, 0, none⟩)], .pointer (some ⟨hb, 0, none⟩)] w (LstP S (advN h v.er) w) := by
  have HP0 := Lib.hid hP
  have HP : Hid (∀ W, Below w.heap.size w W → Calls Tryd.prog 40 #[.pointer (some ⟨eb, 0, none⟩), .pointer (some ⟨xb, 0, none⟩)] W (LstP S (advL h (v.items.map Vl.er)) w)) := fun W hb => (hP W hb).mono (fun e w' h' => h'.up hb)
  have HB : Hid (∀ W, Below w.heap.size w W → Calls Tryd.prog 29 #[v.val] W (LstP S (brksL (v.items.map Vl.er)) w)) := fun W hb => (breaks_lst S v W (hv.below hb) hcn (by rw [er_kind] at hok; exact hok.2.2)).mono (fun e w' h' => h'.up hb)
  have HV := Lib.hid hv
  have HS := Lib.hid hS
  rw [er_kind v]
  clear hP hv hok hcn hS
  obtain ⟨k, nn, t, ax, cx, lx⟩ := v
  dsimp only [Vl.val, Vl.cells, Vl.kind, Vl.num, Vl.text, Vl.sl, Vl.addr, Vl.items, Vl.cap] at HP0 HP HB k89 ⊢
  have hb1 : Below w.heap.size w (w.alloc (.cells #[.int .i64 k, .string t, .int .i64 nn, .slice ax lx.length cx] 37)) := (Below.refl _ _).alloc (Nat.le_refl _) _
  have HB1 := Lib.hid hb1
  have hbx := World.alloc_heap_new w (.cells #[.int .i64 k, .string t, .int .i64 nn, .slice ax lx.length cx] 37)
  obtain ⟨x0, x1, x2, x3, fx⟩ := box_cells4 hbx
  replace hh := cell_later hb1 hh
  go_enter Tryd.func28, Tryd.ntmps28
  by_cases hn : h < nn
  · have hk := k89
    have t1 : decide (nn > h) = true := by simpa using hn
    have t2 : decide (h < nn) = true := by simpa using hn
    have HR : Hid (advN h (.mk k t nn (lx.map Vl.er)) = if (advL h (lx.map Vl.er)).isEmpty = true then [] else [.mk k t nn (advL h (lx.map Vl.er))]) := by
      show _ = _
      rw [advN, if_pos k89, if_pos hn]
    have HI := Lib.hid (rd_iff.1 HV.out)
    have HBX := Lib.hid hbx
    clear k89 hk hn HP HB
    go_wp2_with fail
    refine (HP0.out _ HB1.out).mono ?_
    rintro e w2 ⟨a, n, c, us, rfl, h1, h2, h3⟩
    have hu1 : w.heap.size < (w.alloc (.cells #[.int .i64 k, .string t, .int .i64 nn, .slice ax lx.length cx] 37)).heap.size := by simp
    obtain rfl : n = us.length := h1.1
    have hv3 := h1.setc (g := w.heap.size) (j := 3) (fun h => by rcases h with h | h
                                                                 · have := HS.out _ h; omega
                                                                 · omega) (.slice a us.length c)
    have hB2 := HB1.out.trans (h3.mono (Nat.le_of_lt hu1))
    have HB3 : Hid (Below w.heap.size w (w2.setCell ⟨w.heap.size, 3, none⟩ (.slice a us.length c))) := below_setc hB2 (Nat.le_refl _) 3 _
    have hRx : Rd (fun b => S b ∨ (w.alloc (.cells #[.int .i64 k, .string t, .int .i64 nn, .slice ax lx.length cx] 37)).heap.size ≤ b) (w2.setCell ⟨w.heap.size, 3, none⟩ (.slice a us.length c)) (.mk k nn t a c us) := rd_iff.2 ⟨HI.out.1, HI.out.2.1, HI.out.2.2.1, hv3⟩
    have hszc : (w2.setCell ⟨w.heap.size, 3, none⟩ (.slice a us.length c)).heap.size = w2.heap.size := by simp [World.setCell]
    have HLV := lit_one hRx
    rw [hszc] at HLV
    replace HLV := Lib.hid HLV
    have HW2 : Hid (w.heap.size ≤ w2.heap.size) := by have := HB3.out.size; rw [hszc] at this; exact this
    have HE2 : Hid ((Vl.mk k nn t a c us).er = .mk k t nn (advL h (lx.map Vl.er))) := by show _ = _; rw [er_kind]; show Nd.mk k t nn (us.map Vl.er) = _; rw [h2]
    have HN : Hid (us.map Vl.er = advL h (lx.map Vl.er)) := h2
    have hbx2 : w2.heap[w.heap.size]? = some (.cells #[.int .i64 k, .string t, .int .i64 nn, .slice ax lx.length cx] 37 (0, 0)) := (h3.block _ hu1).trans HBX.out
    clear x0 x1 x2 x3 fx h1 hv3 h3 hRx h2 hb1 hh hbx hszc HP0
    obtain ⟨x0, x1, x2, x3, fx⟩ := box_cells4 hbx2
    clear hbx2 hB2 hu1
    by_cases hn0 : us.length = 0
    · have HE : Hid ((if (advL h (lx.map Vl.er)).isEmpty = true then [] else [Nd.mk k t nn (advL h (lx.map Vl.er))]) = []) := by
        show _ = _
        rw [← HN.out, List.eq_nil_of_length_eq_zero hn0]; rfl
      have s1 : ((us.length : Int) == 0) = true := by simp [hn0]
      generalize us.length = n0 at *
      subst hn0
      clear s1
      go_wp2
      go_ret
      exact ⟨none, 0, 0, [], rfl, Vals.nil _ _, (HR.out.trans HE.out).symm, HB3.out⟩
    · have HE : Hid ((if (advL h (lx.map Vl.er)).isEmpty = true then [] else [Nd.mk k t nn (advL h (lx.map Vl.er))]) = [Nd.mk k t nn (advL h (lx.map Vl.er))]) := by
        show _ = _
        rw [if_neg]
        rw [← HN.out]
        intro h
        apply hn0
        cases us with
        | nil => rfl
        | cons => cases h
      have s1 : ((us.length : Int) == 0) = false := by simpa using hn0
      clear hn0
      go_wp2
      go_ret
      refine ⟨_, 1, 1, [.mk k nn t a c us], rfl, HLV.out.mono ?_, by rw [HR.out, HE.out, List.map_cons, HE2.out]; rfl, HB3.out.alloc HB3.out.size _⟩
      intro b hb _
      rcases hb with ⟨hb | hb, -⟩ | hb
      · exact .inl hb
      · exact .inr (Nat.le_trans HB1.out.size hb)
      · exact .inr (by rw [hb]; exact HW2.out)
  · by_cases hk : k = 8
    · have HQ : Hid (advL h (lx.map Vl.er) = advN h (.mk k t nn (lx.map Vl.er))) := by
        show _ = _
        subst hk
        rw [advN]
        simp [hn]
      have t1 : ((k : Int) == 8) = true := by simp [hk]
      have t2 : decide (nn > h) = false := by rw [decide_eq_false_iff_not]; omega
      have t3 : decide (h < nn) = false := by rw [decide_eq_false_iff_not]; omega
      clear k89 hk hn
      go_wp2_with fail
      refine (HP.out _ HB1.out).mono ?_
      rintro e w' ⟨a, n, c, us, rfl, h1, h2, h3⟩
      have H1 := Lib.hid h1
      have H2 := Lib.hid h2
      have H3 := Lib.hid h3
      clear h1 h2 h3 HP HB HP0 x0 x1 x2 x3 hb1 hbx hh
      go_wp2
      go_ret
      exact ⟨a, n, c, us, rfl, H1.out, HQ.out ▸ H2.out, H3.out⟩
    · have hk : k = 9 := by omega
      have HQ : Hid (brksL (lx.map Vl.er) = advN h (.mk k t nn (lx.map Vl.er))) := by
        show _ = _
        subst hk
        rw [advN]
        simp [hn]
      have t1 : ((k : Int) == 8) = false := by simp [hk]
      have t2 : decide (nn > h) = false := by rw [decide_eq_false_iff_not]; omega
      have t3 : decide (h < nn) = false := by rw [decide_eq_false_iff_not]; omega
      clear k89 hk hn
      go_wp2_with fail
      refine (HB.out _ HB1.out).mono ?_
      rintro e w' ⟨a, n, c, us, rfl, h1, h2, h3⟩
      have H1 := Lib.hid h1
      have H2 := Lib.hid h2
      have H3 := Lib.hid h3
      clear h1 h2 h3 HP HB HP0 x0 x1 x2 x3 hb1 hbx hh
      go_wp2
      go_ret
      exact ⟨a, n, c, us, rfl, H1.out, HQ.out ▸ H2.out, H3.out⟩
end Go.Proofs.YtbjanlmnmeegnaaDoor
