/- hands.resolved: what a correction is replaced by. -/
import Derived.Test.YtbjanlmnmeegnaaDoorTReb
set_option linter.unusedVariables false
set_option linter.unusedSimpArgs false
namespace Go.Proofs.YtbjanlmnmeegnaaDoor
open Go.RowKit

set_option maxRecDepth 100000 in
set_option maxHeartbeats 2000000 in
theorem repl_res (S : Nat → Prop) (v : Vl) (xb eb hb : Nat) (h : Int) (w : World) (hv : Rd S w v) (hok : okN v.er) (hcn : cntL (v.items.map Vl.er) ≤ 4096) (hh : w.cell? ⟨hb, 0, none⟩ = some (.int .i64 h)) (hS : ∀ b, S b → b < w.heap.size) (k89 : v.kind = 8 ∨ v.kind = 9)
    (hP : ∀ W, Below w.heap.size w W → Calls Tryd.prog 40 #[.pointer (some ⟨eb, 0, none⟩), .pointer (some ⟨xb, 0, none⟩)] W (LstP S (resL h (v.items.map Vl.er)) W)) :
    Calls Tryd.prog 30 #[v.val, .func (.func 40) #[] #[.pointer (some ⟨eb, 0, none⟩), .pointer (some ⟨xb, 0, none⟩)], .pointer (some ⟨hb, 0, none⟩)] w (LstP S (resN h v.er) w) := by
  have HP : Hid (∀ W, Below w.heap.size w W → Calls Tryd.prog 40 #[.pointer (some ⟨eb, 0, none⟩), .pointer (some ⟨xb, 0, none⟩)] W (LstP S (resL h (v.items.map Vl.er)) w)) := fun W hb => (hP W hb).mono (fun e w' h' => h'.up hb)
  have HB : Hid (∀ W, Below w.heap.size w W → Calls Tryd.prog 29 #[v.val] W (LstP S (brksL (v.items.map Vl.er)) w)) := fun W hb => (breaks_lst S v W (hv.below hb) hcn (by rw [er_kind] at hok; exact hok.2.2)).mono (fun e w' h' => h'.up hb)
  have HV := Lib.hid hv
  have HS := Lib.hid hS
  rw [er_kind v]
  clear hP hv hok hcn hS
  obtain ⟨k, nn, t, ax, cx, lx⟩ := v
  dsimp only [Vl.val, Vl.cells, Vl.kind, Vl.num, Vl.text, Vl.sl, Vl.addr, Vl.items, Vl.cap] at HP HB k89 ⊢
  have hb1 : Below w.heap.size w (w.alloc (.cells #[.int .i64 k, .string t, .int .i64 nn, .slice ax lx.length cx] 37)) := (Below.refl _ _).alloc (Nat.le_refl _) _
  have HB1 := Lib.hid hb1
  have hbx := World.alloc_heap_new w (.cells #[.int .i64 k, .string t, .int .i64 nn, .slice ax lx.length cx] 37)
  obtain ⟨x0, x1, x2, x3, fx⟩ := box_cells4 hbx
  replace hh := cell_later hb1 hh
  unfold LstP at HP HB ⊢
  go_enter Tryd.func30, Tryd.ntmps30
  by_cases hn : nn ≤ h
  · by_cases hk : k = 8
    · have HQ : Hid (resL h (lx.map Vl.er) = resN h (.mk k t nn (lx.map Vl.er))) := by
        show _ = _
        subst hk
        rw [resN]
        simp [hn]
      have t1 : ((k : Int) == 8) = true := by simp [hk]
      have t2 : decide (nn ≤ h) = true := by simpa using hn
      clear k89 hk hn
      go_wp2_with fail
      refine (HP.out _ HB1.out).mono ?_
      rintro e w' ⟨a, n, c, us, rfl, h1, h2, h3⟩
      have H1 := Lib.hid h1
      have H2 := Lib.hid h2
      have H3 := Lib.hid h3
      clear h1 h2 h3 HP HB x0 x1 x2 x3 hb1 hbx hh
      go_wp2
      go_ret
      exact ⟨a, n, c, us, rfl, H1.out, HQ.out ▸ H2.out, H3.out⟩
    · have hk : k = 9 := by omega
      have HQ : Hid (brksL (lx.map Vl.er) = resN h (.mk k t nn (lx.map Vl.er))) := by
        show _ = _
        subst hk
        rw [resN]
        simp [hn]
      have t1 : ((k : Int) == 8) = false := by simp [hk]
      have t2 : decide (nn ≤ h) = true := by simpa using hn
      clear k89 hk hn
      go_wp2_with fail
      refine (HB.out _ HB1.out).mono ?_
      rintro e w' ⟨a, n, c, us, rfl, h1, h2, h3⟩
      have H1 := Lib.hid h1
      have H2 := Lib.hid h2
      have H3 := Lib.hid h3
      clear h1 h2 h3 HP HB x0 x1 x2 x3 hb1 hbx hh
      go_wp2
      go_ret
      exact ⟨a, n, c, us, rfl, H1.out, HQ.out ▸ H2.out, H3.out⟩
  · by_cases hk : k = 8
    · have HQ : Hid (brksL (lx.map Vl.er) = resN h (.mk k t nn (lx.map Vl.er))) := by
        show _ = _
        subst hk
        rw [resN]
        simp [hn, Int.not_le.1 hn]
      have t1 : ((k : Int) == 8) = true := by simp [hk]
      have t2 : decide (nn ≤ h) = false := by simpa using hn
      clear k89 hk hn
      go_wp2_with fail
      refine (HB.out _ HB1.out).mono ?_
      rintro e w' ⟨a, n, c, us, rfl, h1, h2, h3⟩
      have H1 := Lib.hid h1
      have H2 := Lib.hid h2
      have H3 := Lib.hid h3
      clear h1 h2 h3 HP HB x0 x1 x2 x3 hb1 hbx hh
      go_wp2
      go_ret
      exact ⟨a, n, c, us, rfl, H1.out, HQ.out ▸ H2.out, H3.out⟩
    · have hk : k = 9 := by omega
      have HQ : Hid (resL h (lx.map Vl.er) = resN h (.mk k t nn (lx.map Vl.er))) := by
        show _ = _
        subst hk
        rw [resN]
        simp [hn, Int.not_le.1 hn]
      have t1 : ((k : Int) == 8) = false := by simp [hk]
      have t2 : decide (nn ≤ h) = false := by simpa using hn
      clear k89 hk hn
      go_wp2_with fail
      refine (HP.out _ HB1.out).mono ?_
      rintro e w' ⟨a, n, c, us, rfl, h1, h2, h3⟩
      have H1 := Lib.hid h1
      have H2 := Lib.hid h2
      have H3 := Lib.hid h3
      clear h1 h2 h3 HP HB x0 x1 x2 x3 hb1 hbx hh
      go_wp2
      go_ret
      exact ⟨a, n, c, us, rfl, H1.out, HQ.out ▸ H2.out, H3.out⟩
end Go.Proofs.YtbjanlmnmeegnaaDoor
