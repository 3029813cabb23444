/- hands.advanced: its contract. -/
import Derived.Test.YtbjanlmnmeegnaaDoorTEaa
set_option linter.unusedVariables false
set_option linter.unusedSimpArgs false
namespace Go.Proofs.YtbjanlmnmeegnaaDoor
open Go.RowKit

mutual
theorem byt_advN (h : Int) : ∀ x : Nd, okN x → bytL (advN h x) ≤ bytN x
  | .mk k t n ps, o => by
    have ih := byt_advL h ps o.2.2
    have ib := byt_brksL ps o.2.2
    unfold advN
    repeat' split
    all_goals simp only [bytL, bytN]
    all_goals omega
theorem byt_advL (h : Int) : ∀ l : List Nd, okL l → bytL (advL h l) ≤ bytL l
  | [], _ => Nat.le_refl _
  | x :: r, o => by
    have h1 := byt_advN h x o.1
    have h2 := byt_advL h r o.2
    show bytL (advN h x ++ advL h r) ≤ bytN x + bytL r
    rw [byt_append]; omega
end
set_option maxRecDepth 100000 in
set_option maxHeartbeats 2000000 in
theorem reb_adv (S : Nat → Prop) (a : Option Addr) (n c : Nat) (vs : List Vl) (w : World) (hb : Nat) (h : Int) (hN : cntL (vs.map Vl.er) ≤ 4096) (hok : okL (vs.map Vl.er)) (hby : bytL (vs.map Vl.er) ≤ 1000000) (hS : ∀ b, S b → b < w.heap.size) (hv : Vals S w a n c vs) (ch : w.cell? ⟨hb, 0, none⟩ = some (.int .i64 h)) :
    Calls Tryd.prog 27 #[.slice a n c, .func (.func 28) #[] #[.pointer (some ⟨hb, 0, none⟩)]] w (LstP S (mergeL (advL h (vs.map Vl.er))) w) := by
  have hE : ∀ W rb eb, Below w.heap.size w W → W.cell? ⟨rb, 0, none⟩ = some (.func (.func 28) #[] #[.pointer (some ⟨hb, 0, none⟩)]) → W.cell? ⟨eb, 0, none⟩ = some (.func (.func 38) #[] #[.pointer (some ⟨rb, 0, none⟩), .pointer (some ⟨eb, 0, none⟩)]) → Calls Tryd.prog 38 #[.slice a n c, .pointer (some ⟨rb, 0, none⟩), .pointer (some ⟨eb, 0, none⟩)] W (LstP S (advL h (vs.map Vl.er)) W) := fun W rb eb hb' h1 h2 =>
    each_adv 4096 S a n c vs W rb eb hb h hN (Nat.le_refl _) hok (fun q hq => Nat.lt_of_lt_of_le (hS q hq) hb'.size) (hv.below hb') h1 h2 (cell_later hb' ch)
  have hM : ∀ W W' (T : Nat → Prop) a2 n2 c2 us, Below w.heap.size w W → (∀ b, T b → S b ∨ w.heap.size ≤ b) → Vals T W' a2 n2 c2 us → us.map Vl.er = advL h (vs.map Vl.er) → Below W.heap.size W W' → Calls Tryd.prog 41 #[.slice a2 n2 c2] W' (LstP S (mergeL (advL h (vs.map Vl.er))) w) := fun W W' T a2 n2 c2 us hb1 hT hv2 he hb2 => by
    have q := merge_any 4096 (fun b => T b ∧ b < W'.heap.size) a2 n2 c2 us W' (by rw [he]; exact Nat.le_trans (cnt_advL h _ hok) hN) (by omega) (by rw [he]; exact ok_advL h _ hok) (by rw [he]; exact Nat.le_trans (byt_advL h _ hok) hby) (fun b hb => hb.2) (hv2.mono (fun b h1 h2 => ⟨h1, h2⟩))
    rw [he] at q
    refine q.mono ?_
    rintro e w' ⟨a3, n3, c3, ws, rfl, h1, h2, h3⟩
    have hb12 := hb1.trans (hb2.mono hb1.size)
    refine ⟨a3, n3, c3, ws, rfl, h1.mono (fun b hb _ => ?_), h2, hb12.trans (h3.mono hb12.size)⟩
    rcases hb with ⟨hb, -⟩ | hb
    · exact hT b hb
    · exact .inr (Nat.le_trans hb12.size hb)
  have HE := Lib.hid hE
  have HM := Lib.hid hM
  clear hE hM hN hok hby hS hv ch
  go_enter Tryd.func27, Tryd.ntmps27
  have c1 : (((w.alloc (.cells #[.func (.func 28) #[] #[.pointer (some ⟨hb, 0, none⟩)]] 64)).alloc (.cells #[.func (.func 38) #[] #[.pointer (some ⟨w.heap.size, 0, none⟩), .pointer (some ⟨w.heap.size + 1, 0, none⟩)]] 74))).cell? ⟨w.heap.size, 0, none⟩ = some (.func (.func 28) #[] #[.pointer (some ⟨hb, 0, none⟩)]) := by rw [World.cell?_alloc_past _ _ _ (by simp), World.cell?_alloc_at _ _ _ _ rfl]; rfl
  have c2 : (((w.alloc (.cells #[.func (.func 28) #[] #[.pointer (some ⟨hb, 0, none⟩)]] 64)).alloc (.cells #[.func (.func 38) #[] #[.pointer (some ⟨w.heap.size, 0, none⟩), .pointer (some ⟨w.heap.size + 1, 0, none⟩)]] 74))).cell? ⟨w.heap.size + 1, 0, none⟩ = some (.func (.func 38) #[] #[.pointer (some ⟨w.heap.size, 0, none⟩), .pointer (some ⟨w.heap.size + 1, 0, none⟩)]) := by rw [World.cell?_alloc_at _ _ _ _ (by simp)]; rfl
  have hb1 : Below w.heap.size w (((w.alloc (.cells #[.func (.func 28) #[] #[.pointer (some ⟨hb, 0, none⟩)]] 64)).alloc (.cells #[.func (.func 38) #[] #[.pointer (some ⟨w.heap.size, 0, none⟩), .pointer (some ⟨w.heap.size + 1, 0, none⟩)]] 74))) := ((Below.refl _ _).alloc (Nat.le_refl _) _).alloc (by simp) _
  have HF := Lib.hid (HE.out _ _ _ hb1 c1 c2)
  have HB1 := Lib.hid hb1
  clear c1 c2 hb1 HE
  go_wp2_with fail
  refine HF.out.mono ?_
  rintro e w3 ⟨a2, n2, c2, us, rfl, h1, h2, h3⟩
  have HG := Lib.hid (HM.out _ _ _ a2 n2 c2 us HB1.out (fun b hb => hb.imp id (fun h => Nat.le_trans HB1.out.size h)) h1 h2 h3)
  clear h1 h2 h3 HF HM HB1
  go_wp2_with fail
  refine HG.out.mono ?_
  rintro e w4 ⟨a3, n3, c3, ws, rfl, h1, h2, h3⟩
  have H1 := Lib.hid h1
  have H2 := Lib.hid h2
  have H3 := Lib.hid h3
  clear h1 h2 h3 HG
  go_wp2
  go_ret
  exact ⟨a3, n3, c3, ws, rfl, H1.out, H2.out, H3.out⟩
set_option maxRecDepth 100000 in
set_option maxHeartbeats 1000000 in
/-- hands.advanced. -/
theorem advanced_any (S : Nat → Prop) (a : Option Addr) (n c : Nat) (vs : List Vl) (w : World) (h : Int) (hN : cntL (vs.map Vl.er) ≤ 4096) (hok : okL (vs.map Vl.er)) (hby : bytL (vs.map Vl.er) ≤ 1000000) (hS : ∀ b, S b → b < w.heap.size) (hv : Vals S w a n c vs) :
    Calls Tryd.prog 16 #[.slice a n c, .int .i64 h] w (LstP S (mergeL (advL h (vs.map Vl.er))) w) := by
  have hb1 : Below w.heap.size w (w.alloc (.cells #[.int .i64 h] 3)) := (Below.refl _ _).alloc (Nat.le_refl _) _
  have HF := Lib.hid ((reb_adv S a n c vs (w.alloc (.cells #[.int .i64 h] 3)) w.heap.size h hN hok hby (fun q hq => Nat.lt_of_lt_of_le (hS q hq) hb1.size) (hv.below hb1) (by rw [World.cell?_alloc_at _ _ _ _ rfl]; rfl)).mono (fun e w' h' => h'.up hb1))
  clear hN hok hby hS hv hb1
  go_enter Tryd.func16, Tryd.ntmps16
  go_wp2_with fail
  refine HF.out.mono ?_
  rintro e w4 ⟨a3, n3, c3, ws, rfl, h1, h2, h3⟩
  have H1 := Lib.hid h1
  have H2 := Lib.hid h2
  have H3 := Lib.hid h3
  clear h1 h2 h3 HF
  go_wp2
  go_ret
  exact ⟨a3, n3, c3, ws, rfl, H1.out, H2.out, H3.out⟩
end Go.Proofs.YtbjanlmnmeegnaaDoor
