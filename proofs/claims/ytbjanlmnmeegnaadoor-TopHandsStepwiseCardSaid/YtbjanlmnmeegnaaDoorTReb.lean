/- hands.rebuilt: parts; correction. -/
import Derived.Test.YtbjanlmnmeegnaaDoorTOx
import Derived.Test.YtbjanlmnmeegnaaDoorTBrk
import Derived.Test.YtbjanlmnmeegnaaDoorTMrg
set_option linter.unusedVariables false
set_option linter.unusedSimpArgs false
namespace Go.Proofs.YtbjanlmnmeegnaaDoor
open Go.RowKit

theorem vis_len : ∀ l : List Vl, (visL l).length = cntL (l.map Vl.er) := by
  intro l
  have key : ∀ v : Vl, (visN v).length = cntN v.er := fun v => by
    induction v using Vl.ind with
    | h v ih =>
      rw [visN_eq, er_kind, cntN, List.length_cons]
      have : ∀ l : List Vl, (∀ u ∈ l, (visN u).length = cntN u.er) → (visL l).length = cntL (l.map Vl.er) := fun l => by
        induction l with
        | nil => intro _; rfl
        | cons u r ihh => intro h; rw [visL, List.length_append, List.map_cons, cntL, h u (by simp), ihh (fun x hx => h x (by simp [hx]))]
      rw [this _ ih]; omega
  induction l with
  | nil => rfl
  | cons u r ih => rw [visL, List.length_append, List.map_cons, cntL, key, ih]
theorem breaks_lst (S : Nat → Prop) (x : Vl) (w : World) (h : Rd S w x) (hn : cntL (x.items.map Vl.er) ≤ 4096) (ho : okL (x.items.map Vl.er)) : Calls Tryd.prog 29 #[x.val] w (LstP S (brksL (x.items.map Vl.er)) w) := by
  refine (breaks_any S x w h (by rw [vis_len]; exact hn)).mono ?_
  rintro e w' ⟨a, n, c, us, rfl, h1, h2, h3⟩
  have hl : us.length ≤ 4096 := by
    have q := len_map us
    have := cnt_brksL _ ho
    rw [h2] at q; omega
  exact ⟨a, n, c, us, rfl, h1.vals (by rw [h1.len]; omega) (fun b hb => .inl hb) (fun y hy => .inr (h1.1.lt y hy).1), h2, h3⟩
mutual
theorem byt_brksN : ∀ x : Nd, okN x → bytL (brksN x) ≤ bytN x
  | .mk k t n ps, o => by
    have ib := byt_brksL ps o.2.2
    unfold brksN
    rw [byt_append]
    split
    · rename_i hb
      rw [o.2.1 hb]; simp [bytL, bytN, brksL]
    · simp only [bytL, bytN]; omega
theorem byt_brksL : ∀ l : List Nd, okL l → bytL (brksL l) ≤ bytL l
  | [], _ => Nat.le_refl _
  | x :: r, o => by
    have h1 := byt_brksN x o.1
    have h2 := byt_brksL r o.2
    show bytL (brksN x ++ brksL r) ≤ bytN x + bytL r
    rw [byt_append]; omega
end
set_option maxRecDepth 100000 in
set_option maxHeartbeats 1000000 in
theorem parts_any (r : List Nd) (S : Nat → Prop) (v : Vl) (xb eb rb : Nat) (w : World) (he : w.cell? ⟨eb, 0, none⟩ = some (.func (.func 38) #[] #[.pointer (some ⟨rb, 0, none⟩), .pointer (some ⟨eb, 0, none⟩)])) (hx : w.cell? ⟨xb, 3, none⟩ = some v.sl)
    (hE : Calls Tryd.prog 38 #[v.sl, .pointer (some ⟨rb, 0, none⟩), .pointer (some ⟨eb, 0, none⟩)] w (LstP S r w)) : Calls Tryd.prog 40 #[.pointer (some ⟨eb, 0, none⟩), .pointer (some ⟨xb, 0, none⟩)] w (LstP S r w) := by
  have HE := Lib.hid hE
  clear hE
  obtain ⟨k, nn, t, ax, cx, lx⟩ := v
  dsimp only [Vl.val, Vl.cells, Vl.kind, Vl.num, Vl.text, Vl.sl, Vl.addr, Vl.items, Vl.cap] at HE hx
  unfold LstP at HE ⊢
  go_enter Tryd.func40, Tryd.ntmps40
  go_wp2_with fail
  refine HE.out.mono ?_
  rintro e w' ⟨a, n, c, us, rfl, h1, h2, h3⟩
  have H1 := Lib.hid h1
  have H2 := Lib.hid h2
  have H3 := Lib.hid h3
  clear h1 h2 h3 HE he hx
  go_wp2
  go_ret
  exact ⟨a, n, c, us, rfl, H1.out, H2.out, H3.out⟩
end Go.Proofs.YtbjanlmnmeegnaaDoor
