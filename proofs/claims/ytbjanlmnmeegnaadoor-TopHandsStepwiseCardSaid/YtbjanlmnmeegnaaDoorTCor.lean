/- hands.correction; merging, from the left. -/
import Derived.Test.YtbjanlmnmeegnaaDoorTKp
set_option linter.unusedVariables false
set_option linter.unusedSimpArgs false
namespace Go.Proofs.YtbjanlmnmeegnaaDoor
open Go.RowKit

set_option maxRecDepth 100000 in
set_option maxHeartbeats 1000000 in
theorem correction_any (x : Vl) (w : World) : Calls Tryd.prog 39 #[x.val] w fun e w' => e = .returned (.bool (decide (x.kind = 8 ∨ x.kind = 9))) ∧ Below w.heap.size w w' := by
  obtain ⟨k, nn, t, ax, cx, lx⟩ := x
  dsimp only [Vl.val, Vl.cells, Vl.kind, Vl.num, Vl.text, Vl.sl, Vl.addr, Vl.items, Vl.cap]
  have hb : Below w.heap.size w (w.alloc (.cells #[.int .i64 k, .string t, .int .i64 nn, .slice ax lx.length cx] 37)) := (Below.refl _ _).alloc (Nat.le_refl _) _
  obtain ⟨x0, x1, x2, x3, -⟩ := box_cells4 (World.alloc_heap_new w (.cells #[.int .i64 k, .string t, .int .i64 nn, .slice ax lx.length cx] 37))
  go_enter Tryd.func39, Tryd.ntmps39
  by_cases h8 : k = 8
  · have HD : Hid (decide (k = 8 ∨ k = 9) = true) := by show _ = _; simp [h8]
    have t1 : ((k : Int) == 8) = true := by simp [h8]
    clear h8
    go_wp2
    go_ret
    exact ⟨ret_bool HD.out.symm, hb⟩
  · have t1 : ((k : Int) == 8) = false := by simpa using h8
    by_cases h9 : k = 9
    · have HD : Hid (decide (k = 8 ∨ k = 9) = true) := by show _ = _; simp [h9]
      have t2 : ((k : Int) == 9) = true := by simp [h9]
      clear h8 h9
      go_wp2
      go_ret
      exact ⟨ret_bool HD.out.symm, hb⟩
    · have HD : Hid (decide (k = 8 ∨ k = 9) = false) := by show _ = _; simp [h8, h9]
      have t2 : ((k : Int) == 9) = false := by simpa using h9
      clear h8 h9
      go_wp2
      go_ret
      exact ⟨ret_bool HD.out.symm, hb⟩
/-- What is merged already, put ahead of merged nodes: where they meet two texts may become one. -/
def glue : List Nd → List Nd → List Nd
  | [], r => r
  | [x], r => cat x r
  | x :: y :: m, r => x :: glue (y :: m) r
theorem glue_nil : ∀ m : List Nd, okL m → glue m [] = m
  | [], _ => rfl
  | [.mk k t n ps], h => by
    show cat _ [] = _
    by_cases hk : k = 1
    · exact cat_end hk (h.1.1 hk).1
    · exact cat_other hk
  | x :: y :: m, h => by show x :: glue (y :: m) [] = _; rw [glue_nil (y :: m) h.2]
def Nd.isT : Nd → Prop
  | .mk k _ _ _ => k = 1
/-- A node that is not text, or has no text ahead of it, is appended. -/
theorem glue_push : ∀ (m : List Nd) (x : Nd) (r : List Nd), okL m → okN x → (∀ l y, m = l ++ [y] → ¬ (y.isT ∧ x.isT)) → glue m (cat x r) = glue (m ++ [x]) r
  | [], x, r, _, _, _ => rfl
  | [.mk k t n ps], .mk k' t' n' ps', r, h, hx, hn => by
    show cat _ (cat _ r) = .mk k t n ps :: cat _ r
    have hq := hn [] (.mk k t n ps) rfl
    by_cases hk : k = 1
    · have hk' : k' ≠ 1 := fun e => hq ⟨hk, e⟩
      rw [cat_other hk', cat_edge hk hk' (h.1.1 hk).1]
    · rw [cat_other hk]
  | z :: y :: m, x, r, h, hx, hn => by
    show z :: glue (y :: m) (cat x r) = z :: glue ((y :: m) ++ [x]) r
    rw [glue_push (y :: m) x r h.2 hx (fun l q e => hn (z :: l) q (by rw [e]; rfl))]
/-- A text behind a text is added to it. -/
theorem glue_add : ∀ (m : List Nd) (k k' : Int) (t t' : ByteArray) (n n' : Int) (ps ps' r : List Nd), k = 1 → k' = 1 → t.size ≠ 0 → t'.size ≠ 0 → glue (m ++ [.mk k t n ps]) (cat (.mk k' t' n' ps') r) = glue (m ++ [.mk k (t ++ t') n ps]) r
  | [], k, k', t, t', n, n', ps, ps', r, h, h', ht, ht' => cat_cat h h' ht ht' r
  | [x], k, k', t, t', n, n', ps, ps', r, h, h', ht, ht' => by
    show x :: cat _ (cat _ r) = x :: cat _ r
    rw [cat_cat h h' ht ht']
  | x :: y :: m, k, k', t, t', n, n', ps, ps', r, h, h', ht, ht' => by
    show x :: glue ((y :: m) ++ _) _ = x :: glue ((y :: m) ++ _) _
    rw [glue_add (y :: m) k k' t t' n n' ps ps' r h h' ht ht']
end Go.Proofs.YtbjanlmnmeegnaaDoor
