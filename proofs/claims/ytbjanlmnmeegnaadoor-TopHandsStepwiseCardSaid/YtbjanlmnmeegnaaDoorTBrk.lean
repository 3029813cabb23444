/- hands.breaks: the line, page and section nodes within a node. -/
import Derived.Test.YtbjanlmnmeegnaaDoorTOwp
import Derived.Test.YtbjanlmnmeegnaaDoorETz3
set_option linter.unusedVariables false
set_option linter.unusedSimpArgs false
namespace Go.Proofs.YtbjanlmnmeegnaaDoor
open Go.RowKit Go.Shelf
attribute [local go_sem] Oper.semAt_some

mutual
theorem rd_visN {S : Nat → Prop} {w : World} : ∀ v : Vl, Rd S w v → ∀ u ∈ visN v, Rd S w u
  | .mk k n t a c l, h, u, hu => by
    rw [visN] at hu
    rcases List.mem_cons.1 hu with rfl | hu
    · exact h
    · exact rd_visL l (fun x hx => by
        obtain ⟨j, hj⟩ := List.mem_iff_getElem?.1 hx
        exact ((rd_iff.1 h).2.2.2.2.2.2 j x hj).2) u hu
theorem rd_visL {S : Nat → Prop} {w : World} : ∀ l : List Vl, (∀ v ∈ l, Rd S w v) → ∀ u ∈ visL l, Rd S w u
  | [], _, u, hu => by cases hu
  | v :: r, h, u, hu => by
    rw [visL] at hu
    rcases List.mem_append.1 hu with hu | hu
    · exact rd_visN v (h v (by simp)) u hu
    · exact rd_visL r (fun x hx => h x (by simp [hx])) u hu
end
/-- The node yielded. -/
def wv {L : List Vl} (x : ElW L) : Vl := x.1
/-- One end for several orders. -/
theorem tre_key {P : Program} {X : Type} {Wf : X → World} {Q : Exit → Act → World → Prop} {l : List Oper} {T : Act → World → Prop} {t : Tre3} {a : Act} {w : World} (s : Tre3) (R : Act → Act → World → Prop) (h2 : ∀ a' w', R a a' w' → wpTre3 P l Q Wf T s a' w') (h1 : (∀ a' w', R a a' w' → wpTre3 P l Q Wf T s a' w') → wpTre3 P l Q Wf T t a w) : wpTre3 P l Q Wf T t a w := h1 h2
/-- What breaks answers. -/
def BrkP (S : Nat → Prop) (l : List Nd) (w : World) (e : Ending) (w' : World) : Prop := ∃ a n c us, e = .returned (.slice a n c) ∧ OwnN S w' w.heap.size a n c us ∧ us.map Vl.er = brksL l ∧ Below w.heap.size w w'
set_option maxRecDepth 100000 in
set_option maxHeartbeats 4000000 in
theorem breaks_any (S : Nat → Prop) (x : Vl) (w : World) (h : Rd S w x) (hn : (visL x.items).length ≤ 4096) : Calls Tryd.prog 29 #[x.val] w (BrkP S (x.items.map Vl.er) w) := by
  unfold BrkP
  have HV := Lib.hid (rd_iff.1 h).2.2.2
  have HB := Lib.hid (brks_visL x.items)
  have HR := Lib.hid (rd_visL x.items (fun v hv => by
    obtain ⟨j, hj⟩ := List.mem_iff_getElem?.1 hv
    exact ((rd_iff.1 h).2.2.2.2.2.2 j v hj).2))
  have HN := Lib.hid hn
  clear h hn
  obtain ⟨k, nn, t, ax, cx, lx⟩ := x
  dsimp only [Vl.val, Vl.cells, Vl.kind, Vl.num, Vl.text, Vl.sl, Vl.addr, Vl.items, Vl.cap] at HV HB HR HN ⊢
  have hb1 : Below w.heap.size w (w.alloc (.cells #[.int .i64 k, .string t, .int .i64 nn, .slice ax lx.length cx] 37)) := (Below.refl _ _).alloc (Nat.le_refl _) _
  have hb12 : Below ((w.alloc (.cells #[.int .i64 k, .string t, .int .i64 nn, .slice ax lx.length cx] 37))).heap.size (w.alloc (.cells #[.int .i64 k, .string t, .int .i64 nn, .slice ax lx.length cx] 37)) (((w.alloc (.cells #[.int .i64 k, .string t, .int .i64 nn, .slice ax lx.length cx] 37))).alloc (.cells #[.slice none 0 0] 22)) := (Below.refl _ _).alloc (Nat.le_refl _) _
  have hs1 : ((w.alloc (.cells #[.int .i64 k, .string t, .int .i64 nn, .slice ax lx.length cx] 37))).heap.size = w.heap.size + 1 := by simp
  have hs2 : ((((w.alloc (.cells #[.int .i64 k, .string t, .int .i64 nn, .slice ax lx.length cx] 37))).alloc (.cells #[.slice none 0 0] 22))).heap.size = w.heap.size + 2 := by simp
  have gx := World.alloc_heap_new w (.cells #[.int .i64 k, .string t, .int .i64 nn, .slice ax lx.length cx] 37)
  have go := World.alloc_heap_new (w.alloc (.cells #[.int .i64 k, .string t, .int .i64 nn, .slice ax lx.length cx] 37)) (.cells #[.slice none 0 0] 22)
  rw [hs1] at go
  have gx2 : ((((w.alloc (.cells #[.int .i64 k, .string t, .int .i64 nn, .slice ax lx.length cx] 37))).alloc (.cells #[.slice none 0 0] 22))).heap[w.heap.size]? = some (.cells #[.int .i64 k, .string t, .int .i64 nn, .slice ax lx.length cx] 37 (0, 0)) := (hb12.block _ (by omega)).trans gx
  have hb2 : Below w.heap.size w (((w.alloc (.cells #[.int .i64 k, .string t, .int .i64 nn, .slice ax lx.length cx] 37))).alloc (.cells #[.slice none 0 0] 22)) := hb1.trans (hb12.mono hb1.size)
  obtain ⟨x0, x1, x2, x3, -⟩ := box_cells4 gx2
  clear gx gx2 hb1 hb12 hs1
  refine (callsIn_wide (n := 10)).1 ?_
  refine callsIn_of_wp_marks Tryd.func29 rfl trivial ?_ rfl
  simp only [Tryd.ntmps29, List.size_toArray, List.length_cons, List.length_nil, Nat.reduceAdd, Nat.reduceSub, Array.replicate_succ, Array.replicate_zero, List.push_toArray, List.append_toArray, List.nil_append, List.cons_append]
  gi_wp2_with (fail)
  generalize (((w.alloc (.cells #[.int .i64 k, .string t, .int .i64 nn, .slice ax lx.length cx] 37))).alloc (.cells #[.slice none 0 0] 22)) = W2 at *
  refine ⟨trivial, ?_⟩
  refine (walk_in _ W2 ax lx.length cx).mono ?_
  rintro e WL ⟨rfl, hWL⟩
  have hbL : Below W2.heap.size W2 WL := by rw [hWL]; exact (Below.refl _ _).alloc (Nat.le_refl _) _
  have gv := World.alloc_heap_new W2 (.cells #[.slice ax lx.length cx] 22)
  rw [← hWL] at gv
  have hsL : WL.heap.size = w.heap.size + 3 := by rw [hWL]; simp; omega
  have goL := (hbL.block _ (by omega)).trans go
  have hbw := hb2.trans (hbL.mono hb2.size)
  clear hWL hbL go hb2 x0 x1 x2 x3
  gi_wp2
  have hcL := cell_of_one goL
  have hOwL : ∀ b, OwB (w.heap.size + 1) WL b → b = (w.heap.size + 1) := by
    rintro b (rfl | ⟨y, n, c, hq, -⟩)
    · rfl
    · rw [hcL] at hq; cases hq
  have hVL : Vals (fun b => ¬ OwB (w.heap.size + 1) WL b) WL ax lx.length cx lx := ((HV.out.mono (S' := fun b => S b ∧ b < w.heap.size) (fun b h1 h2 => ⟨h1, h2⟩)).below hbw).mono (fun b h1 _ h3 => by have := hOwL b h3; have := h1.2; omega)
  have hsw := hbw.size
  have HSL := Lib.hid hsL
  have hcV := cell_of_one gv
  rw [hs2] at hcV
  refine walkO_loop (n := 10) (by omega) (w.heap.size + 2) lx ax lx.length cx (OwB (w.heap.size + 1)) rfl hcV hVL (fun b hb => by have := hOwL b hb; omega) (fun A B h1 h2 => owB_below (by omega) h2) (fun W l o o' hl hh hc => kpO_put (by omega) hh hc o') (fun hb => by have := hOwL _ hb; omega)
    (fun pre W => ∃ a' m' d', W.heap[(w.heap.size + 1)]? = some (.cells #[.slice a' m' d'] 22 (0, 0)) ∧ OwnQ 37 4 encN W WL.heap.size a' m' d' ((pre.map wv).filter isB) ∧ Below w.heap.size w W ∧ WL.heap.size ≤ W.heap.size)
    (fun _ _ _ => False) ?hI ?hIx ⟨none, 0, 0, goL, OwnQ.nil _ _ _ _ _, hbw, Nat.le_refl _⟩
    (fun y a' W => ∃ (bo : Nat) (cs : Array Value), a' = { tmps := #[.agg #[.int .i64 k, .string t, .int .i64 nn, .slice ax lx.length cx], .pointer (some ⟨w.heap.size, 0, none⟩), .slice none 0 0, .pointer (some ⟨(w.heap.size + 1), 0, none⟩), .pointer (some ⟨bo, 0, none⟩), .pointer (some ⟨w.heap.size, 3, none⟩), .slice ax lx.length cx, .func (.func 49) #[] #[.pointer (some ⟨w.heap.size + 2, 0, none⟩)], y.1.val, undef, undef, undef, undef, undef, undef, undef, undef, undef, undef, undef, undef, undef, undef, undef, undef, undef, undef, undef, undef], defers := [] } ∧ W.heap[bo]? = some (.cells y.1.cells 37 (0, 0)) ∧ W.heap[(w.heap.size + 1)]? = some (.cells cs 22 (0, 0)) ∧ ¬ OwB (w.heap.size + 1) W bo) ?hAx ?assign ?body ?done ?stop
  all_goals clear hsL hs2
  case hI =>
    rintro pre W W' row ⟨a', m', d', g1, g2, g3, g4⟩ hg hr
    exact ⟨a', m', d', cells_own g1 hg hr, g2.ownKept hg hr, g3.grown hg g3.size (fun r e => by have := (hr r e).1; have := HSL.out; omega), Nat.le_trans g4 hg.size⟩
  case hIx => rintro c' pre W W' row h; exact h.elim
  case hAx =>
    rintro y a' _ W W' row ⟨bo, cs, e, h1, h2, h3⟩ hg hr
    have h2' := cells_own h2 hg hr
    exact ⟨bo, cs, e, cells_own h1 hg hr, h2', fun q => h3 (by unfold OwB at q ⊢; rw [World.cell?_of_block (h2'.trans h2.symm)] at q; exact q)⟩
  case assign =>
    rintro l0 pre y W K ⟨a', m', d', g1, g2, g3, g4⟩ hK
    have hsl := HSL.out
    have hb1 : Below W.heap.size W (W.alloc (.cells y.1.cells 37)) := (Below.refl _ _).alloc (Nat.le_refl _) _
    have gb := (hb1.block (w.heap.size + 1) (by omega)).trans g1
    have hKx := Lib.hid (hK _ (W.alloc (.cells y.1.cells 37)) (keepsFrom_below hb1) (KpO.below (fun b h => (owB_below (by omega) hb1 b).1 h) hb1)
      ⟨a', m', d', gb, g2.below hb1, g3.trans (hb1.mono (by omega)), Nat.le_trans g4 hb1.size⟩ ⟨W.heap.size, _, rfl, World.alloc_heap_new W _, gb, fun q => by
        rcases q with r | ⟨z, n, c, r, e⟩
        · omega
        · rw [cell_of_one gb] at r; cases r
          have := (g2.lt z rfl).2; omega⟩)
    clear hsl
    obtain ⟨⟨ky, ny, ty, ay, cy, ly⟩, hy⟩ := y
    dsimp only [wkEnc, Vl.val, Vl.cells, Vl.kind, Vl.num, Vl.text, Vl.sl, Vl.addr, Vl.items, Vl.cap] at hKx ⊢
    gi_wp2
    exact hKx.out
  case body =>
    rintro l0 pre y a0 W ⟨a', m', d', g1, g2, g3, g4⟩ ⟨bo, cs, rfl, h1, h2, h3⟩ hlt
    have hln : ((pre.map wv).filter isB).length ≤ pre.length := Nat.le_trans (List.length_filter_le _ _) (by simp)
    have hm4 : m' < 4096 := by have := g2.len; have := HN.out; rw [elsW_len] at hlt; omega
    have hyB : Hid (((pre ++ [y]).map wv).filter isB = ((pre.map wv).filter isB) ++ ([y.1]).filter isB) := by
      show _ = _
      rw [List.map_append, List.filter_append]; rfl
    have HG := Lib.hid (And.intro g1 (And.intro g2 (And.intro g3 g4)))
    have hbne : ∀ z, a' = some z → z.block ≠ bo := fun z hz e => h3 (.inr ⟨z, m', d', by rw [cell_of_one g1, hz], e⟩)
    have hbo : bo ≠ (w.heap.size + 1) := fun e => h3 (.inl e)
    clear h2 hln hlt h3
    obtain ⟨Y, hY⟩ : ∃ Y, Y = y.1 := ⟨_, rfl⟩
    rw [← hY] at hyB h1 ⊢
    clear hY
    obtain ⟨ky, ny, ty, ay, cy, ly⟩ := Y
    dsimp only [Vl.val, Vl.cells, Vl.kind, Vl.num, Vl.text, Vl.sl, Vl.addr, Vl.items, Vl.cap] at h1 ⊢
    obtain ⟨y0, y1, y2, y3, -⟩ := box_cells4 h1
    have HNO : Hid (isB (Vl.mk ky ny ty ay cy ly) = false → KeepsFrom WL.heap.size W W ∧ KpO (OwB (w.heap.size + 1)) W W ∧ ∃ a' m' d', W.heap[(w.heap.size + 1)]? = some (.cells #[.slice a' m' d'] 22 (0, 0)) ∧ OwnQ 37 4 encN W WL.heap.size a' m' d' (((pre ++ [y]).map wv).filter isB) ∧ Below w.heap.size w W ∧ WL.heap.size ≤ W.heap.size) := fun hb => by
      obtain ⟨g1, g2, g3, g4⟩ := HG.out
      rw [hyB.out, List.filter_cons, hb]
      exact ⟨keepsFrom_below (Below.refl _ _), KpO.below (fun b h => h) (Below.refl _ _), a', m', d', g1, by simpa using g2, g3, g4⟩
    by_cases k2 : ky = 2
    · have t2 : ((ky : Int) == 2) = true := by simp [k2]
      have HYB : Hid (isB (Vl.mk ky ny ty ay cy ly) = true) := by show _ = _; simp [isB, Vl.kind, k2]
      clear k2
      gi_wp2_with fail
      refine wpIn_region_round (by kernel_rfl) (by kernel_rfl) (fun _ _ h => h) (wpAny_tre3Z (Wf := fun V : World => V) (.three 0 (.read 2 (.two 1 (.act 3 (.act 4 (.read 5 (.two 6 (.act 7 .fin) 7 (.act 6 .fin))))) 3 (.act 1 (.act 4 (.read 5 (.two 6 (.act 7 .fin) 7 (.act 6 .fin))))))) 1 (.two 0 (.read 2 (.act 3 (.act 4 (.read 5 (.two 6 (.act 7 .fin) 7 (.act 6 .fin)))))) 3 (.act 0 (.read 2 (.act 4 (.read 5 (.two 6 (.act 7 .fin) 7 (.act 6 .fin))))))) 3 (.two 0 (.read 2 (.act 1 (.act 4 (.read 5 (.two 6 (.act 7 .fin) 7 (.act 6 .fin)))))) 1 (.act 0 (.read 2 (.act 4 (.read 5 (.two 6 (.act 7 .fin) 7 (.act 6 .fin)))))))) (by kernel_rfl) (fun _ _ d _ _ h => by cases d <;> exact h) ⟨_, rfl⟩ ?_)
      have hBx : W.drew.heap[(w.heap.size + 1)]? = some (.cells #[.slice a' m' d'] 22 (0, 0)) := g1
      have hYb : W.drew.heap[bo]? = some (.cells #[.int .i64 ky, .string ty, .int .i64 ny, .slice ay ly.length cy] 37 (0, 0)) := h1
      have hO : OwnQ 37 4 encN W.drew WL.heap.size a' m' d' ((pre.map wv).filter isB) := g2
      have hd : Below WL.heap.size W W.drew := (Below.refl _ _).drew.mono g4
      have hK : ∀ b, b < W.heap.size → b ≠ (w.heap.size + 1) → (∀ y, a' = some y → y.block ≠ b) → W.drew.heap[b]? = W.heap[b]? := fun _ _ _ _ => rfl
      have hsW : W.heap.size ≤ W.drew.heap.size := Nat.le_refl _
      have hv : ∀ z, a' = some z → (∃ u, a' = some u ∧ u.block = z.block) ∨ W.heap.size ≤ z.block := fun z hz => .inl ⟨z, hz, rfl⟩
      have hg4 := g4
      have hoW : (w.heap.size + 1) < WL.heap.size := by have := HSL.out; omega
      have HML := Lib.hid g2.len
      clear g1 g2 g3 g4 h1 y0 y1 y2 y3
      generalize W.drew = V at *
      have HIN := infoN
      refine tre_key (.act 4 (.read 5 (.two 6 (.act 7 .fin) 7 (.act 6 .fin)))) (fun a0 a1 V => ∃ bL, a1 = (((a0.put (some 22) (.slice a' m' d')).put (some 23) (.agg #[.int .i64 ky, .string ty, .int .i64 ny, .slice ay ly.length cy])).put (some 24) (.int .i64 m')).put (some 25) (.slice (some ⟨bL, 0, none⟩) 1 1) ∧ OwnQ 37 4 encN V WL.heap.size a' m' d' ((pre.map wv).filter isB) ∧
        (∀ j u, (([Vl.mk 0 0 ⟨#[]⟩ none 0 []] : List Vl).flatMap encN)[j]? = some u → V.cell? ((⟨bL, 0, none⟩ : Addr).add j) = some u) ∧ V.heap[(w.heap.size + 1)]? = some (.cells #[.slice a' m' d'] 22 (0, 0)) ∧ Below WL.heap.size W V ∧ (∀ b, b < W.heap.size → b ≠ (w.heap.size + 1) → (∀ y, a' = some y → y.block ≠ b) → V.heap[b]? = W.heap[b]?) ∧ W.heap.size ≤ V.heap.size) ?_ ?_
      · clear hBx hYb hO hd hK hsW
        clear V
        rintro a1 V ⟨bL, rfl, hO, hLo, hBx, hd, hK, hsW⟩
        simp only [Act.put, List.setIfInBounds_toArray, List.set_cons_zero, List.set_cons_succ]
        refine wpTre3_act (k := 4) _ rfl ?_
        go_wp2_with (at_builtin; refine wpList_appQ (w0 := W) (l := (pre.map wv).filter isB) (ys := [Vl.mk 0 0 ⟨#[]⟩ none 0 []]) HIN Tryd.underlying22 rfl (by decide) encN_len encN_one rfl _ _ rfl rfl rfl hO rfl hLo (by unfold maxLen; omega) (by omega) (Nat.le_trans hg4 hsW) hd ?_; intro a5 c5 V2 hO2 hb2 hg2 hz2)
        have hsV := hg2.size
        have hGB : ∀ b, b < V.heap.size → (∀ z, a' = some z → z.block ≠ b) → V2.heap[b]? = V.heap[b]? := fun b hb hz => hg2.block b hb (by cases a' with | none => intro e; cases e | some z => intro e; exact hz z rfl (Option.some.inj e).symm)
        have hw1 : ∀ z, a5 = some z → (∃ u, a' = some u ∧ u.block = z.block) ∨ V.heap.size ≤ z.block := fun z hz => by
          subst hz
          rcases hz2 with e | e
          · cases a' with
            | none => cases e
            | some u => exact .inl ⟨u, rfl, (Option.some.inj e).symm⟩
          · exact .inr (Nat.le_of_eq (Option.some.inj e).symm)
        replace hBx := (hGB _ (Array.getElem?_eq_some_iff.1 hBx).1 (fun z hz => by have := (hO.lt z hz).1; omega)).trans hBx
        replace hK := fun b hb hn y => (hGB b (Nat.lt_of_lt_of_le hb hsW) y).trans (hK b hb hn y)
        replace hv : ∀ z, a5 = some z → (∃ u, a' = some u ∧ u.block = z.block) ∨ W.heap.size ≤ z.block := fun z hz => (hw1 z hz).imp id (fun e => Nat.le_trans hsW e)
        replace hd := hb2.mono (Nat.le_of_lt hoW)
        replace hsW := Nat.le_trans hsW hsV
        obtain ⟨xz, gb, -, -, rfl, hgB, hgV, hfr, hat⟩ := hO2.at_ encN_len (j := m') (by omega)
        have hgb : ∀ b, b < W.heap.size → (∀ y, a' = some y → y.block ≠ b) → b ≠ gb := fun b hb hy e => by
          rcases hv ⟨gb, 0, none⟩ rfl with ⟨u, hu, e2⟩ | e2
          · exact hy u hu (e2.trans e.symm)
          · exact absurd hb (by subst e; exact Nat.not_lt.2 e2)
        replace hO := hO2
        clear hO2 hb2 hg2 hz2 hLo hsV hGB hw1
        generalize V2 = V at *
        refine ⟨⟨_, rfl⟩, ?_⟩
        refine wpTre3_read (k := 5) _ rfl (fun K hK => ?_); unfold rOp; go_simp
        refine ⟨_, fun x => by rw [if_pos (by omega)], hK _ ?_⟩
        clear hK K
        refine wpTre3_two ?_ ?_
        · skip
          refine wpTre3_act (k := 6) _ rfl ?_
          have k0 : V.cell? ⟨gb, m' * 4, none⟩ = some (.int .i64 xz.kind) := hat 0 _ rfl
          have k1 : V.cell? ⟨gb, m' * 4 + 1, none⟩ = some (.string xz.text) := hat 1 _ rfl
          have k2 : V.cell? ⟨gb, m' * 4 + 2, none⟩ = some (.int .i64 xz.num) := hat 2 _ rfl
          have k3 : V.cell? ⟨gb, m' * 4 + 3, none⟩ = some xz.sl := hat 3 _ rfl
          have f0 := hfr (m' * 4)
          have f1 := hfr (m' * 4 + 1)
          have f2 := hfr (m' * 4 + 2)
          have f3 := hfr (m' * 4 + 3)
          have hne : (w.heap.size + 1) ≠ gb := by omega
          replace hO : OwnQ 37 4 encN (put4o V gb (m' * 4) (.int .i64 ky) (.string ty) (.int .i64 ny) (.slice ay ly.length cy)) WL.heap.size (some ⟨gb, 0, none⟩) (m' + 1) c5 (((pre.map wv).filter isB) ++ [(Vl.mk ky ny ty ay cy ly : Vl)]) := by
            have := hO.put4 encN_len m' (Vl.mk ky ny ty ay cy ly) rfl
            rw [set_last HML.out] at this; exact this
          replace hBx := (put4o_other (W := V) (b := gb) (o := m' * 4) hne (.int .i64 ky) (.string ty) (.int .i64 ny) (.slice ay ly.length cy)).trans hBx
          replace hK := fun b hb hn y => (put4o_other (W := V) (o := m' * 4) (hgb b hb y) (.int .i64 ky) (.string ty) (.int .i64 ny) (.slice ay ly.length cy)).trans (hK b hb hn y)
          replace hd := put4o_below (n := (w.heap.size + 1)) (b := gb) (o := m' * 4) hd (by omega) (.int .i64 ky) (.string ty) (.int .i64 ny) (.slice ay ly.length cy)
          replace hsW := Nat.le_trans hsW (Nat.le_of_eq (put4o_size V gb (m' * 4) (.int .i64 ky) (.string ty) (.int .i64 ny) (.slice ay ly.length cy)).symm)
          clear hat hfr
          go_wp2_with fail
          clear k0 k1 k2 k3 f0 f1 f2 f3
          dsimp only [put4o] at hO hBx hK hd hsW
          generalize (((V.setCell ⟨gb, m' * 4, none⟩ (.int .i64 ky)).setCell ⟨gb, m' * 4 + 1, none⟩ (.string ty)).setCell ⟨gb, m' * 4 + 2, none⟩ (.int .i64 ny)).setCell ⟨gb, m' * 4 + 3, none⟩ (.slice ay ly.length cy) = V at *
          refine ⟨⟨_, rfl⟩, ?_⟩
          refine wpTre3_act (k := 7) _ rfl ?_
          have cb := cell_of_one hBx
          have fb : V.frozen? ⟨(w.heap.size + 1), 0, none⟩ = false := by simp [World.frozen?, hBx]
          have hne : gb ≠ (w.heap.size + 1) := by omega
          try (replace hat : AtC (V.setCell ⟨(w.heap.size + 1), 0, none⟩ (.slice (some ⟨gb, 0, none⟩) (m' + 1) c5)) gb (m' * 4) (encN xz) := fun i x hx => by rw [World.cell?_of_block (heap_setCell_other hne _)]; exact hat i x hx)
          try (replace hfr : ∀ k, (V.setCell ⟨(w.heap.size + 1), 0, none⟩ (.slice (some ⟨gb, 0, none⟩) (m' + 1) c5)).frozen? ⟨gb, k, none⟩ = false := fun k => (World.frozen?_of_block (heap_setCell_other hne _)).trans (hfr k))
          replace hO := hO.setOther (g := (w.heap.size + 1)) (j := 0) (fun z hz => by cases hz; exact hne) (.slice (some ⟨gb, 0, none⟩) (m' + 1) c5)
          replace hK := fun b hb (hn : b ≠ (w.heap.size + 1)) y => (heap_setCell_other (W := V) (j := 0) (v := .slice (some ⟨gb, 0, none⟩) (m' + 1) c5) hn).trans (hK b hb hn y)
          replace hd := below_setc (b := (w.heap.size + 1)) hd (Nat.le_refl _) 0 (.slice (some ⟨gb, 0, none⟩) (m' + 1) c5)
          replace hsW : W.heap.size ≤ (V.setCell ⟨(w.heap.size + 1), 0, none⟩ (.slice (some ⟨gb, 0, none⟩) (m' + 1) c5)).heap.size := by simpa [World.setCell] using hsW
          replace hBx : (V.setCell ⟨(w.heap.size + 1), 0, none⟩ (.slice (some ⟨gb, 0, none⟩) (m' + 1) c5)).heap[(w.heap.size + 1)]? = some (.cells #[.slice (some ⟨gb, 0, none⟩) (m' + 1) c5] 22 (0, 0)) := by rw [heap_setCell_self hBx]; simp
          go_wp2_with fail
          clear cb fb
          generalize V.setCell ⟨(w.heap.size + 1), 0, none⟩ (.slice (some ⟨gb, 0, none⟩) (m' + 1) c5) = V at *
          refine ⟨⟨_, rfl⟩, ?_⟩
          refine wpTre3_fin ?_
          go_wp2
          obtain ⟨g1, g2, g3, g4⟩ := HG.out
          have hend := owB_end (b4 := (w.heap.size + 1)) (B0 := WL.heap.size) hoW hoW (cell_of_one g1) g2 hO (cell_of_one hBx) hsW hK hv
          refine ⟨hend.2, hend.1, some ⟨gb, 0, none⟩, m' + 1, c5, hBx, ?_, g3.trans (hd.mono (by have := hsW; omega)), Nat.le_trans hg4 hsW⟩
          rw [hyB.out, List.filter_cons, HYB.out]
          simpa using hO
        · skip
          refine wpTre3_act (k := 7) _ rfl ?_
          have cb := cell_of_one hBx
          have fb : V.frozen? ⟨(w.heap.size + 1), 0, none⟩ = false := by simp [World.frozen?, hBx]
          have hne : gb ≠ (w.heap.size + 1) := by omega
          try (replace hat : AtC (V.setCell ⟨(w.heap.size + 1), 0, none⟩ (.slice (some ⟨gb, 0, none⟩) (m' + 1) c5)) gb (m' * 4) (encN xz) := fun i x hx => by rw [World.cell?_of_block (heap_setCell_other hne _)]; exact hat i x hx)
          try (replace hfr : ∀ k, (V.setCell ⟨(w.heap.size + 1), 0, none⟩ (.slice (some ⟨gb, 0, none⟩) (m' + 1) c5)).frozen? ⟨gb, k, none⟩ = false := fun k => (World.frozen?_of_block (heap_setCell_other hne _)).trans (hfr k))
          replace hO := hO.setOther (g := (w.heap.size + 1)) (j := 0) (fun z hz => by cases hz; exact hne) (.slice (some ⟨gb, 0, none⟩) (m' + 1) c5)
          replace hK := fun b hb (hn : b ≠ (w.heap.size + 1)) y => (heap_setCell_other (W := V) (j := 0) (v := .slice (some ⟨gb, 0, none⟩) (m' + 1) c5) hn).trans (hK b hb hn y)
          replace hd := below_setc (b := (w.heap.size + 1)) hd (Nat.le_refl _) 0 (.slice (some ⟨gb, 0, none⟩) (m' + 1) c5)
          replace hsW : W.heap.size ≤ (V.setCell ⟨(w.heap.size + 1), 0, none⟩ (.slice (some ⟨gb, 0, none⟩) (m' + 1) c5)).heap.size := by simpa [World.setCell] using hsW
          replace hBx : (V.setCell ⟨(w.heap.size + 1), 0, none⟩ (.slice (some ⟨gb, 0, none⟩) (m' + 1) c5)).heap[(w.heap.size + 1)]? = some (.cells #[.slice (some ⟨gb, 0, none⟩) (m' + 1) c5] 22 (0, 0)) := by rw [heap_setCell_self hBx]; simp
          go_wp2_with fail
          clear cb fb
          generalize V.setCell ⟨(w.heap.size + 1), 0, none⟩ (.slice (some ⟨gb, 0, none⟩) (m' + 1) c5) = V at *
          refine ⟨⟨_, rfl⟩, ?_⟩
          refine wpTre3_act (k := 6) _ rfl ?_
          have k0 : V.cell? ⟨gb, m' * 4, none⟩ = some (.int .i64 xz.kind) := hat 0 _ rfl
          have k1 : V.cell? ⟨gb, m' * 4 + 1, none⟩ = some (.string xz.text) := hat 1 _ rfl
          have k2 : V.cell? ⟨gb, m' * 4 + 2, none⟩ = some (.int .i64 xz.num) := hat 2 _ rfl
          have k3 : V.cell? ⟨gb, m' * 4 + 3, none⟩ = some xz.sl := hat 3 _ rfl
          have f0 := hfr (m' * 4)
          have f1 := hfr (m' * 4 + 1)
          have f2 := hfr (m' * 4 + 2)
          have f3 := hfr (m' * 4 + 3)
          have hne : (w.heap.size + 1) ≠ gb := by omega
          replace hO : OwnQ 37 4 encN (put4o V gb (m' * 4) (.int .i64 ky) (.string ty) (.int .i64 ny) (.slice ay ly.length cy)) WL.heap.size (some ⟨gb, 0, none⟩) (m' + 1) c5 (((pre.map wv).filter isB) ++ [(Vl.mk ky ny ty ay cy ly : Vl)]) := by
            have := hO.put4 encN_len m' (Vl.mk ky ny ty ay cy ly) rfl
            rw [set_last HML.out] at this; exact this
          replace hBx := (put4o_other (W := V) (b := gb) (o := m' * 4) hne (.int .i64 ky) (.string ty) (.int .i64 ny) (.slice ay ly.length cy)).trans hBx
          replace hK := fun b hb hn y => (put4o_other (W := V) (o := m' * 4) (hgb b hb y) (.int .i64 ky) (.string ty) (.int .i64 ny) (.slice ay ly.length cy)).trans (hK b hb hn y)
          replace hd := put4o_below (n := (w.heap.size + 1)) (b := gb) (o := m' * 4) hd (by omega) (.int .i64 ky) (.string ty) (.int .i64 ny) (.slice ay ly.length cy)
          replace hsW := Nat.le_trans hsW (Nat.le_of_eq (put4o_size V gb (m' * 4) (.int .i64 ky) (.string ty) (.int .i64 ny) (.slice ay ly.length cy)).symm)
          clear hat hfr
          go_wp2_with fail
          clear k0 k1 k2 k3 f0 f1 f2 f3
          dsimp only [put4o] at hO hBx hK hd hsW
          generalize (((V.setCell ⟨gb, m' * 4, none⟩ (.int .i64 ky)).setCell ⟨gb, m' * 4 + 1, none⟩ (.string ty)).setCell ⟨gb, m' * 4 + 2, none⟩ (.int .i64 ny)).setCell ⟨gb, m' * 4 + 3, none⟩ (.slice ay ly.length cy) = V at *
          refine ⟨⟨_, rfl⟩, ?_⟩
          refine wpTre3_fin ?_
          go_wp2
          obtain ⟨g1, g2, g3, g4⟩ := HG.out
          have hend := owB_end (b4 := (w.heap.size + 1)) (B0 := WL.heap.size) hoW hoW (cell_of_one g1) g2 hO (cell_of_one hBx) hsW hK hv
          refine ⟨hend.2, hend.1, some ⟨gb, 0, none⟩, m' + 1, c5, hBx, ?_, g3.trans (hd.mono (by have := hsW; omega)), Nat.le_trans hg4 hsW⟩
          rw [hyB.out, List.filter_cons, HYB.out]
          simpa using hO
      · intro key
        repeat' first
          | refine wpTre3_three ?_ ?_ ?_
          | refine wpTre3_two ?_ ?_
          | (refine wpTre3_read (k := 2) _ rfl (fun K hK => ?_); unfold rOp; go_simp; (refine hK _ ?_; clear hK K))
          | (refine wpTre3_act (k := 0) _ rfl ?_
             have cc := cell_of_one hBx
             go_wp2_with fail
             refine ⟨⟨_, rfl⟩, ?_⟩
             clear cc)
          | (refine wpTre3_act (k := 1) _ rfl ?_
             obtain ⟨y0, y1, y2, y3, -⟩ := box_cells4 hYb
             go_wp2_with fail
             refine ⟨⟨_, rfl⟩, ?_⟩
             clear y0 y1 y2 y3)
          | (refine wpTre3_act (k := 3) _ rfl ?_
             have hst : Below V.heap.size V (V.alloc (.cells #[.int .i64 0, .string ⟨#[]⟩, .int .i64 0, .slice none 0 0] 37)) := (Below.refl _ _).alloc (Nat.le_refl _) _
             have hLo : ∀ j u, (([Vl.mk 0 0 ⟨#[]⟩ none 0 []] : List Vl).flatMap encN)[j]? = some u → (V.alloc (.cells #[.int .i64 0, .string ⟨#[]⟩, .int .i64 0, .slice none 0 0] 37)).cell? ((⟨V.heap.size, 0, none⟩ : Addr).add j) = some u := fun j u hj => lit_cells (by exact hj)
             replace hO := hO.below hst
             replace hBx := (hst.block _ (Array.getElem?_eq_some_iff.1 hBx).1).trans hBx
             replace hYb := (hst.block _ (Array.getElem?_eq_some_iff.1 hYb).1).trans hYb
             replace hK := fun b hb hn y => (hst.block b (Nat.lt_of_lt_of_le hb hsW)).trans (hK b hb hn y)
             replace hd := hd.trans (hst.mono (Nat.le_trans hg4 hsW))
             replace hsW := Nat.le_trans hsW hst.size
             clear hst
             go_wp2_with fail
             generalize V.heap.size = bL at *
             generalize V.alloc (.cells #[.int .i64 0, .string ⟨#[]⟩, .int .i64 0, .slice none 0 0] 37) = V at *
             refine ⟨⟨_, rfl⟩, ?_⟩)
        all_goals exact key _ _ ⟨_, rfl, hO, hLo, hBx, hd, hK, hsW⟩
    · have t2 : ((ky : Int) == 2) = false := by simpa using k2
      by_cases k3 : ky = 3
      · have t3 : ((ky : Int) == 3) = true := by simp [k3]
        have HYB : Hid (isB (Vl.mk ky ny ty ay cy ly) = true) := by show _ = _; simp [isB, Vl.kind, k3]
        clear k3 k2
        gi_wp2_with fail
        refine wpIn_region_round (by kernel_rfl) (by kernel_rfl) (fun _ _ h => h) (wpAny_tre3Z (Wf := fun V : World => V) (.three 0 (.read 2 (.two 1 (.act 3 (.act 4 (.read 5 (.two 6 (.act 7 .fin) 7 (.act 6 .fin))))) 3 (.act 1 (.act 4 (.read 5 (.two 6 (.act 7 .fin) 7 (.act 6 .fin))))))) 1 (.two 0 (.read 2 (.act 3 (.act 4 (.read 5 (.two 6 (.act 7 .fin) 7 (.act 6 .fin)))))) 3 (.act 0 (.read 2 (.act 4 (.read 5 (.two 6 (.act 7 .fin) 7 (.act 6 .fin))))))) 3 (.two 0 (.read 2 (.act 1 (.act 4 (.read 5 (.two 6 (.act 7 .fin) 7 (.act 6 .fin)))))) 1 (.act 0 (.read 2 (.act 4 (.read 5 (.two 6 (.act 7 .fin) 7 (.act 6 .fin)))))))) (by kernel_rfl) (fun _ _ d _ _ h => by cases d <;> exact h) ⟨_, rfl⟩ ?_)
        have hBx : W.drew.heap[(w.heap.size + 1)]? = some (.cells #[.slice a' m' d'] 22 (0, 0)) := g1
        have hYb : W.drew.heap[bo]? = some (.cells #[.int .i64 ky, .string ty, .int .i64 ny, .slice ay ly.length cy] 37 (0, 0)) := h1
        have hO : OwnQ 37 4 encN W.drew WL.heap.size a' m' d' ((pre.map wv).filter isB) := g2
        have hd : Below WL.heap.size W W.drew := (Below.refl _ _).drew.mono g4
        have hK : ∀ b, b < W.heap.size → b ≠ (w.heap.size + 1) → (∀ y, a' = some y → y.block ≠ b) → W.drew.heap[b]? = W.heap[b]? := fun _ _ _ _ => rfl
        have hsW : W.heap.size ≤ W.drew.heap.size := Nat.le_refl _
        have hv : ∀ z, a' = some z → (∃ u, a' = some u ∧ u.block = z.block) ∨ W.heap.size ≤ z.block := fun z hz => .inl ⟨z, hz, rfl⟩
        have hg4 := g4
        have hoW : (w.heap.size + 1) < WL.heap.size := by have := HSL.out; omega
        have HML := Lib.hid g2.len
        clear g1 g2 g3 g4 h1 y0 y1 y2 y3
        generalize W.drew = V at *
        have HIN := infoN
        refine tre_key (.act 4 (.read 5 (.two 6 (.act 7 .fin) 7 (.act 6 .fin)))) (fun a0 a1 V => ∃ bL, a1 = (((a0.put (some 22) (.slice a' m' d')).put (some 23) (.agg #[.int .i64 ky, .string ty, .int .i64 ny, .slice ay ly.length cy])).put (some 24) (.int .i64 m')).put (some 25) (.slice (some ⟨bL, 0, none⟩) 1 1) ∧ OwnQ 37 4 encN V WL.heap.size a' m' d' ((pre.map wv).filter isB) ∧
          (∀ j u, (([Vl.mk 0 0 ⟨#[]⟩ none 0 []] : List Vl).flatMap encN)[j]? = some u → V.cell? ((⟨bL, 0, none⟩ : Addr).add j) = some u) ∧ V.heap[(w.heap.size + 1)]? = some (.cells #[.slice a' m' d'] 22 (0, 0)) ∧ Below WL.heap.size W V ∧ (∀ b, b < W.heap.size → b ≠ (w.heap.size + 1) → (∀ y, a' = some y → y.block ≠ b) → V.heap[b]? = W.heap[b]?) ∧ W.heap.size ≤ V.heap.size) ?_ ?_
        · clear hBx hYb hO hd hK hsW
          clear V
          rintro a1 V ⟨bL, rfl, hO, hLo, hBx, hd, hK, hsW⟩
          simp only [Act.put, List.setIfInBounds_toArray, List.set_cons_zero, List.set_cons_succ]
          refine wpTre3_act (k := 4) _ rfl ?_
          go_wp2_with (at_builtin; refine wpList_appQ (w0 := W) (l := (pre.map wv).filter isB) (ys := [Vl.mk 0 0 ⟨#[]⟩ none 0 []]) HIN Tryd.underlying22 rfl (by decide) encN_len encN_one rfl _ _ rfl rfl rfl hO rfl hLo (by unfold maxLen; omega) (by omega) (Nat.le_trans hg4 hsW) hd ?_; intro a5 c5 V2 hO2 hb2 hg2 hz2)
          have hsV := hg2.size
          have hGB : ∀ b, b < V.heap.size → (∀ z, a' = some z → z.block ≠ b) → V2.heap[b]? = V.heap[b]? := fun b hb hz => hg2.block b hb (by cases a' with | none => intro e; cases e | some z => intro e; exact hz z rfl (Option.some.inj e).symm)
          have hw1 : ∀ z, a5 = some z → (∃ u, a' = some u ∧ u.block = z.block) ∨ V.heap.size ≤ z.block := fun z hz => by
            subst hz
            rcases hz2 with e | e
            · cases a' with
              | none => cases e
              | some u => exact .inl ⟨u, rfl, (Option.some.inj e).symm⟩
            · exact .inr (Nat.le_of_eq (Option.some.inj e).symm)
          replace hBx := (hGB _ (Array.getElem?_eq_some_iff.1 hBx).1 (fun z hz => by have := (hO.lt z hz).1; omega)).trans hBx
          replace hK := fun b hb hn y => (hGB b (Nat.lt_of_lt_of_le hb hsW) y).trans (hK b hb hn y)
          replace hv : ∀ z, a5 = some z → (∃ u, a' = some u ∧ u.block = z.block) ∨ W.heap.size ≤ z.block := fun z hz => (hw1 z hz).imp id (fun e => Nat.le_trans hsW e)
          replace hd := hb2.mono (Nat.le_of_lt hoW)
          replace hsW := Nat.le_trans hsW hsV
          obtain ⟨xz, gb, -, -, rfl, hgB, hgV, hfr, hat⟩ := hO2.at_ encN_len (j := m') (by omega)
          have hgb : ∀ b, b < W.heap.size → (∀ y, a' = some y → y.block ≠ b) → b ≠ gb := fun b hb hy e => by
            rcases hv ⟨gb, 0, none⟩ rfl with ⟨u, hu, e2⟩ | e2
            · exact hy u hu (e2.trans e.symm)
            · exact absurd hb (by subst e; exact Nat.not_lt.2 e2)
          replace hO := hO2
          clear hO2 hb2 hg2 hz2 hLo hsV hGB hw1
          generalize V2 = V at *
          refine ⟨⟨_, rfl⟩, ?_⟩
          refine wpTre3_read (k := 5) _ rfl (fun K hK => ?_); unfold rOp; go_simp
          refine ⟨_, fun x => by rw [if_pos (by omega)], hK _ ?_⟩
          clear hK K
          refine wpTre3_two ?_ ?_
          · skip
            refine wpTre3_act (k := 6) _ rfl ?_
            have k0 : V.cell? ⟨gb, m' * 4, none⟩ = some (.int .i64 xz.kind) := hat 0 _ rfl
            have k1 : V.cell? ⟨gb, m' * 4 + 1, none⟩ = some (.string xz.text) := hat 1 _ rfl
            have k2 : V.cell? ⟨gb, m' * 4 + 2, none⟩ = some (.int .i64 xz.num) := hat 2 _ rfl
            have k3 : V.cell? ⟨gb, m' * 4 + 3, none⟩ = some xz.sl := hat 3 _ rfl
            have f0 := hfr (m' * 4)
            have f1 := hfr (m' * 4 + 1)
            have f2 := hfr (m' * 4 + 2)
            have f3 := hfr (m' * 4 + 3)
            have hne : (w.heap.size + 1) ≠ gb := by omega
            replace hO : OwnQ 37 4 encN (put4o V gb (m' * 4) (.int .i64 ky) (.string ty) (.int .i64 ny) (.slice ay ly.length cy)) WL.heap.size (some ⟨gb, 0, none⟩) (m' + 1) c5 (((pre.map wv).filter isB) ++ [(Vl.mk ky ny ty ay cy ly : Vl)]) := by
              have := hO.put4 encN_len m' (Vl.mk ky ny ty ay cy ly) rfl
              rw [set_last HML.out] at this; exact this
            replace hBx := (put4o_other (W := V) (b := gb) (o := m' * 4) hne (.int .i64 ky) (.string ty) (.int .i64 ny) (.slice ay ly.length cy)).trans hBx
            replace hK := fun b hb hn y => (put4o_other (W := V) (o := m' * 4) (hgb b hb y) (.int .i64 ky) (.string ty) (.int .i64 ny) (.slice ay ly.length cy)).trans (hK b hb hn y)
            replace hd := put4o_below (n := (w.heap.size + 1)) (b := gb) (o := m' * 4) hd (by omega) (.int .i64 ky) (.string ty) (.int .i64 ny) (.slice ay ly.length cy)
            replace hsW := Nat.le_trans hsW (Nat.le_of_eq (put4o_size V gb (m' * 4) (.int .i64 ky) (.string ty) (.int .i64 ny) (.slice ay ly.length cy)).symm)
            clear hat hfr
            go_wp2_with fail
            clear k0 k1 k2 k3 f0 f1 f2 f3
            dsimp only [put4o] at hO hBx hK hd hsW
            generalize (((V.setCell ⟨gb, m' * 4, none⟩ (.int .i64 ky)).setCell ⟨gb, m' * 4 + 1, none⟩ (.string ty)).setCell ⟨gb, m' * 4 + 2, none⟩ (.int .i64 ny)).setCell ⟨gb, m' * 4 + 3, none⟩ (.slice ay ly.length cy) = V at *
            refine ⟨⟨_, rfl⟩, ?_⟩
            refine wpTre3_act (k := 7) _ rfl ?_
            have cb := cell_of_one hBx
            have fb : V.frozen? ⟨(w.heap.size + 1), 0, none⟩ = false := by simp [World.frozen?, hBx]
            have hne : gb ≠ (w.heap.size + 1) := by omega
            try (replace hat : AtC (V.setCell ⟨(w.heap.size + 1), 0, none⟩ (.slice (some ⟨gb, 0, none⟩) (m' + 1) c5)) gb (m' * 4) (encN xz) := fun i x hx => by rw [World.cell?_of_block (heap_setCell_other hne _)]; exact hat i x hx)
            try (replace hfr : ∀ k, (V.setCell ⟨(w.heap.size + 1), 0, none⟩ (.slice (some ⟨gb, 0, none⟩) (m' + 1) c5)).frozen? ⟨gb, k, none⟩ = false := fun k => (World.frozen?_of_block (heap_setCell_other hne _)).trans (hfr k))
            replace hO := hO.setOther (g := (w.heap.size + 1)) (j := 0) (fun z hz => by cases hz; exact hne) (.slice (some ⟨gb, 0, none⟩) (m' + 1) c5)
            replace hK := fun b hb (hn : b ≠ (w.heap.size + 1)) y => (heap_setCell_other (W := V) (j := 0) (v := .slice (some ⟨gb, 0, none⟩) (m' + 1) c5) hn).trans (hK b hb hn y)
            replace hd := below_setc (b := (w.heap.size + 1)) hd (Nat.le_refl _) 0 (.slice (some ⟨gb, 0, none⟩) (m' + 1) c5)
            replace hsW : W.heap.size ≤ (V.setCell ⟨(w.heap.size + 1), 0, none⟩ (.slice (some ⟨gb, 0, none⟩) (m' + 1) c5)).heap.size := by simpa [World.setCell] using hsW
            replace hBx : (V.setCell ⟨(w.heap.size + 1), 0, none⟩ (.slice (some ⟨gb, 0, none⟩) (m' + 1) c5)).heap[(w.heap.size + 1)]? = some (.cells #[.slice (some ⟨gb, 0, none⟩) (m' + 1) c5] 22 (0, 0)) := by rw [heap_setCell_self hBx]; simp
            go_wp2_with fail
            clear cb fb
            generalize V.setCell ⟨(w.heap.size + 1), 0, none⟩ (.slice (some ⟨gb, 0, none⟩) (m' + 1) c5) = V at *
            refine ⟨⟨_, rfl⟩, ?_⟩
            refine wpTre3_fin ?_
            go_wp2
            obtain ⟨g1, g2, g3, g4⟩ := HG.out
            have hend := owB_end (b4 := (w.heap.size + 1)) (B0 := WL.heap.size) hoW hoW (cell_of_one g1) g2 hO (cell_of_one hBx) hsW hK hv
            refine ⟨hend.2, hend.1, some ⟨gb, 0, none⟩, m' + 1, c5, hBx, ?_, g3.trans (hd.mono (by have := hsW; omega)), Nat.le_trans hg4 hsW⟩
            rw [hyB.out, List.filter_cons, HYB.out]
            simpa using hO
          · skip
            refine wpTre3_act (k := 7) _ rfl ?_
            have cb := cell_of_one hBx
            have fb : V.frozen? ⟨(w.heap.size + 1), 0, none⟩ = false := by simp [World.frozen?, hBx]
            have hne : gb ≠ (w.heap.size + 1) := by omega
            try (replace hat : AtC (V.setCell ⟨(w.heap.size + 1), 0, none⟩ (.slice (some ⟨gb, 0, none⟩) (m' + 1) c5)) gb (m' * 4) (encN xz) := fun i x hx => by rw [World.cell?_of_block (heap_setCell_other hne _)]; exact hat i x hx)
            try (replace hfr : ∀ k, (V.setCell ⟨(w.heap.size + 1), 0, none⟩ (.slice (some ⟨gb, 0, none⟩) (m' + 1) c5)).frozen? ⟨gb, k, none⟩ = false := fun k => (World.frozen?_of_block (heap_setCell_other hne _)).trans (hfr k))
            replace hO := hO.setOther (g := (w.heap.size + 1)) (j := 0) (fun z hz => by cases hz; exact hne) (.slice (some ⟨gb, 0, none⟩) (m' + 1) c5)
            replace hK := fun b hb (hn : b ≠ (w.heap.size + 1)) y => (heap_setCell_other (W := V) (j := 0) (v := .slice (some ⟨gb, 0, none⟩) (m' + 1) c5) hn).trans (hK b hb hn y)
            replace hd := below_setc (b := (w.heap.size + 1)) hd (Nat.le_refl _) 0 (.slice (some ⟨gb, 0, none⟩) (m' + 1) c5)
            replace hsW : W.heap.size ≤ (V.setCell ⟨(w.heap.size + 1), 0, none⟩ (.slice (some ⟨gb, 0, none⟩) (m' + 1) c5)).heap.size := by simpa [World.setCell] using hsW
            replace hBx : (V.setCell ⟨(w.heap.size + 1), 0, none⟩ (.slice (some ⟨gb, 0, none⟩) (m' + 1) c5)).heap[(w.heap.size + 1)]? = some (.cells #[.slice (some ⟨gb, 0, none⟩) (m' + 1) c5] 22 (0, 0)) := by rw [heap_setCell_self hBx]; simp
            go_wp2_with fail
            clear cb fb
            generalize V.setCell ⟨(w.heap.size + 1), 0, none⟩ (.slice (some ⟨gb, 0, none⟩) (m' + 1) c5) = V at *
            refine ⟨⟨_, rfl⟩, ?_⟩
            refine wpTre3_act (k := 6) _ rfl ?_
            have k0 : V.cell? ⟨gb, m' * 4, none⟩ = some (.int .i64 xz.kind) := hat 0 _ rfl
            have k1 : V.cell? ⟨gb, m' * 4 + 1, none⟩ = some (.string xz.text) := hat 1 _ rfl
            have k2 : V.cell? ⟨gb, m' * 4 + 2, none⟩ = some (.int .i64 xz.num) := hat 2 _ rfl
            have k3 : V.cell? ⟨gb, m' * 4 + 3, none⟩ = some xz.sl := hat 3 _ rfl
            have f0 := hfr (m' * 4)
            have f1 := hfr (m' * 4 + 1)
            have f2 := hfr (m' * 4 + 2)
            have f3 := hfr (m' * 4 + 3)
            have hne : (w.heap.size + 1) ≠ gb := by omega
            replace hO : OwnQ 37 4 encN (put4o V gb (m' * 4) (.int .i64 ky) (.string ty) (.int .i64 ny) (.slice ay ly.length cy)) WL.heap.size (some ⟨gb, 0, none⟩) (m' + 1) c5 (((pre.map wv).filter isB) ++ [(Vl.mk ky ny ty ay cy ly : Vl)]) := by
              have := hO.put4 encN_len m' (Vl.mk ky ny ty ay cy ly) rfl
              rw [set_last HML.out] at this; exact this
            replace hBx := (put4o_other (W := V) (b := gb) (o := m' * 4) hne (.int .i64 ky) (.string ty) (.int .i64 ny) (.slice ay ly.length cy)).trans hBx
            replace hK := fun b hb hn y => (put4o_other (W := V) (o := m' * 4) (hgb b hb y) (.int .i64 ky) (.string ty) (.int .i64 ny) (.slice ay ly.length cy)).trans (hK b hb hn y)
            replace hd := put4o_below (n := (w.heap.size + 1)) (b := gb) (o := m' * 4) hd (by omega) (.int .i64 ky) (.string ty) (.int .i64 ny) (.slice ay ly.length cy)
            replace hsW := Nat.le_trans hsW (Nat.le_of_eq (put4o_size V gb (m' * 4) (.int .i64 ky) (.string ty) (.int .i64 ny) (.slice ay ly.length cy)).symm)
            clear hat hfr
            go_wp2_with fail
            clear k0 k1 k2 k3 f0 f1 f2 f3
            dsimp only [put4o] at hO hBx hK hd hsW
            generalize (((V.setCell ⟨gb, m' * 4, none⟩ (.int .i64 ky)).setCell ⟨gb, m' * 4 + 1, none⟩ (.string ty)).setCell ⟨gb, m' * 4 + 2, none⟩ (.int .i64 ny)).setCell ⟨gb, m' * 4 + 3, none⟩ (.slice ay ly.length cy) = V at *
            refine ⟨⟨_, rfl⟩, ?_⟩
            refine wpTre3_fin ?_
            go_wp2
            obtain ⟨g1, g2, g3, g4⟩ := HG.out
            have hend := owB_end (b4 := (w.heap.size + 1)) (B0 := WL.heap.size) hoW hoW (cell_of_one g1) g2 hO (cell_of_one hBx) hsW hK hv
            refine ⟨hend.2, hend.1, some ⟨gb, 0, none⟩, m' + 1, c5, hBx, ?_, g3.trans (hd.mono (by have := hsW; omega)), Nat.le_trans hg4 hsW⟩
            rw [hyB.out, List.filter_cons, HYB.out]
            simpa using hO
        · intro key
          repeat' first
            | refine wpTre3_three ?_ ?_ ?_
            | refine wpTre3_two ?_ ?_
            | (refine wpTre3_read (k := 2) _ rfl (fun K hK => ?_); unfold rOp; go_simp; (refine hK _ ?_; clear hK K))
            | (refine wpTre3_act (k := 0) _ rfl ?_
               have cc := cell_of_one hBx
               go_wp2_with fail
               refine ⟨⟨_, rfl⟩, ?_⟩
               clear cc)
            | (refine wpTre3_act (k := 1) _ rfl ?_
               obtain ⟨y0, y1, y2, y3, -⟩ := box_cells4 hYb
               go_wp2_with fail
               refine ⟨⟨_, rfl⟩, ?_⟩
               clear y0 y1 y2 y3)
            | (refine wpTre3_act (k := 3) _ rfl ?_
               have hst : Below V.heap.size V (V.alloc (.cells #[.int .i64 0, .string ⟨#[]⟩, .int .i64 0, .slice none 0 0] 37)) := (Below.refl _ _).alloc (Nat.le_refl _) _
               have hLo : ∀ j u, (([Vl.mk 0 0 ⟨#[]⟩ none 0 []] : List Vl).flatMap encN)[j]? = some u → (V.alloc (.cells #[.int .i64 0, .string ⟨#[]⟩, .int .i64 0, .slice none 0 0] 37)).cell? ((⟨V.heap.size, 0, none⟩ : Addr).add j) = some u := fun j u hj => lit_cells (by exact hj)
               replace hO := hO.below hst
               replace hBx := (hst.block _ (Array.getElem?_eq_some_iff.1 hBx).1).trans hBx
               replace hYb := (hst.block _ (Array.getElem?_eq_some_iff.1 hYb).1).trans hYb
               replace hK := fun b hb hn y => (hst.block b (Nat.lt_of_lt_of_le hb hsW)).trans (hK b hb hn y)
               replace hd := hd.trans (hst.mono (Nat.le_trans hg4 hsW))
               replace hsW := Nat.le_trans hsW hst.size
               clear hst
               go_wp2_with fail
               generalize V.heap.size = bL at *
               generalize V.alloc (.cells #[.int .i64 0, .string ⟨#[]⟩, .int .i64 0, .slice none 0 0] 37) = V at *
               refine ⟨⟨_, rfl⟩, ?_⟩)
          all_goals exact key _ _ ⟨_, rfl, hO, hLo, hBx, hd, hK, hsW⟩
      · have t3 : ((ky : Int) == 3) = false := by simpa using k3
        by_cases k4 : ky = 4
        · have t4 : ((ky : Int) == 4) = true := by simp [k4]
          have HYB : Hid (isB (Vl.mk ky ny ty ay cy ly) = true) := by show _ = _; simp [isB, Vl.kind, k4]
          clear k4 k3 k2
          gi_wp2_with fail
          refine wpIn_region_round (by kernel_rfl) (by kernel_rfl) (fun _ _ h => h) (wpAny_tre3Z (Wf := fun V : World => V) (.three 0 (.read 2 (.two 1 (.act 3 (.act 4 (.read 5 (.two 6 (.act 7 .fin) 7 (.act 6 .fin))))) 3 (.act 1 (.act 4 (.read 5 (.two 6 (.act 7 .fin) 7 (.act 6 .fin))))))) 1 (.two 0 (.read 2 (.act 3 (.act 4 (.read 5 (.two 6 (.act 7 .fin) 7 (.act 6 .fin)))))) 3 (.act 0 (.read 2 (.act 4 (.read 5 (.two 6 (.act 7 .fin) 7 (.act 6 .fin))))))) 3 (.two 0 (.read 2 (.act 1 (.act 4 (.read 5 (.two 6 (.act 7 .fin) 7 (.act 6 .fin)))))) 1 (.act 0 (.read 2 (.act 4 (.read 5 (.two 6 (.act 7 .fin) 7 (.act 6 .fin)))))))) (by kernel_rfl) (fun _ _ d _ _ h => by cases d <;> exact h) ⟨_, rfl⟩ ?_)
          have hBx : W.drew.heap[(w.heap.size + 1)]? = some (.cells #[.slice a' m' d'] 22 (0, 0)) := g1
          have hYb : W.drew.heap[bo]? = some (.cells #[.int .i64 ky, .string ty, .int .i64 ny, .slice ay ly.length cy] 37 (0, 0)) := h1
          have hO : OwnQ 37 4 encN W.drew WL.heap.size a' m' d' ((pre.map wv).filter isB) := g2
          have hd : Below WL.heap.size W W.drew := (Below.refl _ _).drew.mono g4
          have hK : ∀ b, b < W.heap.size → b ≠ (w.heap.size + 1) → (∀ y, a' = some y → y.block ≠ b) → W.drew.heap[b]? = W.heap[b]? := fun _ _ _ _ => rfl
          have hsW : W.heap.size ≤ W.drew.heap.size := Nat.le_refl _
          have hv : ∀ z, a' = some z → (∃ u, a' = some u ∧ u.block = z.block) ∨ W.heap.size ≤ z.block := fun z hz => .inl ⟨z, hz, rfl⟩
          have hg4 := g4
          have hoW : (w.heap.size + 1) < WL.heap.size := by have := HSL.out; omega
          have HML := Lib.hid g2.len
          clear g1 g2 g3 g4 h1 y0 y1 y2 y3
          generalize W.drew = V at *
          have HIN := infoN
          refine tre_key (.act 4 (.read 5 (.two 6 (.act 7 .fin) 7 (.act 6 .fin)))) (fun a0 a1 V => ∃ bL, a1 = (((a0.put (some 22) (.slice a' m' d')).put (some 23) (.agg #[.int .i64 ky, .string ty, .int .i64 ny, .slice ay ly.length cy])).put (some 24) (.int .i64 m')).put (some 25) (.slice (some ⟨bL, 0, none⟩) 1 1) ∧ OwnQ 37 4 encN V WL.heap.size a' m' d' ((pre.map wv).filter isB) ∧
            (∀ j u, (([Vl.mk 0 0 ⟨#[]⟩ none 0 []] : List Vl).flatMap encN)[j]? = some u → V.cell? ((⟨bL, 0, none⟩ : Addr).add j) = some u) ∧ V.heap[(w.heap.size + 1)]? = some (.cells #[.slice a' m' d'] 22 (0, 0)) ∧ Below WL.heap.size W V ∧ (∀ b, b < W.heap.size → b ≠ (w.heap.size + 1) → (∀ y, a' = some y → y.block ≠ b) → V.heap[b]? = W.heap[b]?) ∧ W.heap.size ≤ V.heap.size) ?_ ?_
          · clear hBx hYb hO hd hK hsW
            clear V
            rintro a1 V ⟨bL, rfl, hO, hLo, hBx, hd, hK, hsW⟩
            simp only [Act.put, List.setIfInBounds_toArray, List.set_cons_zero, List.set_cons_succ]
            refine wpTre3_act (k := 4) _ rfl ?_
            go_wp2_with (at_builtin; refine wpList_appQ (w0 := W) (l := (pre.map wv).filter isB) (ys := [Vl.mk 0 0 ⟨#[]⟩ none 0 []]) HIN Tryd.underlying22 rfl (by decide) encN_len encN_one rfl _ _ rfl rfl rfl hO rfl hLo (by unfold maxLen; omega) (by omega) (Nat.le_trans hg4 hsW) hd ?_; intro a5 c5 V2 hO2 hb2 hg2 hz2)
            have hsV := hg2.size
            have hGB : ∀ b, b < V.heap.size → (∀ z, a' = some z → z.block ≠ b) → V2.heap[b]? = V.heap[b]? := fun b hb hz => hg2.block b hb (by cases a' with | none => intro e; cases e | some z => intro e; exact hz z rfl (Option.some.inj e).symm)
            have hw1 : ∀ z, a5 = some z → (∃ u, a' = some u ∧ u.block = z.block) ∨ V.heap.size ≤ z.block := fun z hz => by
              subst hz
              rcases hz2 with e | e
              · cases a' with
                | none => cases e
                | some u => exact .inl ⟨u, rfl, (Option.some.inj e).symm⟩
              · exact .inr (Nat.le_of_eq (Option.some.inj e).symm)
            replace hBx := (hGB _ (Array.getElem?_eq_some_iff.1 hBx).1 (fun z hz => by have := (hO.lt z hz).1; omega)).trans hBx
            replace hK := fun b hb hn y => (hGB b (Nat.lt_of_lt_of_le hb hsW) y).trans (hK b hb hn y)
            replace hv : ∀ z, a5 = some z → (∃ u, a' = some u ∧ u.block = z.block) ∨ W.heap.size ≤ z.block := fun z hz => (hw1 z hz).imp id (fun e => Nat.le_trans hsW e)
            replace hd := hb2.mono (Nat.le_of_lt hoW)
            replace hsW := Nat.le_trans hsW hsV
            obtain ⟨xz, gb, -, -, rfl, hgB, hgV, hfr, hat⟩ := hO2.at_ encN_len (j := m') (by omega)
            have hgb : ∀ b, b < W.heap.size → (∀ y, a' = some y → y.block ≠ b) → b ≠ gb := fun b hb hy e => by
              rcases hv ⟨gb, 0, none⟩ rfl with ⟨u, hu, e2⟩ | e2
              · exact hy u hu (e2.trans e.symm)
              · exact absurd hb (by subst e; exact Nat.not_lt.2 e2)
            replace hO := hO2
            clear hO2 hb2 hg2 hz2 hLo hsV hGB hw1
            generalize V2 = V at *
            refine ⟨⟨_, rfl⟩, ?_⟩
            refine wpTre3_read (k := 5) _ rfl (fun K hK => ?_); unfold rOp; go_simp
            refine ⟨_, fun x => by rw [if_pos (by omega)], hK _ ?_⟩
            clear hK K
            refine wpTre3_two ?_ ?_
            · skip
              refine wpTre3_act (k := 6) _ rfl ?_
              have k0 : V.cell? ⟨gb, m' * 4, none⟩ = some (.int .i64 xz.kind) := hat 0 _ rfl
              have k1 : V.cell? ⟨gb, m' * 4 + 1, none⟩ = some (.string xz.text) := hat 1 _ rfl
              have k2 : V.cell? ⟨gb, m' * 4 + 2, none⟩ = some (.int .i64 xz.num) := hat 2 _ rfl
              have k3 : V.cell? ⟨gb, m' * 4 + 3, none⟩ = some xz.sl := hat 3 _ rfl
              have f0 := hfr (m' * 4)
              have f1 := hfr (m' * 4 + 1)
              have f2 := hfr (m' * 4 + 2)
              have f3 := hfr (m' * 4 + 3)
              have hne : (w.heap.size + 1) ≠ gb := by omega
              replace hO : OwnQ 37 4 encN (put4o V gb (m' * 4) (.int .i64 ky) (.string ty) (.int .i64 ny) (.slice ay ly.length cy)) WL.heap.size (some ⟨gb, 0, none⟩) (m' + 1) c5 (((pre.map wv).filter isB) ++ [(Vl.mk ky ny ty ay cy ly : Vl)]) := by
                have := hO.put4 encN_len m' (Vl.mk ky ny ty ay cy ly) rfl
                rw [set_last HML.out] at this; exact this
              replace hBx := (put4o_other (W := V) (b := gb) (o := m' * 4) hne (.int .i64 ky) (.string ty) (.int .i64 ny) (.slice ay ly.length cy)).trans hBx
              replace hK := fun b hb hn y => (put4o_other (W := V) (o := m' * 4) (hgb b hb y) (.int .i64 ky) (.string ty) (.int .i64 ny) (.slice ay ly.length cy)).trans (hK b hb hn y)
              replace hd := put4o_below (n := (w.heap.size + 1)) (b := gb) (o := m' * 4) hd (by omega) (.int .i64 ky) (.string ty) (.int .i64 ny) (.slice ay ly.length cy)
              replace hsW := Nat.le_trans hsW (Nat.le_of_eq (put4o_size V gb (m' * 4) (.int .i64 ky) (.string ty) (.int .i64 ny) (.slice ay ly.length cy)).symm)
              clear hat hfr
              go_wp2_with fail
              clear k0 k1 k2 k3 f0 f1 f2 f3
              dsimp only [put4o] at hO hBx hK hd hsW
              generalize (((V.setCell ⟨gb, m' * 4, none⟩ (.int .i64 ky)).setCell ⟨gb, m' * 4 + 1, none⟩ (.string ty)).setCell ⟨gb, m' * 4 + 2, none⟩ (.int .i64 ny)).setCell ⟨gb, m' * 4 + 3, none⟩ (.slice ay ly.length cy) = V at *
              refine ⟨⟨_, rfl⟩, ?_⟩
              refine wpTre3_act (k := 7) _ rfl ?_
              have cb := cell_of_one hBx
              have fb : V.frozen? ⟨(w.heap.size + 1), 0, none⟩ = false := by simp [World.frozen?, hBx]
              have hne : gb ≠ (w.heap.size + 1) := by omega
              try (replace hat : AtC (V.setCell ⟨(w.heap.size + 1), 0, none⟩ (.slice (some ⟨gb, 0, none⟩) (m' + 1) c5)) gb (m' * 4) (encN xz) := fun i x hx => by rw [World.cell?_of_block (heap_setCell_other hne _)]; exact hat i x hx)
              try (replace hfr : ∀ k, (V.setCell ⟨(w.heap.size + 1), 0, none⟩ (.slice (some ⟨gb, 0, none⟩) (m' + 1) c5)).frozen? ⟨gb, k, none⟩ = false := fun k => (World.frozen?_of_block (heap_setCell_other hne _)).trans (hfr k))
              replace hO := hO.setOther (g := (w.heap.size + 1)) (j := 0) (fun z hz => by cases hz; exact hne) (.slice (some ⟨gb, 0, none⟩) (m' + 1) c5)
              replace hK := fun b hb (hn : b ≠ (w.heap.size + 1)) y => (heap_setCell_other (W := V) (j := 0) (v := .slice (some ⟨gb, 0, none⟩) (m' + 1) c5) hn).trans (hK b hb hn y)
              replace hd := below_setc (b := (w.heap.size + 1)) hd (Nat.le_refl _) 0 (.slice (some ⟨gb, 0, none⟩) (m' + 1) c5)
              replace hsW : W.heap.size ≤ (V.setCell ⟨(w.heap.size + 1), 0, none⟩ (.slice (some ⟨gb, 0, none⟩) (m' + 1) c5)).heap.size := by simpa [World.setCell] using hsW
              replace hBx : (V.setCell ⟨(w.heap.size + 1), 0, none⟩ (.slice (some ⟨gb, 0, none⟩) (m' + 1) c5)).heap[(w.heap.size + 1)]? = some (.cells #[.slice (some ⟨gb, 0, none⟩) (m' + 1) c5] 22 (0, 0)) := by rw [heap_setCell_self hBx]; simp
              go_wp2_with fail
              clear cb fb
              generalize V.setCell ⟨(w.heap.size + 1), 0, none⟩ (.slice (some ⟨gb, 0, none⟩) (m' + 1) c5) = V at *
              refine ⟨⟨_, rfl⟩, ?_⟩
              refine wpTre3_fin ?_
              go_wp2
              obtain ⟨g1, g2, g3, g4⟩ := HG.out
              have hend := owB_end (b4 := (w.heap.size + 1)) (B0 := WL.heap.size) hoW hoW (cell_of_one g1) g2 hO (cell_of_one hBx) hsW hK hv
              refine ⟨hend.2, hend.1, some ⟨gb, 0, none⟩, m' + 1, c5, hBx, ?_, g3.trans (hd.mono (by have := hsW; omega)), Nat.le_trans hg4 hsW⟩
              rw [hyB.out, List.filter_cons, HYB.out]
              simpa using hO
            · skip
              refine wpTre3_act (k := 7) _ rfl ?_
              have cb := cell_of_one hBx
              have fb : V.frozen? ⟨(w.heap.size + 1), 0, none⟩ = false := by simp [World.frozen?, hBx]
              have hne : gb ≠ (w.heap.size + 1) := by omega
              try (replace hat : AtC (V.setCell ⟨(w.heap.size + 1), 0, none⟩ (.slice (some ⟨gb, 0, none⟩) (m' + 1) c5)) gb (m' * 4) (encN xz) := fun i x hx => by rw [World.cell?_of_block (heap_setCell_other hne _)]; exact hat i x hx)
              try (replace hfr : ∀ k, (V.setCell ⟨(w.heap.size + 1), 0, none⟩ (.slice (some ⟨gb, 0, none⟩) (m' + 1) c5)).frozen? ⟨gb, k, none⟩ = false := fun k => (World.frozen?_of_block (heap_setCell_other hne _)).trans (hfr k))
              replace hO := hO.setOther (g := (w.heap.size + 1)) (j := 0) (fun z hz => by cases hz; exact hne) (.slice (some ⟨gb, 0, none⟩) (m' + 1) c5)
              replace hK := fun b hb (hn : b ≠ (w.heap.size + 1)) y => (heap_setCell_other (W := V) (j := 0) (v := .slice (some ⟨gb, 0, none⟩) (m' + 1) c5) hn).trans (hK b hb hn y)
              replace hd := below_setc (b := (w.heap.size + 1)) hd (Nat.le_refl _) 0 (.slice (some ⟨gb, 0, none⟩) (m' + 1) c5)
              replace hsW : W.heap.size ≤ (V.setCell ⟨(w.heap.size + 1), 0, none⟩ (.slice (some ⟨gb, 0, none⟩) (m' + 1) c5)).heap.size := by simpa [World.setCell] using hsW
              replace hBx : (V.setCell ⟨(w.heap.size + 1), 0, none⟩ (.slice (some ⟨gb, 0, none⟩) (m' + 1) c5)).heap[(w.heap.size + 1)]? = some (.cells #[.slice (some ⟨gb, 0, none⟩) (m' + 1) c5] 22 (0, 0)) := by rw [heap_setCell_self hBx]; simp
              go_wp2_with fail
              clear cb fb
              generalize V.setCell ⟨(w.heap.size + 1), 0, none⟩ (.slice (some ⟨gb, 0, none⟩) (m' + 1) c5) = V at *
              refine ⟨⟨_, rfl⟩, ?_⟩
              refine wpTre3_act (k := 6) _ rfl ?_
              have k0 : V.cell? ⟨gb, m' * 4, none⟩ = some (.int .i64 xz.kind) := hat 0 _ rfl
              have k1 : V.cell? ⟨gb, m' * 4 + 1, none⟩ = some (.string xz.text) := hat 1 _ rfl
              have k2 : V.cell? ⟨gb, m' * 4 + 2, none⟩ = some (.int .i64 xz.num) := hat 2 _ rfl
              have k3 : V.cell? ⟨gb, m' * 4 + 3, none⟩ = some xz.sl := hat 3 _ rfl
              have f0 := hfr (m' * 4)
              have f1 := hfr (m' * 4 + 1)
              have f2 := hfr (m' * 4 + 2)
              have f3 := hfr (m' * 4 + 3)
              have hne : (w.heap.size + 1) ≠ gb := by omega
              replace hO : OwnQ 37 4 encN (put4o V gb (m' * 4) (.int .i64 ky) (.string ty) (.int .i64 ny) (.slice ay ly.length cy)) WL.heap.size (some ⟨gb, 0, none⟩) (m' + 1) c5 (((pre.map wv).filter isB) ++ [(Vl.mk ky ny ty ay cy ly : Vl)]) := by
                have := hO.put4 encN_len m' (Vl.mk ky ny ty ay cy ly) rfl
                rw [set_last HML.out] at this; exact this
              replace hBx := (put4o_other (W := V) (b := gb) (o := m' * 4) hne (.int .i64 ky) (.string ty) (.int .i64 ny) (.slice ay ly.length cy)).trans hBx
              replace hK := fun b hb hn y => (put4o_other (W := V) (o := m' * 4) (hgb b hb y) (.int .i64 ky) (.string ty) (.int .i64 ny) (.slice ay ly.length cy)).trans (hK b hb hn y)
              replace hd := put4o_below (n := (w.heap.size + 1)) (b := gb) (o := m' * 4) hd (by omega) (.int .i64 ky) (.string ty) (.int .i64 ny) (.slice ay ly.length cy)
              replace hsW := Nat.le_trans hsW (Nat.le_of_eq (put4o_size V gb (m' * 4) (.int .i64 ky) (.string ty) (.int .i64 ny) (.slice ay ly.length cy)).symm)
              clear hat hfr
              go_wp2_with fail
              clear k0 k1 k2 k3 f0 f1 f2 f3
              dsimp only [put4o] at hO hBx hK hd hsW
              generalize (((V.setCell ⟨gb, m' * 4, none⟩ (.int .i64 ky)).setCell ⟨gb, m' * 4 + 1, none⟩ (.string ty)).setCell ⟨gb, m' * 4 + 2, none⟩ (.int .i64 ny)).setCell ⟨gb, m' * 4 + 3, none⟩ (.slice ay ly.length cy) = V at *
              refine ⟨⟨_, rfl⟩, ?_⟩
              refine wpTre3_fin ?_
              go_wp2
              obtain ⟨g1, g2, g3, g4⟩ := HG.out
              have hend := owB_end (b4 := (w.heap.size + 1)) (B0 := WL.heap.size) hoW hoW (cell_of_one g1) g2 hO (cell_of_one hBx) hsW hK hv
              refine ⟨hend.2, hend.1, some ⟨gb, 0, none⟩, m' + 1, c5, hBx, ?_, g3.trans (hd.mono (by have := hsW; omega)), Nat.le_trans hg4 hsW⟩
              rw [hyB.out, List.filter_cons, HYB.out]
              simpa using hO
          · intro key
            repeat' first
              | refine wpTre3_three ?_ ?_ ?_
              | refine wpTre3_two ?_ ?_
              | (refine wpTre3_read (k := 2) _ rfl (fun K hK => ?_); unfold rOp; go_simp; (refine hK _ ?_; clear hK K))
              | (refine wpTre3_act (k := 0) _ rfl ?_
                 have cc := cell_of_one hBx
                 go_wp2_with fail
                 refine ⟨⟨_, rfl⟩, ?_⟩
                 clear cc)
              | (refine wpTre3_act (k := 1) _ rfl ?_
                 obtain ⟨y0, y1, y2, y3, -⟩ := box_cells4 hYb
                 go_wp2_with fail
                 refine ⟨⟨_, rfl⟩, ?_⟩
                 clear y0 y1 y2 y3)
              | (refine wpTre3_act (k := 3) _ rfl ?_
                 have hst : Below V.heap.size V (V.alloc (.cells #[.int .i64 0, .string ⟨#[]⟩, .int .i64 0, .slice none 0 0] 37)) := (Below.refl _ _).alloc (Nat.le_refl _) _
                 have hLo : ∀ j u, (([Vl.mk 0 0 ⟨#[]⟩ none 0 []] : List Vl).flatMap encN)[j]? = some u → (V.alloc (.cells #[.int .i64 0, .string ⟨#[]⟩, .int .i64 0, .slice none 0 0] 37)).cell? ((⟨V.heap.size, 0, none⟩ : Addr).add j) = some u := fun j u hj => lit_cells (by exact hj)
                 replace hO := hO.below hst
                 replace hBx := (hst.block _ (Array.getElem?_eq_some_iff.1 hBx).1).trans hBx
                 replace hYb := (hst.block _ (Array.getElem?_eq_some_iff.1 hYb).1).trans hYb
                 replace hK := fun b hb hn y => (hst.block b (Nat.lt_of_lt_of_le hb hsW)).trans (hK b hb hn y)
                 replace hd := hd.trans (hst.mono (Nat.le_trans hg4 hsW))
                 replace hsW := Nat.le_trans hsW hst.size
                 clear hst
                 go_wp2_with fail
                 generalize V.heap.size = bL at *
                 generalize V.alloc (.cells #[.int .i64 0, .string ⟨#[]⟩, .int .i64 0, .slice none 0 0] 37) = V at *
                 refine ⟨⟨_, rfl⟩, ?_⟩)
            all_goals exact key _ _ ⟨_, rfl, hO, hLo, hBx, hd, hK, hsW⟩
        · have t4 : ((ky : Int) == 4) = false := by simpa using k4
          have HYB : Hid (isB (Vl.mk ky ny ty ay cy ly) = false) := by show _ = _; simp [isB, Vl.kind, k2, k3, k4]
          clear k4 k3 k2 g1 g2 g3 g4
          gi_wp2
          exact HNO.out HYB.out
  case done =>
    rintro D W hD ⟨a', m', d', g1, g2, g3, g4⟩ hd
    have c1 := cell_of_one g1
    have hmap : (elsW (visL lx)).map wv = visL lx := by simp [elsW, wv, List.attach_map_subtype_val]
    rw [hmap] at g2
    have HSL2 := HSL.out
    have HG2 := Lib.hid g2
    have HG3 := Lib.hid g3
    have HD2 := Lib.hid hd
    clear g1 g2 g3 g4 hd hmap
    gi_wp2
    refine leaves_marks (hi := WL.heap.size) (by simp) (Φ := fun W => OwnQ 37 4 encN W WL.heap.size a' m' d' ((visL lx).filter isB) ∧ Below w.heap.size w W) ?_ ?_ _ _ (Marks.one hD HD2.out) ⟨HG2.out, HG3.out⟩
    · rintro W D ⟨h3, h4⟩ hD hd
      exact ⟨h3.ownKept (row := some D) (grownBy_putObj' W D _) (B0 := 0) (fun r e => ⟨Nat.zero_le _, _, by cases e; exact hd, rfl⟩), below_putObj h4 (by omega) hd _⟩
    · rintro W ⟨h3, h4⟩
      exact ⟨_, results_tmp rfl _ _ _, _, _, _, _, rfl, ⟨h3.mono (by omega), fun u hu => (HR.out u (List.mem_filter.1 hu).1).below h4⟩, HB.out, h4⟩
  case stop =>
    rintro D c' pre W hD hpre h; exact h.elim
end Go.Proofs.YtbjanlmnmeegnaaDoor
