/- The law. -/
import Derived.Test.YtileoimcnhcfcaaDoorLEqs
import Derived.Test.YtileoimcnhcfcaaDoorETree
set_option linter.unusedVariables false
set_option linter.unusedSimpArgs false
namespace Go.Proofs.YtileoimcnhcfcaaDoor
open Go.RowKit Go.Shelf

theorem wrd_tok {t : Tok} (h : t.err = 0) : wrdP t.text := by
  unfold Tok.err at h
  split at h
  · cases h
  split at h
  · cases h
  split at h
  · cases h
  rename_i hf
  have hf : t.formB = true := by simpa using hf
  unfold Tok.formB at hf
  split at hf
  · exact .inr (.inr (by simp at hf; exact hf.1))
  split at hf
  · exact .inr (.inl (by simp at hf; exact hf.1))
  · exact .inl (by simp at hf; exact hf.1)
theorem wrd_pos {s : ByteArray} (h : wrdP s) : s.size ≠ 0 := by
  rcases h with h | h | h
  · unfold isWordP at h; simp only [Bool.and_eq_true, decide_eq_true_eq] at h; omega
  · unfold markP at h; simp only [Bool.and_eq_true, decide_eq_true_eq] at h; omega
  · obtain ⟨n, -, -, rfl⟩ := gapP_iff.1 h
    show (gapT n).data.size ≠ 0
    rw [← Array.length_toList, gapT_list]; simp
theorem num_ok {ws : List ByteArray} {f lw : ByteArray} {p m : Nat} (hlen : ws.length ≤ 200) (hmem : (p, m) ∈ occs ws f lw) :
    ∃ k, (occs ws f lw)[k]? = some (p, m) ∧ numL ws f lw (p, m) = (if (occs ws f lw).length = 1 then 0 else k + 1) ∧ numL ws f lw (p, m) ≤ 65536 := by
  obtain ⟨k, hk, e⟩ := List.mem_iff_getElem.1 hmem
  have hk' : (occs ws f lw)[k]? = some (p, m) := by rw [List.getElem?_eq_getElem hk, e]
  have h1 : numF (p, m) (occs ws f lw) = k + 1 := numF_at _ (occ_nodup ws.length) k hk'
  have h2 : (occs ws f lw).length ≤ 200 * 201 := by
    have := occ_len (ws := ws) (f := f) (l := lw) hlen ws.length
    exact Nat.le_trans this (Nat.mul_le_mul_right _ hlen)
  refine ⟨k, hk', by rw [numL, h1], ?_⟩
  rw [numL, h1]; split <;> omega
theorem Sq.any {S : Nat → Prop} {w : World} {a : Option Addr} {n c : Nat} {l : List ByteArray} (h : Strs S w a n c l) : Strs (fun b => b < w.heap.size) w a n c l := h.mono rStr_ok (fun _ _ h => h)
theorem src_calls {S : Nat → Prop} {w : World} {a : Option Addr} {n c p : Nat} {ws : List ByteArray} (h : Strs S w a n c ws) (hn : n ≤ 200) (hw : ∀ s ∈ ws, wrdP s) (hp : p < n) (hE : Env w) :
    ∃ (f lw : ByteArray) (N : Nat), Calls Tryd.prog 8 #[.slice a n c, .int .i64 (p : Int), .int .i64 (n : Int)] w (fun e w' => e = .returned (.tuple #[.agg #[.string f, .string lw, .int .i64 (N : Int)], .int .i64 0]) ∧ Below w.heap.size w w') ∧
      ∀ (T : Nat → Prop) (b : Option Addr) (d : Nat) (V : World), Strs T V b n d ws → Env V → Calls Tryd.prog 9 #[.slice b n d, .agg #[.string f, .string lw, .int .i64 (N : Int)]] V (fun e w' => e = .returned (.tuple #[.int .i64 (p : Int), .int .i64 (n : Int), .int .i64 0]) ∧ Below V.heap.size V w') := by
  have hl := h.len
  have hpl : p < ws.length := by omega
  have hf : ws[p]? = some ws[p] := List.getElem?_eq_getElem hpl
  have hwf := hw _ (List.getElem_mem hpl)
  obtain ⟨lw, hlw, hwl, hmem⟩ : ∃ lw : ByteArray, ((n = p + 1 ∧ lw = ⟨#[]⟩) ∨ (p + 1 < n ∧ lw ≠ ⟨#[]⟩ ∧ ws[n - 1]? = some lw)) ∧ (lw = ⟨#[]⟩ ∨ (lw.size ≠ 0 ∧ wrdP lw)) ∧ (p, n - 1) ∈ occs ws ws[p] lw := by
    by_cases hnp : n = p + 1
    · exact ⟨⟨#[]⟩, .inl ⟨hnp, rfl⟩, .inl rfl, occ_in_mem hpl hf (.inl ⟨rfl, by omega⟩)⟩
    · have hq : n - 1 < ws.length := by omega
      have hwq := hw _ (List.getElem_mem hq)
      have hne : ws[n - 1] ≠ ⟨#[]⟩ := fun e => wrd_pos hwq (by rw [e]; rfl)
      exact ⟨ws[n - 1], .inr ⟨by omega, hne, List.getElem?_eq_getElem hq⟩, .inr ⟨wrd_pos hwq, hwq⟩, occ_in_mem hpl hf (.inr ⟨hne, by omega, hq, List.getElem?_eq_getElem hq⟩)⟩
  obtain ⟨k, h1, h2, h3⟩ := num_ok (by omega) hmem
  refine ⟨ws[p], lw, numL ws ws[p] lw (p, n - 1), ?_, fun T b d V hV hEV => ?_⟩
  · exact of_any _ a n c ws p n _ lw w h.any hn hw hp (Nat.le_refl _) hf hlw (fun _ h => h) hE
  · refine (find_any _ b n d ws (p, n - 1) k _ _ lw V hV.any hn hw hwf hwl h3 h1 h2 (fun _ h => h) hEV).mono ?_
    rintro e w' ⟨rfl, hb⟩
    refine ⟨?_, hb⟩
    rw [show (((p, n - 1) : Nat × Nat).2 : Int) + 1 = (n : Int) by show ((n - 1 : Nat) : Int) + 1 = n; omega]
theorem rem_u8 (i n : Nat) (hi : i < 256) : (IntKind.i64.wrap (i : Int)).tmod (n : Int) = ((i % n : Nat) : Int) := by
  rw [show IntKind.i64.wrap (i : Int) = i by rw [IntKind.wrap_i64]; omega, Int.tmod_eq_emod_of_nonneg (by omega)]
  simp
set_option maxRecDepth 100000 in
set_option maxHeartbeats 1000000 in
theorem law_any (S : Nat → Prop) (v : CV) (x : Col) (i k t : Nat) (w : World) (h : RdC S w v x) (hE : Env w) (hi : i < 256) (hk : k < 256) (ht : t < 256) : Calls Tryd.prog 3 #[v.val, .int .u8 (i : Int), .int .u8 (k : Int), .int .u8 (t : Int)] w fun e w' => e = .returned (.bool true) ∧ Below w.heap.size w w' := by
  have HAW : Hid (∀ W, Below w.heap.size w W → Calls Tryd.prog 6 #[] W fun e w' => e = .returned (.bool true) ∧ Below W.heap.size W w') := fun W hb => awake_any W (hE.below hb)
  have HGR : Hid (∀ W, Below w.heap.size w W → Calls Tryd.prog 4 #[v.val] W fun e w' => e = .returned (.bool (great x)) ∧ Below W.heap.size W w') := fun W hb => great_ref S v x W (h.below hb)
  have HCC : Hid (great x = false → ∀ W, Below w.heap.size w W → Calls Tryd.prog 5 #[v.val] W fun e w' => e = .returned (.int .i64 x.err) ∧ Below W.heap.size W w') := fun hg W hb => check_any S v x W (h.below hb) (great_sml hg) (hE.below hb)
  have HTX : Hid (great x = false → x.err = 0 → ∀ W, Below w.heap.size w W → ∀ i : Nat, i < v.sn → Calls Tryd.prog 7 #[v.val, .int .i64 (i : Int)] W fun e w' => ∃ a n c, e = .returned (.tuple #[.slice a n c, .int .i64 0]) ∧ Strs (fun b => W.heap.size ≤ b) w' a n c ((x.tks i).map Tok.text) ∧ Below W.heap.size W w') :=
    fun hg h0 W hb i hi => text_any S v x i W (h.below hb) (great_sml hg) (hE.below hb) h0 (by rw [← h.2.2.1.len]; exact hi)
  have HWD : Hid (great x = false → x.err = 0 → ∀ i, ((x.tks i).map Tok.text).length ≤ 6 ∧ ∀ s ∈ (x.tks i).map Tok.text, wrdP s) := fun hg h0 i => by
    have hmem : ∀ t ∈ x.tks i, x.tks i ∈ x.toks := fun t ht => by
      unfold Col.tks at ht ⊢
      cases hx : x.toks[i]? with
      | none => rw [hx] at ht; cases ht
      | some r => exact List.mem_of_getElem? hx
    refine ⟨?_, fun s hs => ?_⟩
    · rw [List.length_map]
      cases hq : x.tks i with
      | nil => exact Nat.zero_le _
      | cons t r => have := great_len hg _ (hmem t (by rw [hq]; simp)); rw [hq] at this; exact this
    · obtain ⟨t, ht, rfl⟩ := List.mem_map.1 hs
      exact wrd_tok (((err_iff.1 h0).1.toks _ (hmem t ht)).2 t ht)
  have hsb : v.sn * 16 ≤ 140737488355328 := h.2.2.1.bound
  have HSN : Hid (x.err = 0 → 0 < v.sn ∧ v.sn ≤ 32) := fun h0 => ⟨by rw [h.2.2.1.len]; exact (err_iff.1 h0).1.pos, by rw [h.2.2.1.len]; exact (err_iff.1 h0).1.most⟩
  have HX := Lib.hid h
  have HE := Lib.hid hE
  generalize great x = GB at HGR HCC HTX HWD
  generalize x.err = E at HCC HTX HWD HSN
  clear h hE
  obtain ⟨sec, sa, sn, sc, ta, tn, tc, ca, cn, cc⟩ := v
  dsimp only at hsb HSN
  change Calls _ _ #[.agg #[.string sec, .slice sa sn sc, .slice ta tn tc, .slice ca cn cc], .int .u8 (i : Int), .int .u8 (k : Int), .int .u8 (t : Int)] _ _
  change Hid (∀ W, _ → Calls _ _ #[.agg #[.string sec, .slice sa sn sc, .slice ta tn tc, .slice ca cn cc]] _ _) at HGR
  change Hid (_ → ∀ W, _ → Calls _ _ #[.agg #[.string sec, .slice sa sn sc, .slice ta tn tc, .slice ca cn cc]] _ _) at HCC
  change Hid (_ → _ → ∀ W, _ → ∀ i : Nat, i < sn → Calls _ _ #[.agg #[.string sec, .slice sa sn sc, .slice ta tn tc, .slice ca cn cc], _] _ _) at HTX
  have hb0 : Below w.heap.size w (w.alloc (.cells #[.string sec, .slice sa sn sc, .slice ta tn tc, .slice ca cn cc] 26)) := (Below.refl _ _).alloc (Nat.le_refl _) _
  obtain ⟨c0, c1, c2, c3, -⟩ := box_cells4 (World.alloc_heap_new w (.cells #[.string sec, .slice sa sn sc, .slice ta tn tc, .slice ca cn cc] 26))
  have HQ := Lib.hid (HGR.out _ hb0)
  clear HX HGR
  go_enter Tryd.func3, Tryd.ntmps3
  go_wp2_with fail
  generalize w.alloc (.cells #[.string sec, .slice sa sn sc, .slice ta tn tc, .slice ca cn cc] 26) = W1 at *
  refine HQ.out.mono ?_
  rintro e W2 ⟨rfl, hb2⟩
  have hb := hb0.trans (hb2.mono hb0.size)
  replace c0 := cell_later hb2 c0
  replace c1 := cell_later hb2 c1
  replace c2 := cell_later hb2 c2
  replace c3 := cell_later hb2 c3
  clear hb2 hb0 HQ
  cases GB with
  | true =>
    have HA1 := Lib.hid (HAW.out _ hb)
    go_wp2_with fail
    refine HA1.out.mono ?_
    rintro e W3 ⟨rfl, hb4⟩
    go_wp2
    go_ret
    exact ⟨rfl, hb.trans (hb4.mono hb.size)⟩
  | false =>
    have HQ := Lib.hid (HCC.out (by trivial) _ hb)
    go_wp2_with fail
    refine HQ.out.mono ?_
    rintro e W3 ⟨rfl, hb4⟩
    replace c0 := cell_later hb4 c0
    replace c1 := cell_later hb4 c1
    replace c2 := cell_later hb4 c2
    replace c3 := cell_later hb4 c3
    replace hb := hb.trans (hb4.mono hb.size)
    clear hb4 HQ HCC
    by_cases h0 : E = 0
    · have t0 : ((E : Int) != 0) = false := by simp [h0]
      subst E
      have HT := Lib.hid (HTX.out (by trivial) (by trivial))
      have HW := Lib.hid (HWD.out (by trivial) (by trivial))
      obtain ⟨n1, n2⟩ := HSN.out (by trivial)
      clear HTX HWD HSN
      have m1 : max (1 : Int) (sn : Int) = sn := by omega
      have m2 : (sn : Int) ≠ 0 := by omega
      have m3 : ((sn : Int) == 0) = false := by rw [beq_eq_false_iff_ne]; exact m2
      go_wp2_with fail
      obtain ⟨X, Wf, hX, hS1, hS2⟩ := family (fun V => Below W3.heap.size W3 V) W3 (Below.refl _ _)
      have HS2 := Lib.hid hS2
      have q_c0 := fun x => cell_later (hS1 x) c0
      have q_c1 := fun x => cell_later (hS1 x) c1
      have q_c2 := fun x => cell_later (hS1 x) c2
      have q_c3 := fun x => cell_later (hS1 x) c3
      clear hS1 hS2
      have hd0 : Below W3.heap.size W3 W3.drew := (Below.refl _ _).drew
      refine wp_region_tree (Wf := Wf) 13 (.read 0 (.read 1 (.read 2 (.read 3 (.read 4 (.read 5 (.read 6 (.read 7 (.act 8 (.read 9 (.read 10 (.read 11 (.act 12 .fin))))))))))))) (by kernel_rfl) (by kernel_rfl) (fun _ _ d _ _ h => by cases d <;> exact h) (HS2.out _ hd0) ?_
      obtain ⟨si, hsi, hs⟩ : ∃ s : Nat, (IntKind.i64.wrap (i : Int)).tmod (sn : Int) = (s : Int) ∧ s < sn := ⟨i % sn, rem_u8 i sn hi, Nat.mod_lt _ n1⟩
      refine wpTree_read _ rfl (fun K hK => ?_); unfold rOp; go_simp; (refine hK _ ?_; clear hK K)
      refine wpTree_read _ rfl (fun K hK => ?_); unfold rOp; go_simp; (refine hK _ ?_; clear hK K)
      refine wpTree_read _ rfl (fun K hK => ?_); unfold rOp; go_simp; (refine hK _ ?_; clear hK K)
      refine wpTree_read _ rfl (fun K hK => ?_); unfold rOp; go_simp; (refine hK _ ?_; clear hK K)
      refine wpTree_read _ rfl (fun K hK => ?_); unfold rOp; go_simp; (refine hK _ ?_; clear hK K)
      refine wpTree_read _ rfl (fun K hK => ?_); unfold rOp; go_simp; (refine hK _ ?_; clear hK K)
      refine wpTree_read _ rfl (fun K hK => ?_); unfold rOp; go_simp; (refine hK _ ?_; clear hK K)
      refine wpTree_read _ rfl (fun K hK => ?_); unfold rOp; go_simp; (refine ⟨_, fun x => by rw [if_neg (by omega)], hK _ ?_⟩; clear hK K)
      refine wpTree_act _ rfl ?_
      have HKC := Lib.hid (HT.out _ (hb.trans (hd0.mono hb.size)) si hs)
      go_wp2_with fail
      refine HKC.out.mono ?_
      rintro e W4 ⟨aA, nA, cA, rfl, hA, hb4⟩
      have hd1 := hd0.trans (hb4.mono hd0.size)
      go_wp2_with fail
      refine ⟨HS2.out _ hd1, ?_⟩
      refine wpTree_read _ rfl (fun K hK => ?_); unfold rOp; go_simp; (refine hK _ ?_; clear hK K)
      refine wpTree_read _ rfl (fun K hK => ?_); unfold rOp; go_simp; (refine hK _ ?_; clear hK K)
      refine wpTree_read _ rfl (fun K hK => ?_); unfold rOp; go_simp; (refine hK _ ?_; clear hK K)
      refine wpTree_act _ rfl ?_
      go_wp2_with fail
      refine ⟨HS2.out _ hd1, ?_⟩
      refine wpTree_fin ?_
      replace c0 := cell_later hd1 c0
      replace c1 := cell_later hd1 c1
      replace c2 := cell_later hd1 c2
      replace c3 := cell_later hd1 c3
      replace hb := hb.trans (hd1.mono hb.size)
      clear q_c0 q_c1 q_c2 q_c3 HS2 hX hd0 hd1 hb4 HKC hsi hs
      go_wp2_with fail
      obtain ⟨X, Wf, hX, hS1, hS2⟩ := family (fun V => Below W4.heap.size W4 V) W4 (Below.refl _ _)
      have HS2 := Lib.hid hS2
      have q_c0 := fun x => cell_later (hS1 x) c0
      have q_c1 := fun x => cell_later (hS1 x) c1
      have q_c2 := fun x => cell_later (hS1 x) c2
      have q_c3 := fun x => cell_later (hS1 x) c3
      clear hS1 hS2
      have hd0 : Below W4.heap.size W4 W4.drew := (Below.refl _ _).drew
      refine wp_region_tree (Wf := Wf) 13 (.read 0 (.read 1 (.read 2 (.read 3 (.read 4 (.read 5 (.read 6 (.read 7 (.act 8 (.read 9 (.read 10 (.read 11 (.act 12 .fin))))))))))))) (by kernel_rfl) (by kernel_rfl) (fun _ _ d _ _ h => by cases d <;> exact h) (HS2.out _ hd0) ?_
      obtain ⟨ti, hti, htn⟩ : ∃ s : Nat, (IntKind.i64.wrap (k : Int)).tmod (sn : Int) = (s : Int) ∧ s < sn := ⟨k % sn, rem_u8 k sn hk, Nat.mod_lt _ n1⟩
      refine wpTree_read _ rfl (fun K hK => ?_); unfold rOp; go_simp; (refine hK _ ?_; clear hK K)
      refine wpTree_read _ rfl (fun K hK => ?_); unfold rOp; go_simp; (refine hK _ ?_; clear hK K)
      refine wpTree_read _ rfl (fun K hK => ?_); unfold rOp; go_simp; (refine hK _ ?_; clear hK K)
      refine wpTree_read _ rfl (fun K hK => ?_); unfold rOp; go_simp; (refine hK _ ?_; clear hK K)
      refine wpTree_read _ rfl (fun K hK => ?_); unfold rOp; go_simp; (refine hK _ ?_; clear hK K)
      refine wpTree_read _ rfl (fun K hK => ?_); unfold rOp; go_simp; (refine hK _ ?_; clear hK K)
      refine wpTree_read _ rfl (fun K hK => ?_); unfold rOp; go_simp; (refine hK _ ?_; clear hK K)
      refine wpTree_read _ rfl (fun K hK => ?_); unfold rOp; go_simp; (refine ⟨_, fun x => by rw [if_neg (by omega)], hK _ ?_⟩; clear hK K)
      refine wpTree_act _ rfl ?_
      have HKC := Lib.hid (HT.out _ (hb.trans (hd0.mono hb.size)) ti htn)
      go_wp2_with fail
      refine HKC.out.mono ?_
      rintro e W5 ⟨aB, nB, cB, rfl, hB, hb4⟩
      have hd1 := hd0.trans (hb4.mono hd0.size)
      go_wp2_with fail
      refine ⟨HS2.out _ hd1, ?_⟩
      refine wpTree_read _ rfl (fun K hK => ?_); unfold rOp; go_simp; (refine hK _ ?_; clear hK K)
      refine wpTree_read _ rfl (fun K hK => ?_); unfold rOp; go_simp; (refine hK _ ?_; clear hK K)
      refine wpTree_read _ rfl (fun K hK => ?_); unfold rOp; go_simp; (refine hK _ ?_; clear hK K)
      refine wpTree_act _ rfl ?_
      go_wp2_with fail
      refine ⟨HS2.out _ hd1, ?_⟩
      refine wpTree_fin ?_
      replace hA := hA.below rStr_ok hd1
      replace hb := hb.trans (hd1.mono hb.size)
      obtain ⟨wA1, wA2⟩ := HW.out si
      obtain ⟨wB1, wB2⟩ := HW.out ti
      generalize ((x.tks si).map Tok.text) = WA at *
      generalize ((x.tks ti).map Tok.text) = WB at *
      rw [← hA.len] at wA1
      rw [← hB.len] at wB1
      have HA := Lib.hid hA
      have HB := Lib.hid hB
      have HWA := Lib.hid wA2
      clear q_c0 q_c1 q_c2 q_c3 HS2 hX hd0 hd1 hb4 HKC hti htn hA hB wA2 wB2 c0 c1 c2 c3 HT HW
      go_wp2_with fail
      go_loopw [13] (fun j wr => ∃ m : Nat, j = .int .i64 m ∧ m ≤ nA ∧ m ≤ nB ∧ Hid (WA.take m = WB.take m) ∧ Below W5.heap.size W5 wr) (fun j _ => nA - (intOf j).toNat)
      case atStart => exact ⟨0, rfl, Nat.zero_le _, Nat.zero_le _, rfl, Below.refl _ _⟩
      case round =>
        obtain ⟨m, rfl, hmA, hmB, hm, hbl⟩ := hrel
        by_cases hml : m < nA ∧ m < nB
        · obtain ⟨mlA, mlB⟩ := hml
          obtain ⟨u, b1, o1, hu, -, ea, -, -, -, d1⟩ := (HA.out.below rStr_ok hbl).str mlA
          obtain ⟨z, b2, o2, hz, -, eb, -, -, -, d2⟩ := (HB.out.below rStr_ok hbl).str mlB
          subst ea
          subst eb
          have s1 : decide ((m : Int) < min (nA : Int) (nB : Int)) = true := decide_eq_true (by omega)
          by_cases huz : u = z
          · have s2 : (u.toList == z.toList) = true := str_yes huz
            have HM2 : Hid (WA.take (m + 1) = WB.take (m + 1)) := by show _ = _; rw [take_next hu, take_next hz, hm.out, huz]
            clear hm hu hz huz
            go_wp2_with fail
            obtain ⟨X, Wf, hX, hS1, hS2⟩ := family (fun V => Below wr.heap.size wr V) wr (Below.refl _ _)
            have HS2 := Lib.hid hS2
            have q_d1 := fun x => cell_later (hS1 x) d1
            have q_d2 := fun x => cell_later (hS1 x) d2
            clear hS1 hS2
            have hd0 : Below wr.heap.size wr wr.drew := (Below.refl _ _).drew
            refine wp_region_tree (Wf := Wf) 17 (.read 0 (.read 1 (.read 2 (.read 3 (.read 4 (.read 5 (.read 6 (.read 7 (.read 8 (.read 9 (.read 10 (.read 11 (.read 12 (.read 13 (.read 14 (.read 15 (.read 16 .fin))))))))))))))))) (by kernel_rfl) (by kernel_rfl) (fun _ _ d _ _ h => by cases d <;> exact h) (HS2.out _ hd0) ?_
            refine wpTree_read _ rfl (fun K hK => ?_); unfold rOp; go_simp; (refine hK _ ?_; clear hK K)
            refine wpTree_read _ rfl (fun K hK => ?_); unfold rOp; go_simp; (refine hK _ ?_; clear hK K)
            refine wpTree_read _ rfl (fun K hK => ?_); unfold rOp; go_simp; (refine hK _ ?_; clear hK K)
            refine wpTree_read _ rfl (fun K hK => ?_); unfold rOp; go_simp; (refine hK _ ?_; clear hK K)
            refine wpTree_read _ rfl (fun K hK => ?_); unfold rOp; go_simp; (refine hK _ ?_; clear hK K)
            refine wpTree_read _ rfl (fun K hK => ?_); unfold rOp; go_simp; (refine hK _ ?_; clear hK K)
            refine wpTree_read _ rfl (fun K hK => ?_); unfold rOp; go_simp; (refine hK _ ?_; clear hK K)
            refine wpTree_read _ rfl (fun K hK => ?_); unfold rOp; go_simp; (refine hK _ ?_; clear hK K)
            refine wpTree_read _ rfl (fun K hK => ?_); unfold rOp; go_simp; (refine hK _ ?_; clear hK K)
            refine wpTree_read _ rfl (fun K hK => ?_); unfold rOp; go_simp; (refine hK _ ?_; clear hK K)
            refine wpTree_read _ rfl (fun K hK => ?_); unfold rOp; go_simp; (refine hK _ ?_; clear hK K)
            refine wpTree_read _ rfl (fun K hK => ?_); unfold rOp; go_simp; (refine hK _ ?_; clear hK K)
            refine wpTree_read _ rfl (fun K hK => ?_); unfold rOp; go_simp; (refine hK _ ?_; clear hK K)
            refine wpTree_read _ rfl (fun K hK => ?_); unfold rOp; go_simp; (refine hK _ ?_; clear hK K)
            refine wpTree_read _ rfl (fun K hK => ?_); unfold rOp; go_simp; (refine hK _ ?_; clear hK K)
            refine wpTree_read _ rfl (fun K hK => ?_); unfold rOp; go_simp; (refine hK _ ?_; clear hK K)
            refine wpTree_read _ rfl (fun K hK => ?_); unfold rOp; go_simp; (refine hK _ ?_; clear hK K)
            refine wpTree_fin ?_
            go_wp2_with fail
            go_roundw
            case rel => exact ⟨m + 1, by go_num, by omega, by omega, HM2.out, hbl.trans (hd0.mono hbl.size)⟩
            case measure => simp [intOf]; omega
          · have s2 : (u.toList == z.toList) = false := str_no huz
            have hpos : 0 < nA := by omega
            clear hu hz huz
            go_wp2_with fail
            obtain ⟨X, Wf, hX, hS1, hS2⟩ := family (fun V => Below wr.heap.size wr V) wr (Below.refl _ _)
            have HS2 := Lib.hid hS2
            have q_d1 := fun x => cell_later (hS1 x) d1
            have q_d2 := fun x => cell_later (hS1 x) d2
            clear hS1 hS2
            have hd0 : Below wr.heap.size wr wr.drew := (Below.refl _ _).drew
            refine wp_region_tree (Wf := Wf) 17 (.read 0 (.read 1 (.read 2 (.read 3 (.read 4 (.read 5 (.read 6 (.read 7 (.read 8 (.read 9 (.read 10 (.read 11 (.read 12 (.read 13 (.read 14 (.read 15 (.read 16 .fin))))))))))))))))) (by kernel_rfl) (by kernel_rfl) (fun _ _ d _ _ h => by cases d <;> exact h) (HS2.out _ hd0) ?_
            refine wpTree_read _ rfl (fun K hK => ?_); unfold rOp; go_simp; (refine hK _ ?_; clear hK K)
            refine wpTree_read _ rfl (fun K hK => ?_); unfold rOp; go_simp; (refine hK _ ?_; clear hK K)
            refine wpTree_read _ rfl (fun K hK => ?_); unfold rOp; go_simp; (refine hK _ ?_; clear hK K)
            refine wpTree_read _ rfl (fun K hK => ?_); unfold rOp; go_simp; (refine hK _ ?_; clear hK K)
            refine wpTree_read _ rfl (fun K hK => ?_); unfold rOp; go_simp; (refine hK _ ?_; clear hK K)
            refine wpTree_read _ rfl (fun K hK => ?_); unfold rOp; go_simp; (refine hK _ ?_; clear hK K)
            refine wpTree_read _ rfl (fun K hK => ?_); unfold rOp; go_simp; (refine hK _ ?_; clear hK K)
            refine wpTree_read _ rfl (fun K hK => ?_); unfold rOp; go_simp; (refine hK _ ?_; clear hK K)
            refine wpTree_read _ rfl (fun K hK => ?_); unfold rOp; go_simp; (refine hK _ ?_; clear hK K)
            refine wpTree_read _ rfl (fun K hK => ?_); unfold rOp; go_simp; (refine hK _ ?_; clear hK K)
            refine wpTree_read _ rfl (fun K hK => ?_); unfold rOp; go_simp; (refine hK _ ?_; clear hK K)
            refine wpTree_read _ rfl (fun K hK => ?_); unfold rOp; go_simp; (refine hK _ ?_; clear hK K)
            refine wpTree_read _ rfl (fun K hK => ?_); unfold rOp; go_simp; (refine hK _ ?_; clear hK K)
            refine wpTree_read _ rfl (fun K hK => ?_); unfold rOp; go_simp; (refine hK _ ?_; clear hK K)
            refine wpTree_read _ rfl (fun K hK => ?_); unfold rOp; go_simp; (refine hK _ ?_; clear hK K)
            refine wpTree_read _ rfl (fun K hK => ?_); unfold rOp; go_simp; (refine hK _ ?_; clear hK K)
            refine wpTree_read _ rfl (fun K hK => ?_); unfold rOp; go_simp; (refine hK _ ?_; clear hK K)
            refine wpTree_fin ?_
            have hbV := hb.trans ((hbl.trans (hd0.mono hbl.size)).mono hb.size)
            have hAV := HA.out.below rStr_ok (hbl.trans (hd0.mono hbl.size))
            have hBV := HB.out.below rStr_ok (hbl.trans (hd0.mono hbl.size))
            clear d1 d2 q_d1 q_d2 HS2 hX hd0 s1 s2 HA HB mlA mlB
            generalize wr.drew = V at *
            clear hbl
            by_cases hm0 : m = 0
            · subst hm0
              have HA1 := Lib.hid (HAW.out _ hbV)
              clear hAV hBV
              go_wp2_with fail
              refine HA1.out.mono ?_
              rintro e W6 ⟨rfl, hb6⟩
              go_wp2
              go_ret
              exact ⟨rfl, hbV.trans (hb6.mono hbV.size)⟩
            · have t1 : ((m : Int) == 0) = false := by rw [beq_eq_false_iff_ne]; omega
              have t1' : (m == 0) = false := by rw [beq_eq_false_iff_ne]; omega
              have t2 : decide ((m : Int) > 12) = false := decide_eq_false (by omega)
              have t2' : decide (12 < (m : Int)) = false := decide_eq_false (by omega)
              have t3 : decide (12 < m) = false := decide_eq_false (by omega)
              have hpm : t % m < m := Nat.mod_lt _ (by omega)
              have hcA : m ≤ cA := by have := hAV.le; omega
              have hcB : m ≤ cB := by have := hBV.le; omega
              have hSA := hAV.take hmA (c' := cA) hcA
              have hSB := hBV.take hmB (c' := cB) hcB
              rw [← hm.out] at hSB
              obtain ⟨f, lw, N, hOF, hFI⟩ := src_calls hSA (by omega) (fun s hs => HWA.out s (List.mem_of_mem_take hs)) hpm (HE.out.below hbV)
              have hpe : (t : Int) % (m : Int) = ((t % m : Nat) : Int) := by simp
              generalize t % m = p at *
              have t4 : ((p : Int) != (t : Int) % (m : Int)) = false := by rw [hpe]; simp
              have HOF := Lib.hid hOF
              have HFI := Lib.hid hFI
              have HSA := Lib.hid hSA
              have HSB := Lib.hid hSB
              clear hOF hFI hSA hSB hAV hBV hm HWA
              go_wp2_with fail
              refine HOF.out.mono ?_
              rintro e W6 ⟨rfl, hb6⟩
              have hal : Below W6.heap.size W6 (W6.alloc (.cells #[.string f, .string lw, .int .i64 (N : Int)] 34)) := (Below.refl _ _).alloc (Nat.le_refl _) _
              obtain ⟨l0, l1, l2, -⟩ := box_cells3 (World.alloc_heap_new W6 (.cells #[.string f, .string lw, .int .i64 (N : Int)] 34))
              have hb7 := hb6.trans (hal.mono hb6.size)
              have HBV := Lib.hid hbV
              clear hb6 hal HOF hbV hpe
              go_wp2_with fail
              generalize W6.alloc (.cells #[.string f, .string lw, .int .i64 (N : Int)] 34) = W7 at *
              obtain ⟨X, Wf, hX, hS1, hS2⟩ := family (fun V => Below W7.heap.size W7 V) W7 (Below.refl _ _)
              have HS2 := Lib.hid hS2
              have q_l0 := fun x => cell_later (hS1 x) l0
              have q_l1 := fun x => cell_later (hS1 x) l1
              have q_l2 := fun x => cell_later (hS1 x) l2
              clear hS1 hS2
              have hd0 : Below W7.heap.size W7 W7.drew := (Below.refl _ _).drew
              refine wp_region_tree (Wf := Wf) 11 (.read 0 (.read 1 (.read 2 (.read 3 (.act 4 (.read 5 (.read 6 (.read 7 (.read 8 (.act 9 (.act 10 .fin))))))))))) (by kernel_rfl) (by kernel_rfl) (fun _ _ d _ _ h => by cases d <;> exact h) (HS2.out _ hd0) ?_
              refine wpTree_read _ rfl (fun K hK => ?_); unfold rOp; go_simp; (refine hK _ ?_; clear hK K)
              refine wpTree_read _ rfl (fun K hK => ?_); unfold rOp; go_simp; (refine hK _ ?_; clear hK K)
              refine wpTree_read _ rfl (fun K hK => ?_); unfold rOp; go_simp; (refine hK _ ?_; clear hK K)
              refine wpTree_read _ rfl (fun K hK => ?_); unfold rOp; go_simp; (refine hK _ ?_; clear hK K)
              refine wpTree_act _ rfl ?_
              have hb8 := hb7.trans (hd0.mono hb7.size)
              have HF := Lib.hid (HFI.out _ _ _ _ (HSB.out.below rStr_ok hb8) (HE.out.below (HBV.out.trans (hb8.mono HBV.out.size))))
              go_wp2_with fail
              refine HF.out.mono ?_
              rintro e W8 ⟨rfl, hb9⟩
              have hd1 := hd0.trans (hb9.mono hd0.size)
              go_wp2_with fail
              refine ⟨HS2.out _ hd1, ?_⟩
              refine wpTree_read _ rfl (fun K hK => ?_); unfold rOp; go_simp; (refine hK _ ?_; clear hK K)
              refine wpTree_read _ rfl (fun K hK => ?_); unfold rOp; go_simp; (refine hK _ ?_; clear hK K)
              refine wpTree_read _ rfl (fun K hK => ?_); unfold rOp; go_simp; (refine hK _ ?_; clear hK K)
              refine wpTree_read _ rfl (fun K hK => ?_); unfold rOp; go_simp; (refine hK _ ?_; clear hK K)
              refine wpTree_act _ rfl ?_
              go_wp2_with fail
              refine ⟨HS2.out _ hd1, ?_⟩
              refine wpTree_act _ rfl ?_
              go_wp2_with fail
              refine ⟨HS2.out _ hd1, ?_⟩
              refine wpTree_fin ?_
              have hbW := hb8.trans (hb9.mono hb8.size)
              have hSA8 := HSA.out.below rStr_ok hbW
              have hSB8 := HSB.out.below rStr_ok hbW
              have hb := HBV.out.trans (hbW.mono HBV.out.size)
              clear q_l0 q_l1 q_l2 HS2 hX hd0 hd1 hb7 hb8 hb9 HF HFI l0 l1 l2 HSA HSB
              go_wp2_with fail
              obtain ⟨X, Wf, hX, hS1, hS2⟩ := family (fun V => Below W8.heap.size W8 V) W8 (Below.refl _ _)
              have HS2 := Lib.hid hS2
              clear hS1 hS2
              have hd0 : Below W8.heap.size W8 W8.drew := (Below.refl _ _).drew
              refine wp_region_tree (Wf := Wf) 10 (.read 0 (.read 1 (.read 2 (.read 3 (.read 4 (.read 5 (.act 6 (.read 7 (.act 8 (.read 9 .fin)))))))))) (by kernel_rfl) (by kernel_rfl) (fun _ _ d _ _ h => by cases d <;> exact h) (HS2.out _ hd0) ?_
              have HQ := Lib.hid (eqStrs_any _ _ _ _ _ _ _ _ _ _ W8.drew (hSA8.below rStr_ok hd0) (hSB8.below rStr_ok hd0))
              rw [decide_eq_true rfl] at HQ
              have HA1 := Lib.hid (fun W (hd : Below W8.heap.size W8 W) => HAW.out W (hb.trans (hd.mono hb.size)))
              refine wpTree_read _ rfl (fun K hK => ?_); unfold rOp; go_simp; (refine hK _ ?_; clear hK K)
              refine wpTree_read _ rfl (fun K hK => ?_); unfold rOp; go_simp; (refine hK _ ?_; clear hK K)
              refine wpTree_read _ rfl (fun K hK => ?_); unfold rOp; go_simp; (refine hK _ ?_; clear hK K)
              refine wpTree_read _ rfl (fun K hK => ?_); unfold rOp; go_simp; (refine hK _ ?_; clear hK K)
              refine wpTree_read _ rfl (fun K hK => ?_); unfold rOp; go_simp; (refine hK _ ?_; clear hK K)
              refine wpTree_read _ rfl (fun K hK => ?_); unfold rOp; go_simp; (refine hK _ ?_; clear hK K)
              refine wpTree_act _ rfl ?_
              go_wp2_with fail
              refine HQ.out.mono ?_
              rintro e W9 ⟨rfl, hdq⟩
              have hd1 := hd0.trans (hdq.below _)
              go_wp2_with fail
              refine ⟨HS2.out _ hd1, ?_⟩
              refine wpTree_read _ rfl (fun K hK => ?_); unfold rOp; go_simp; (refine hK _ ?_; clear hK K)
              refine wpTree_act _ rfl ?_
              have HA2 := Lib.hid (HA1.out _ hd1)
              go_wp2_with fail
              refine HA2.out.mono ?_
              rintro e WX ⟨rfl, hbx⟩
              have hd2 := hd1.trans (hbx.mono hd1.size)
              go_wp2_with fail
              refine ⟨HS2.out _ hd2, ?_⟩
              refine wpTree_read _ rfl (fun K hK => ?_); unfold rOp; go_simp; (refine hK _ ?_; clear hK K)
              refine wpTree_fin ?_
              have hbZ := hb.trans (hd2.mono hb.size)
              clear HS2 hX hd0 hd1 hd2 hbx hdq HA1 HA2 HQ hSA8 hSB8
              go_wp2
              go_ret
              exact ⟨rfl, hbZ⟩
        · have s1 : decide ((m : Int) < min (nA : Int) (nB : Int)) = false := decide_eq_false (by omega)
          go_wp2_with fail
          have hE0 := HE.out.below (hb.trans (hbl.mono hb.size))
          obtain ⟨X, Wf, hX, hS1, hS2⟩ := family (fun V => Below wr.heap.size wr V) wr (Below.refl _ _)
          have HS2 := Lib.hid hS2
          clear hS1 hS2
          have hd0 : Below wr.heap.size wr wr.drew := (Below.refl _ _).drew
          refine wp_region_tree (Wf := Wf) 17 (.read 0 (.read 1 (.read 2 (.read 3 (.read 4 (.read 5 (.read 6 (.read 7 (.read 8 (.read 9 (.read 10 (.read 11 (.read 12 (.read 13 (.read 14 (.read 15 (.read 16 .fin))))))))))))))))) (by kernel_rfl) (by kernel_rfl) (fun _ _ d _ _ h => by cases d <;> exact h) (HS2.out _ hd0) ?_
          refine wpTree_read _ rfl (fun K hK => ?_); unfold rOp; go_simp; (refine hK _ ?_; clear hK K)
          refine wpTree_read _ rfl (fun K hK => ?_); unfold rOp; go_simp; (refine hK _ ?_; clear hK K)
          refine wpTree_read _ rfl (fun K hK => ?_); unfold rOp; go_simp; (refine hK _ ?_; clear hK K)
          refine wpTree_read _ rfl (fun K hK => ?_); unfold rOp; go_simp; (refine hK _ ?_; clear hK K)
          refine wpTree_read _ rfl (fun K hK => ?_); unfold rOp; go_simp; (refine hK _ ?_; clear hK K)
          refine wpTree_read _ rfl (fun K hK => ?_); unfold rOp; go_simp; (refine hK _ ?_; clear hK K)
          refine wpTree_read _ rfl (fun K hK => ?_); unfold rOp; go_simp; (refine hK _ ?_; clear hK K)
          refine wpTree_read _ rfl (fun K hK => ?_); unfold rOp; go_simp; (refine hK _ ?_; clear hK K)
          refine wpTree_read _ rfl (fun K hK => ?_); unfold rOp; go_simp; (refine hK _ ?_; clear hK K)
          refine wpTree_read _ rfl (fun K hK => ?_); unfold rOp; go_simp; (refine hK _ ?_; clear hK K)
          refine wpTree_read _ rfl (fun K hK => ?_); unfold rOp; go_simp; (refine hK _ ?_; clear hK K)
          refine wpTree_read _ rfl (fun K hK => ?_); unfold rOp; go_simp; (refine hK _ ?_; clear hK K)
          refine wpTree_read _ rfl (fun K hK => ?_); unfold rOp; go_simp; (refine hK _ ?_; clear hK K)
          refine wpTree_read _ rfl (fun K hK => ?_); unfold rOp; go_simp; (refine hK _ ?_; clear hK K)
          refine wpTree_read _ rfl (fun K hK => ?_); unfold rOp; go_simp; (refine hK _ ?_; clear hK K)
          refine wpTree_read _ rfl (fun K hK => ?_); unfold rOp; go_simp; (refine hK _ ?_; clear hK K)
          refine wpTree_read _ rfl (fun K hK => ?_); unfold rOp; go_simp; (refine hK _ ?_; clear hK K)
          refine wpTree_fin ?_
          have hbV := hb.trans ((hbl.trans (hd0.mono hbl.size)).mono hb.size)
          have hAV := HA.out.below rStr_ok (hbl.trans (hd0.mono hbl.size))
          have hBV := HB.out.below rStr_ok (hbl.trans (hd0.mono hbl.size))
          clear HS2 hX hd0 s1 HA HB hml hE0
          generalize wr.drew = V at *
          clear hbl
          by_cases hm0 : m = 0
          · subst hm0
            have HA1 := Lib.hid (HAW.out _ hbV)
            clear hAV hBV
            go_wp2_with fail
            refine HA1.out.mono ?_
            rintro e W6 ⟨rfl, hb6⟩
            go_wp2
            go_ret
            exact ⟨rfl, hbV.trans (hb6.mono hbV.size)⟩
          · have t1 : ((m : Int) == 0) = false := by rw [beq_eq_false_iff_ne]; omega
            have t1' : (m == 0) = false := by rw [beq_eq_false_iff_ne]; omega
            have t2 : decide ((m : Int) > 12) = false := decide_eq_false (by omega)
            have t2' : decide (12 < (m : Int)) = false := decide_eq_false (by omega)
            have t3 : decide (12 < m) = false := decide_eq_false (by omega)
            have hpm : t % m < m := Nat.mod_lt _ (by omega)
            have hcA : m ≤ cA := by have := hAV.le; omega
            have hcB : m ≤ cB := by have := hBV.le; omega
            have hSA := hAV.take hmA (c' := cA) hcA
            have hSB := hBV.take hmB (c' := cB) hcB
            rw [← hm.out] at hSB
            obtain ⟨f, lw, N, hOF, hFI⟩ := src_calls hSA (by omega) (fun s hs => HWA.out s (List.mem_of_mem_take hs)) hpm (HE.out.below hbV)
            have hpe : (t : Int) % (m : Int) = ((t % m : Nat) : Int) := by simp
            generalize t % m = p at *
            have t4 : ((p : Int) != (t : Int) % (m : Int)) = false := by rw [hpe]; simp
            have HOF := Lib.hid hOF
            have HFI := Lib.hid hFI
            have HSA := Lib.hid hSA
            have HSB := Lib.hid hSB
            clear hOF hFI hSA hSB hAV hBV hm HWA
            go_wp2_with fail
            refine HOF.out.mono ?_
            rintro e W6 ⟨rfl, hb6⟩
            have hal : Below W6.heap.size W6 (W6.alloc (.cells #[.string f, .string lw, .int .i64 (N : Int)] 34)) := (Below.refl _ _).alloc (Nat.le_refl _) _
            obtain ⟨l0, l1, l2, -⟩ := box_cells3 (World.alloc_heap_new W6 (.cells #[.string f, .string lw, .int .i64 (N : Int)] 34))
            have hb7 := hb6.trans (hal.mono hb6.size)
            have HBV := Lib.hid hbV
            clear hb6 hal HOF hbV hpe
            go_wp2_with fail
            generalize W6.alloc (.cells #[.string f, .string lw, .int .i64 (N : Int)] 34) = W7 at *
            obtain ⟨X, Wf, hX, hS1, hS2⟩ := family (fun V => Below W7.heap.size W7 V) W7 (Below.refl _ _)
            have HS2 := Lib.hid hS2
            have q_l0 := fun x => cell_later (hS1 x) l0
            have q_l1 := fun x => cell_later (hS1 x) l1
            have q_l2 := fun x => cell_later (hS1 x) l2
            clear hS1 hS2
            have hd0 : Below W7.heap.size W7 W7.drew := (Below.refl _ _).drew
            refine wp_region_tree (Wf := Wf) 11 (.read 0 (.read 1 (.read 2 (.read 3 (.act 4 (.read 5 (.read 6 (.read 7 (.read 8 (.act 9 (.act 10 .fin))))))))))) (by kernel_rfl) (by kernel_rfl) (fun _ _ d _ _ h => by cases d <;> exact h) (HS2.out _ hd0) ?_
            refine wpTree_read _ rfl (fun K hK => ?_); unfold rOp; go_simp; (refine hK _ ?_; clear hK K)
            refine wpTree_read _ rfl (fun K hK => ?_); unfold rOp; go_simp; (refine hK _ ?_; clear hK K)
            refine wpTree_read _ rfl (fun K hK => ?_); unfold rOp; go_simp; (refine hK _ ?_; clear hK K)
            refine wpTree_read _ rfl (fun K hK => ?_); unfold rOp; go_simp; (refine hK _ ?_; clear hK K)
            refine wpTree_act _ rfl ?_
            have hb8 := hb7.trans (hd0.mono hb7.size)
            have HF := Lib.hid (HFI.out _ _ _ _ (HSB.out.below rStr_ok hb8) (HE.out.below (HBV.out.trans (hb8.mono HBV.out.size))))
            go_wp2_with fail
            refine HF.out.mono ?_
            rintro e W8 ⟨rfl, hb9⟩
            have hd1 := hd0.trans (hb9.mono hd0.size)
            go_wp2_with fail
            refine ⟨HS2.out _ hd1, ?_⟩
            refine wpTree_read _ rfl (fun K hK => ?_); unfold rOp; go_simp; (refine hK _ ?_; clear hK K)
            refine wpTree_read _ rfl (fun K hK => ?_); unfold rOp; go_simp; (refine hK _ ?_; clear hK K)
            refine wpTree_read _ rfl (fun K hK => ?_); unfold rOp; go_simp; (refine hK _ ?_; clear hK K)
            refine wpTree_read _ rfl (fun K hK => ?_); unfold rOp; go_simp; (refine hK _ ?_; clear hK K)
            refine wpTree_act _ rfl ?_
            go_wp2_with fail
            refine ⟨HS2.out _ hd1, ?_⟩
            refine wpTree_act _ rfl ?_
            go_wp2_with fail
            refine ⟨HS2.out _ hd1, ?_⟩
            refine wpTree_fin ?_
            have hbW := hb8.trans (hb9.mono hb8.size)
            have hSA8 := HSA.out.below rStr_ok hbW
            have hSB8 := HSB.out.below rStr_ok hbW
            have hb := HBV.out.trans (hbW.mono HBV.out.size)
            clear q_l0 q_l1 q_l2 HS2 hX hd0 hd1 hb7 hb8 hb9 HF HFI l0 l1 l2 HSA HSB
            go_wp2_with fail
            obtain ⟨X, Wf, hX, hS1, hS2⟩ := family (fun V => Below W8.heap.size W8 V) W8 (Below.refl _ _)
            have HS2 := Lib.hid hS2
            clear hS1 hS2
            have hd0 : Below W8.heap.size W8 W8.drew := (Below.refl _ _).drew
            refine wp_region_tree (Wf := Wf) 10 (.read 0 (.read 1 (.read 2 (.read 3 (.read 4 (.read 5 (.act 6 (.read 7 (.act 8 (.read 9 .fin)))))))))) (by kernel_rfl) (by kernel_rfl) (fun _ _ d _ _ h => by cases d <;> exact h) (HS2.out _ hd0) ?_
            have HQ := Lib.hid (eqStrs_any _ _ _ _ _ _ _ _ _ _ W8.drew (hSA8.below rStr_ok hd0) (hSB8.below rStr_ok hd0))
            rw [decide_eq_true rfl] at HQ
            have HA1 := Lib.hid (fun W (hd : Below W8.heap.size W8 W) => HAW.out W (hb.trans (hd.mono hb.size)))
            refine wpTree_read _ rfl (fun K hK => ?_); unfold rOp; go_simp; (refine hK _ ?_; clear hK K)
            refine wpTree_read _ rfl (fun K hK => ?_); unfold rOp; go_simp; (refine hK _ ?_; clear hK K)
            refine wpTree_read _ rfl (fun K hK => ?_); unfold rOp; go_simp; (refine hK _ ?_; clear hK K)
            refine wpTree_read _ rfl (fun K hK => ?_); unfold rOp; go_simp; (refine hK _ ?_; clear hK K)
            refine wpTree_read _ rfl (fun K hK => ?_); unfold rOp; go_simp; (refine hK _ ?_; clear hK K)
            refine wpTree_read _ rfl (fun K hK => ?_); unfold rOp; go_simp; (refine hK _ ?_; clear hK K)
            refine wpTree_act _ rfl ?_
            go_wp2_with fail
            refine HQ.out.mono ?_
            rintro e W9 ⟨rfl, hdq⟩
            have hd1 := hd0.trans (hdq.below _)
            go_wp2_with fail
            refine ⟨HS2.out _ hd1, ?_⟩
            refine wpTree_read _ rfl (fun K hK => ?_); unfold rOp; go_simp; (refine hK _ ?_; clear hK K)
            refine wpTree_act _ rfl ?_
            have HA2 := Lib.hid (HA1.out _ hd1)
            go_wp2_with fail
            refine HA2.out.mono ?_
            rintro e WX ⟨rfl, hbx⟩
            have hd2 := hd1.trans (hbx.mono hd1.size)
            go_wp2_with fail
            refine ⟨HS2.out _ hd2, ?_⟩
            refine wpTree_read _ rfl (fun K hK => ?_); unfold rOp; go_simp; (refine hK _ ?_; clear hK K)
            refine wpTree_fin ?_
            have hbZ := hb.trans (hd2.mono hb.size)
            clear HS2 hX hd0 hd1 hd2 hbx hdq HA1 HA2 HQ hSA8 hSB8
            go_wp2
            go_ret
            exact ⟨rfl, hbZ⟩
    · have t0 : ((E : Int) != 0) = true := by simp [h0]
      have HA1 := Lib.hid (HAW.out _ hb)
      go_wp2_with fail
      refine HA1.out.mono ?_
      rintro e W3 ⟨rfl, hb4⟩
      go_wp2
      go_ret
      exact ⟨rfl, hb.trans (hb4.mono hb.size)⟩
end Go.Proofs.YtileoimcnhcfcaaDoor
