/- The texts of tokens; of a source. -/
import Derived.Test.YtileoimcnhcfcaaDoorECk2
import Derived.Test.YtileoimcnhcfcaaDoorEGre
set_option linter.unusedVariables false
set_option linter.unusedSimpArgs false
namespace Go.Proofs.YtileoimcnhcfcaaDoor
open Go.RowKit

theorem take_next {α : Type} {l : List α} {k : Nat} {x : α} (h : l[k]? = some x) : l.take (k + 1) = l.take k ++ [x] := by rw [List.take_add_one, h]; rfl
set_option maxRecDepth 100000 in
set_option maxHeartbeats 4000000 in
theorem words_any (S : Nat → Prop) (a : Option Addr) (n c : Nat) (l : List Tok) (w : World) (h : Toks S w a n c l) (hn : n ≤ 1000000) :
    Calls Tryd.prog 16 #[.slice a n c] w fun e w' => ∃ a' c', e = .returned (.slice a' n c') ∧ OwnQ 9 1 encS w' w.heap.size a' n c' (l.map Tok.text) ∧ Below w.heap.size w w' := by
  have HN := Lib.hid h.len
  have hL := h.bound
  go_enter Tryd.func16, Tryd.ntmps16
  go_wp2
  have hstart : OwnQ 9 1 encS w w.heap.size none 0 0 [] := OwnQ.nil _ _ _ _ _
  go_loopw [3, 8] (fun t i wr => ∃ (k : Nat) (a' : Option Addr) (c' : Nat), i = .int .i64 k ∧ k ≤ n ∧ t = .slice a' k c' ∧ Hid (OwnQ 9 1 encS wr w.heap.size a' k c' ((l.take k).map Tok.text)) ∧ Below w.heap.size w wr) (fun _ i _ => n - (intOf i).toNat)
  case atStart => exact ⟨0, none, 0, rfl, Nat.zero_le _, rfl, hstart, Below.refl _ _⟩
  case round =>
    clear hstart
    obtain ⟨k, a', c', rfl, hk, rfl, hO1, hb⟩ := hrel
    by_cases hkl : k < n
    · obtain ⟨t, b, off, hu, -, ea, -, hbl, -, d0⟩ := (h.below rTok_ok hb).tok hkl
      subst ea
      have hm2 : Hid ((l.take (k + 1)).map Tok.text = (l.take k).map Tok.text ++ [t.text]) := by show _ = _; rw [take_next hu, List.map_append]; rfl
      obtain ⟨tx, nm, pg, ln, fl, na⟩ := t
      obtain ⟨d1, d2, d3, d4, d5, d6⟩ := d0
      dsimp only at d1 d2 d3 d4 d5 d6 hm2
      clear hu
      have hb4 : Below wr.heap.size wr ((wr.alloc (.cells #[.string tx, .string nm, .string pg, .int .i64 ln, .int .i64 fl, .string na] 58)).alloc (.cells #[.string tx] 9)) := ((Below.refl _ _).alloc (Nat.le_refl _) _).alloc (by simp) _
      have HO1 := Lib.hid (hO1.out.below hb4)
      have hbB := hb.trans (hb4.mono hb.size)
      have HV : Hid (∀ j u, (([tx] : List ByteArray).flatMap encS)[j]? = some u → ((wr.alloc (.cells #[.string tx, .string nm, .string pg, .int .i64 ln, .int .i64 fl, .string na] 58)).alloc (.cells #[.string tx] 9)).cell? ((⟨wr.heap.size + 1, 0, none⟩ : Addr).add j) = some u) := fun j u hj => by
        have := lit_cells (w := wr.alloc (.cells #[.string tx, .string nm, .string pg, .int .i64 ln, .int .i64 fl, .string na] 58)) (e := 9) (cs := #[.string tx]) (j := j) (u := u) (by exact hj)
        simpa using this
      have HI := infoS
      have hB9 : w.heap.size ≤ ((wr.alloc (.cells #[.string tx, .string nm, .string pg, .int .i64 ln, .int .i64 fl, .string na] 58)).alloc (.cells #[.string tx] 9)).heap.size := hbB.size
      clear hO1 hb4
      go_wp2_with (at_builtin; refine wpList_appQ (l := (l.take k).map Tok.text) (ys := [tx]) HI Tryd.underlying22 rfl (by omega) (fun _ => rfl) one_s rfl _ _ rfl rfl rfl HO1.out rfl HV.out (by unfold maxLen; omega) (by omega) hB9 hbB ?_; intro a5 c5 w5 ho5 hb5 hg5 hv5)
      go_roundw
      case rel => exact ⟨k + 1, a5, c5, by go_num, by omega, rfl, by show OwnQ _ _ _ _ _ _ _ _ _; rw [hm2.out]; exact ho5, hb5⟩
      case measure => simp [intOf]; omega
    · obtain rfl : n = k := by omega
      have hO2 := hO1.out
      rw [HN.out, List.take_length, ← HN.out] at hO2
      go_wp2
      go_ret
      exact ⟨a', c', rfl, hO2, hb⟩
set_option maxRecDepth 100000 in
set_option maxHeartbeats 4000000 in
theorem text_any (S : Nat → Prop) (v : CV) (x : Col) (i : Nat) (w : World) (h : RdC S w v x) (hm : Sml x) (hE : Env w) (hv : x.err = 0) (hi : i < x.sigla.length) :
    Calls Tryd.prog 7 #[v.val, .int .i64 (i : Int)] w fun e w' => ∃ a n c, e = .returned (.tuple #[.slice a n c, .int .i64 0]) ∧ Strs (fun b => w.heap.size ≤ b) w' a n c ((x.tks i).map Tok.text) ∧ Below w.heap.size w w' := by
  have HC : Hid (∀ W, Below w.heap.size w W → Calls Tryd.prog 5 #[v.val] W fun e w' => e = .returned (.int .i64 0) ∧ Below W.heap.size W w') := fun W hb => by
    have := check_any S v x W (h.below hb) hm (hE.below hb)
    rw [hv] at this; exact this
  have HX := Lib.hid h
  have hT := h.2.2.2.1
  have hl1 : i < v.tn := by rw [hT.len, (err_iff.1 hv).1.len]; exact hi
  have hsn : i < v.sn := by rw [h.2.2.1.len]; exact hi
  have hsb := h.2.2.1.bound
  have htb := hT.bound
  have HL : Hid (∀ r ∈ x.toks, r.length ≤ 1024) := fun r hr => ((err_iff.1 hv).1.toks r hr).1
  have HSM : Hid (∀ r ∈ x.toks, ∀ t ∈ r, t.text.size ≤ 1000000) := fun r hr t ht => (hm.2 r hr t ht).1
  obtain ⟨V, hV⟩ : ∃ V, V = v := ⟨_, rfl⟩
  rw [← hV] at HX
  clear h hm hE hT hv hi
  obtain ⟨sec, sa, sn, sc, ta, tn, tc, ca, cn, cc⟩ := v
  have hVe : Hid (V = ⟨sec, sa, sn, sc, ta, tn, tc, ca, cn, cc⟩) := hV
  dsimp only at hl1 hsn hsb htb
  clear hV
  change Calls _ _ #[.agg #[.string sec, .slice sa sn sc, .slice ta tn tc, .slice ca cn cc], _] _ _
  change Hid (∀ W, _ → Calls _ _ #[.agg #[.string sec, .slice sa sn sc, .slice ta tn tc, .slice ca cn cc]] _ _) at HC
  have hb0 : Below w.heap.size w (w.alloc (.cells #[.string sec, .slice sa sn sc, .slice ta tn tc, .slice ca cn cc] 26)) := (Below.refl _ _).alloc (Nat.le_refl _) _
  obtain ⟨c0, c1, c2, c3, -⟩ := box_cells4 (World.alloc_heap_new w (.cells #[.string sec, .slice sa sn sc, .slice ta tn tc, .slice ca cn cc] 26))
  have HCC := Lib.hid (HC.out _ hb0)
  go_enter Tryd.func7, Tryd.ntmps7
  go_wp2_with fail
  generalize w.alloc (.cells #[.string sec, .slice sa sn sc, .slice ta tn tc, .slice ca cn cc] 26) = W1 at *
  refine HCC.out.mono ?_
  rintro e W2 ⟨rfl, hb2⟩
  have hb3 := hb0.trans (hb2.mono hb0.size)
  replace c0 := cell_later hb2 c0
  replace c1 := cell_later hb2 c1
  replace c2 := cell_later hb2 c2
  replace c3 := cell_later hb2 c3
  have hT : Tokss S W2 ta tn tc x.toks := by
    have := HX.out.below hb3
    rw [hVe.out] at this
    exact this.2.2.2.1
  obtain ⟨r, b, off, a', n', c', hu, hmem, ea, -, -, hr, d1⟩ := hT.row hl1
  subst ea
  have hn' : n' ≤ 1024 := by rw [hr.len]; exact HL.out r hmem
  have HW := Lib.hid (words_any S a' n' c' r W2 hr (by omega))
  have HR : Hid (x.tks i = r) := by show _ = _; unfold Col.tks; rw [hu]; rfl
  have HS := Lib.hid (HSM.out r hmem)
  have HB3 := Lib.hid hb3
  clear hr hu hmem hT HCC hb2 hb3 hb0
  go_wp2_with fail
  refine HW.out.mono ?_
  rintro e W3 ⟨a3, c4, rfl, hO, hb4⟩
  have hb5 := HB3.out.trans (hb4.mono HB3.out.size)
  have hSQ := hO.sq (R := rStr) (S := fun b => w.heap.size ≤ b) (s := 16) (fun _ => rfl) (by omega) (fun y hy => Nat.le_trans HB3.out.size (hO.lt y hy).1) (fun y hy => ⟨rfl, by
    obtain ⟨t, ht, rfl⟩ := List.mem_map.1 hy
    have := HS.out t ht; omega⟩)
  rw [← HR.out] at hSQ
  go_wp2
  go_ret2
  exact ⟨a3, n', c4, rfl, hSQ, hb5⟩
end Go.Proofs.YtileoimcnhcfcaaDoor
