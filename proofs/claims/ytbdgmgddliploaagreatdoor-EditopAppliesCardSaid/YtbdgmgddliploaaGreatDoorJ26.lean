/- Joined: ECop. -/
import Derived.Test.YtbdgmgddliploaaGreatDoorJ24
import Derived.Test.YtbdgmgddliploaaGreatDoorJ13
import Derived.Test.YtbdgmgddliploaaGreatDoorJ21
set_option linter.unusedVariables false
set_option linter.unusedSimpArgs false
set_option maxRecDepth 100000
set_option maxHeartbeats 16000000
namespace Go.Proofs.YtbdgmgddliploaaGreatDoor
open Go.RowKit

theorem Sq.none_nil {α : Type} {R : Rel α} {k s : Nat} {S : Nat -> Prop} {w : World} {n c : Nat} {l : List α} (h : Sq R k s S w none n c l) : n = 0 /\ l = [] := by
  cases l with
  | nil => exact ⟨h.len, rfl⟩
  | cons x l => obtain ⟨_, _, _, e, _⟩ := h.2.2.2 0 x rfl; cases e
theorem cell_out {B : Nat} {A W : World} (h : Below B A W) {b j : Nat} {v : Value} (hc : A.cell? ⟨b, j, none⟩ = some v) (hb : b < B) : W.cell? ⟨b, j, none⟩ = some v := by rw [World.cell?_of_block (h.block b hb)]; exact hc
section
variable {α : Type} {e st size bytes sb : Nat} {z : Value} {enc : α -> List Value} {ops : Array Oper} {rest : List Oper} {o : Oper} {act : Act} {Q : Exit -> Act -> World -> Prop} {w w0 : World} {B : Nat} {a a1 : Option Addr} {n cap m c : Nat} {l ys : List α}
/-- 'append(own, row...)'. -/
theorem wpList_appR {R : Rel α} {S : Nat -> Prop} (hi : (Tryz.prog.info? e).map (fun i => (i.zero, i.size, i.bytes)) = some (some z, size, bytes)) (hu : Tryz.prog.underlying st = some (.slice e)) (hzs : z.cells.size = size) (hs0 : 0 < size) (hen : ∀ x, (enc x).length = size) (hone : ∀ x, ∀ v ∈ enc x, v.oneCell' = true)
    (hgd : o.guard = none) (s x : Operand) (ho : o.op = .call { callee := .builtin .append, args := #[s, x], argTypes := #[st, st] })
    (hs : act.eval s = .slice a n cap) (hx : act.eval x = .slice a1 m c) (hown : OwnQ e size enc w B a n cap l) (hsq : Sq R size sb S w a1 m c ys) (hRe : ∀ cs x, R S w cs x -> cs = enc x)
    (h63 : n + m <= maxLen) (hby : (n + m) * bytes <= 140737488355328) (hB : B <= w.heap.size) (hb : Below B w0 w)
    (h : ∀ a' c' w', OwnQ e size enc w' B a' (n + m) c' (l ++ ys) -> Below B w0 w' -> w.grownBy w' (Value.slice a n cap).ownBlock -> ((Value.slice a' (n + m) c').ownBlock = (Value.slice a n cap).ownBlock \/ (Value.slice a' (n + m) c').ownBlock = some w.heap.size) -> wpList Tryz.prog ops Q rest (act.put o.dst (.slice a' (n + m) c')) w') :
    wpList Tryz.prog ops Q (o :: rest) act w := by
  cases a1 with
  | none =>
    obtain ⟨rfl, rfl⟩ := hsq.none_nil
    obtain ⟨i0, hi0, -, -, -⟩ := info_parts hi
    refine wpList_app_nil hgd s x st ho B e i0 size c hu hi0 (.slice a n cap) n (l.flatMap enc) hs hown.2 hx ?_
    have hr := Below.refl w.heap.size w
    have := h a cap w (by simpa using hown) hb ⟨hr.os, hr.tape, hr.output, hr.size, fun _ _ _ => rfl⟩ (.inl rfl)
    simpa using this
  | some ad =>
    refine wpList_appQ hi hu hzs hs0 hen hone hgd s x ho hs hx hown hsq.len ?_ h63 hby hB hb h
    cases ys with
    | nil => intro j u hj; simp at hj
    | cons y ys =>
      obtain ⟨b, off, cs, ea, -⟩ := hsq.2.2.2 0 y rfl
      cases ea
      intro j u hj
      rw [Addr.add_lit]
      exact Sq.flat hsq hRe hen j u hj
end
/-- All blocks lie below M. -/
def InB {α : Type} (M : Nat) (a : Option Addr) (ps : List (Row × List α)) : Prop := (∀ x, a = some x -> x.block < M) /\ ∀ p ∈ ps, ∀ x, p.1.1 = some x -> x.block < M
theorem OwnG.inB {α : Type} {e1 e size : Nat} {enc : α -> List Value} {w : World} {B n cap : Nat} {a : Option Addr} {ps : List (Row × List α)} (h : OwnG e1 e size enc w B a n cap ps) : InB w.heap.size a ps := ⟨fun x hx => (h.1.lt x hx).2, fun p hp x hx => ((h.2.1.1 p hp).lt x hx).2⟩
theorem OwnG.keepOn {α : Type} {e1 e size : Nat} {enc : α -> List Value} {w w' : World} {B M n cap : Nat} {a : Option Addr} {ps : List (Row × List α)} {S : Nat -> Prop} (h : OwnG e1 e size enc w B a n cap ps) (hM : InB M a ps) (k : KeepS S w w') (hS : ∀ b, B <= b -> b < M -> S b) : OwnG e1 e size enc w' B a n cap ps :=
  ⟨h.1.keepS k fun x hx => hS _ (h.1.lt x hx).1 (hM.1 x hx), ⟨fun p hp => (h.2.1.1 p hp).keepS k fun x hx => hS _ ((h.2.1.1 p hp).lt x hx).1 (hM.2 p hp x hx), h.2.1.2⟩, h.2.2⟩
abbrev OwnT := OwnG (α := Tok) 46 76 6 Tok.cells
theorem box3r (w : World) (A B C : Array Value) (ta tb tc : TypeId) : ∃ W, W = (((w.alloc (.cells A ta)).alloc (.cells B tb)).alloc (.cells C tc)) /\ Below w.heap.size w W /\ W.heap.size = w.heap.size + 3 /\
    W.heap[w.heap.size]? = some (.cells A ta (0, 0)) /\ W.heap[w.heap.size + 1]? = some (.cells B tb (0, 0)) /\ W.heap[w.heap.size + 1 + 1]? = some (.cells C tc (0, 0)) := by
  obtain ⟨W, hW, hb, hs, g1, g2, g3, g4⟩ := box4b w A B C #[] ta tb tc tc
  have hl : Below ((((w.alloc (.cells A ta)).alloc (.cells B tb)).alloc (.cells C tc))).heap.size (((w.alloc (.cells A ta)).alloc (.cells B tb)).alloc (.cells C tc)) W := by rw [hW]; exact (Below.refl _ _).alloc (Nat.le_refl _) _
  have e : (((w.alloc (.cells A ta)).alloc (.cells B tb)).alloc (.cells C tc)).heap.size = w.heap.size + 3 := by simp
  refine ⟨_, rfl, (((Below.refl _ _).alloc (Nat.le_refl _) _).alloc (by simp) _).alloc (by simp; omega) _, e, ?_, ?_, ?_⟩
  · rw [<- hl.block _ (by omega)]; exact g1
  · rw [<- hl.block _ (by omega)]; exact g2
  · rw [<- hl.block _ (by omega)]; exact g3
def CopPost (v : CV) (x : Col) (w : World) (e : Ending) (w' : World) : Prop :=
  ∃ ta' tc' ca' cc' pt pc M, e = .returned (.agg #[.string v.sec, .slice v.sa v.sn v.sc, .slice ta' v.tn tc', .slice ca' v.cn cc']) /\ OwnT w' w.heap.size ta' v.tn tc' pt /\ pt.map (·.2) = x.toks /\ InB M ta' pt /\ w.heap.size <= M /\ M <= w'.heap.size /\ OwnC w' M ca' v.cn cc' pc /\ pc.map (·.2) = x.cols /\ Below w.heap.size w w'
theorem copied_ref (S : Nat -> Prop) (v : CV) (x : Col) (w : World) (h : RdC S w v x) : Calls Tryz.prog 42 #[v.val] w (CopPost v x w) := by
  unfold CopPost
  obtain ⟨sec, sa, sn, sc, ta, tn, tc, ca, cn, cc⟩ := v
  obtain ⟨-, -, -, h3, h4⟩ := h
  dsimp only at h3 h4 ⊢
  change Calls _ _ #[.agg #[.string sec, .slice sa sn sc, .slice ta tn tc, .slice ca cn cc]] _ _
  obtain ⟨W1, hW1, hb0, hs1, gX0, gR0, gY0⟩ := box3r w #[.string sec, .slice sa sn sc, .slice ta tn tc, .slice ca cn cc] #[.string ⟨#[]⟩, .slice none 0 0, .slice none 0 0, .slice none 0 0] #[.string sec, .slice sa sn sc, .slice none 0 0, .slice none 0 0] 26 26 26
  have HC3 := hiq ((h3.mono (rSl_ok rTok_ok) (S' := fun b => b < w.heap.size) (fun b _ h => h)).below (rSl_ok rTok_ok) hb0)
  have HTN := hiq h3.len
  have HCN := hiq h4.len
  have HC4 := hiq ((h4.mono (rSl_ok rInt_ok) (S' := fun b => b < w.heap.size) (fun b _ h => h)).below (rSl_ok rInt_ok) hb0)
  obtain ⟨c0, c1, c2, c3, -⟩ := box_cells4 gX0
  rw [hW1] at c0 c1 c2 c3
  clear h3 h4
  go_enter Tryz.func42, Tryz.ntmps42
  go_wp2
  rw [<- hW1] at *
  clear hW1 c0 c1 c2 c3
  go_loopw [4] (fun i wr => ∃ (k : Nat) (a' : Option Addr) (c' : Nat) (ps : List (Row × List Tok)), i = .int .i64 k /\ k <= tn /\ wr.heap[(w.heap.size + 1 + 1)]? = some (.cells #[.string sec, .slice sa sn sc, (.slice a' k c'), .slice none 0 0] 26 (0, 0)) /\ Hid (OwnT wr W1.heap.size a' k c' ps) /\ Hid (ps.map (·.2) = x.toks.take k) /\ KeepS (fun b => b < W1.heap.size /\ b ≠ (w.heap.size + 1 + 1)) W1 wr /\ Below w.heap.size w wr) (fun i _ => tn - (intOf i).toNat)
  case atStart => exact ⟨0, none, 0, [], rfl, Nat.zero_le _, gY0, OwnG.nil _ _ _ _ _ _, by show _ = _; simp, KeepS.refl _ _, hb0⟩
  case round =>
    obtain ⟨k, a', c', ps, rfl, hk, gY, hO1, hm, hK, hb⟩ := hrel
    have gX := hK.2 _ _ _ _ (by have := hs1; omega) gX0
    obtain ⟨c0, c1, c2, c3, -⟩ := box_cells4 gX
    obtain ⟨y0, y1, y2, y3, yf⟩ := box_cells4 gY
    have yfj := yf 2
    have hsz := hK.1
    by_cases hkl : k < tn
    · obtain ⟨r, b, off, a1, n1, k1, hu, -, ea, hSb, hbl, hr, d1⟩ := (HC3.out.keep (rSl_ok rTok_ok) (hK.mono (S' := fun b => b < w.heap.size) (fun b hb => by have := hs1; omega))).row hkl
      subst ea
      have hm2 : Hid (x.toks.take (k + 1) = x.toks.take k ++ [r]) := take_next hu
      have hrb := hr.bound
      have hnb := HC3.out.bound
      have HRR := hiq hr
      clear hu
      go_wp2_with fail
      obtain ⟨X, Wf, hX, hS1, hS2⟩ := family (fun V => Below W1.heap.size wr V) wr (Below.refl _ _)
      have HS2 := hiq hS2
      have q_c := fun x => cell_out (hS1 x) c2 (by have := hs1; omega)
      have q_y := fun x => cell_out (hS1 x) y2 (by have := hs1; omega)
      have q_d := fun x => cell_out (hS1 x) d1 (by have := hs1; omega)
      clear hS1 hS2
      have hd0 : Below W1.heap.size wr wr.drew := (Below.refl _ _).drew
      refine wp_region_tree (Wf := Wf) 12 (.read 0 (.read 1 (.read 3 (.read 4 (.read 5 (.read 6 (.read 7 (.act 2 (.act 8 (.act 9 (.act 10 (.read 11 .fin)))))))))))) (by kernel_rfl) (by kernel_rfl) (fun _ _ d _ _ h => by cases d <;> exact h) (HS2.out _ hd0) ?_
      refine wpTree_read _ rfl (fun K hK => ?_); unfold rOp; go_simp; (refine hK _ ?_; clear hK K)
      refine wpTree_read _ rfl (fun K hK => ?_); unfold rOp; go_simp; (refine hK _ ?_; clear hK K)
      refine wpTree_read _ rfl (fun K hK => ?_); unfold rOp; go_simp; (refine hK _ ?_; clear hK K)
      refine wpTree_read _ rfl (fun K hK => ?_); unfold rOp; go_simp; (refine hK _ ?_; clear hK K)
      refine wpTree_read _ rfl (fun K hK => ?_); unfold rOp; go_simp; (refine hK _ ?_; clear hK K)
      refine wpTree_read _ rfl (fun K hK => ?_); unfold rOp; go_simp; (refine hK _ ?_; clear hK K)
      refine wpTree_read _ rfl (fun K hK => ?_); unfold rOp; go_simp; (refine hK _ ?_; clear hK K)
      clear q_c q_y q_d
      refine wpTree_act _ rfl ?_
      have hl0 : OwnQ 76 6 Tok.cells (wr.alloc (.cells #[] 76)).drew wr.heap.size (some ⟨wr.heap.size, 0, none⟩) 0 0 [] := OwnQ.lit0 _ _ _ _ _ (Nat.le_refl _)
      have hd1 : Below wr.heap.size wr (wr.alloc (.cells #[] 76)).drew := ((Below.refl _ _).alloc (Nat.le_refl _) _).drew
      have HL0 := hiq hl0
      have HSQ := hiq (HRR.out.below rTok_ok hd1)
      have hB1 : wr.heap.size <= (wr.alloc (.cells #[] 76)).drew.heap.size := hd1.size
      clear hl0
      go_wp2_with fail
      refine ⟨HS2.out _ (hd1.mono hsz), ?_⟩
      refine wpTree_act _ rfl ?_
      have HI := infoT
      have HJ := infoTs
      go_wp2_with (at_builtin; go_loud (refine wpList_appR (l := []) (ys := r) HI Tryz.underlying46 rfl (by omega) tok_len tok_one rfl _ _ rfl rfl rfl HL0.out HSQ.out (fun _ _ h => h.1) (by unfold maxLen; omega) (by omega) hB1 hd1 ?_); intro a5 c5 w5 ho5 hb5 hg5 hv5)
      rw [List.nil_append] at ho5
      simp only [Nat.zero_add] at ho5 hv5 ⊢
      refine ⟨HS2.out _ (hb5.mono hsz), ?_⟩
      refine wpTree_act _ rfl ?_
      have hb6 : Below wr.heap.size wr (w5.alloc (.cells #[.slice a5 n1 c5] 46)) := hb5.alloc hb5.size _
      have HO1 := hiq ((hO1.out.below hb6).1)
      have ho6 := hiq (ho5.alloc (.cells #[.slice a5 n1 c5] 46))
      have HV : Hid (∀ j u, (([(a5, n1, c5)] : List Row).flatMap encR)[j]? = some u -> (w5.alloc (.cells #[.slice a5 n1 c5] 46)).cell? ((⟨w5.heap.size, 0, none⟩ : Addr).add j) = some u) := fun j u hj => lit_cells (by exact hj)
      have hB6 : W1.heap.size <= (w5.alloc (.cells #[.slice a5 n1 c5] 46)).heap.size := Nat.le_trans hsz hb6.size
      have hbB : Below W1.heap.size wr (w5.alloc (.cells #[.slice a5 n1 c5] 46)) := hb6.mono hsz
      clear hg5 hv5 ho5 HSQ HL0
      go_wp2_with fail
      refine ⟨HS2.out _ hbB, ?_⟩
      refine wpTree_act _ rfl ?_
      go_wp2_with (at_builtin; refine wpList_appQ (l := ps.map (·.1)) (ys := [(a5, n1, c5)]) HJ Tryz.underlying23 rfl (by omega) (fun _ => rfl) one_r rfl _ _ rfl rfl rfl HO1.out rfl HV.out (by unfold maxLen; omega) (by omega) hB6 hbB ?_; intro a7 c7 w7 ho7 hb7 hg7 hv7)
      refine ⟨HS2.out _ hb7, ?_⟩
      refine wpTree_read _ rfl (fun K hK => ?_); unfold rOp; go_simp; (refine hK _ ?_; clear hK K)
      refine wpTree_fin ?_
      have hP := hO1.out.push hb6 (p := ((a5, n1, c5), r)) ho6.out hsz ho7 hg7 hv7
      have gY7 := (hb7.block (w.heap.size + 1 + 1) (by have := hs1; omega)).trans gY
      obtain ⟨y0, y1, y2, y3, yf⟩ := box_cells4 gY7
      have yfj := yf 2
      have hk8 : KeepS (fun b => W1.heap.size <= b) w7 (w7.setCell ⟨(w.heap.size + 1 + 1), 2, none⟩ (.slice a7 (k + 1) c7)) := KeepS.setCell w7 (by have := hs1; omega) _
      have HP := hiq (hP.keepS hk8)
      have gY8 := heap_set_at (j := 2) gY7 (.slice a7 (k + 1) c7)
      have hk9 : KeepS (fun b => b < W1.heap.size /\ b ≠ (w.heap.size + 1 + 1)) W1 (w7.setCell ⟨(w.heap.size + 1 + 1), 2, none⟩ (.slice a7 (k + 1) c7)) :=
        (hK.trans (KeepS.belowB hb7 (Nat.le_trans hb6.size hg7.size) (fun b hb => hb.1))).trans (KeepS.setCell w7 (fun h => h.2 rfl) _)
      have hb9 : Below w.heap.size w (w7.setCell ⟨(w.heap.size + 1 + 1), 2, none⟩ (.slice a7 (k + 1) c7)) := (hb.trans (hb7.mono (by have := hs1; omega))).setCell (p := ⟨(w.heap.size + 1 + 1), 2, none⟩) (by show w.heap.size <= (w.heap.size + 1 + 1); omega) _
      have HZ := hiq (And.intro gY8 (And.intro hk9 hb9))
      clear hP ho7 hg7 hv7 gY7 gY8 hk8 hk9 hb9 yf HV HO1 ho6 HS2 hX hd0 hd1 hb5 hb6 hbB c0 c1 c2 c3 d1
      go_wp2
      go_roundw
      case rel => exact ⟨k + 1, a7, c7, _, by go_num, by omega, HZ.out.1, HP.out, by show _ = _; rw [hm2.out, List.map_append, hm.out]; rfl, HZ.out.2.1, HZ.out.2.2⟩
      case measure => simp [intOf]; omega
    · obtain rfl : tn = k := by omega
      have hpt : Hid (ps.map (·.2) = x.toks) := by show _ = _; rw [hm.out, HTN.out, List.take_length]
      have HOT := hO1
      have gRM := hK.2 _ _ _ _ (by omega) gR0
      have HC4M := hiq (HC4.out.keep (rSl_ok rInt_ok) (hK.mono (S' := fun b => b < w.heap.size) (fun b hb => by omega)))
      have hsM : w.heap.size + 3 <= wr.heap.size := by omega
      clear HC3 HC4 hm hO1 yf yfj gX0 hK
      go_wp2_with fail
      obtain ⟨WM, rfl⟩ : ∃ WM : World, WM = wr := ⟨_, rfl⟩
      obtain ⟨ta', rfl⟩ : ∃ ta', ta' = a' := ⟨_, rfl⟩
      obtain ⟨tc', rfl⟩ : ∃ tc', tc' = c' := ⟨_, rfl⟩
      obtain ⟨pt, rfl⟩ : ∃ pt, pt = ps := ⟨_, rfl⟩
      have gX0 := hiq gX
      have gY0 := gY
      have hbM := hb
      have HC4 := HC4M
      clear gX gY HC4M c0 c1 c2 c3 y0 y1 y2 y3 hsz hb
      go_loopw [5] (fun i wr => ∃ (k : Nat) (a' : Option Addr) (c' : Nat) (ps : List (Row × List Int)), i = .int .i64 k /\ k <= cn /\ wr.heap[(w.heap.size + 1 + 1)]? = some (.cells #[.string sec, .slice sa sn sc, .slice ta' tn tc', (.slice a' k c')] 26 (0, 0)) /\ Hid (OwnC wr WM.heap.size a' k c' ps) /\ Hid (ps.map (·.2) = x.cols.take k) /\ KeepS (fun b => b < WM.heap.size /\ b ≠ (w.heap.size + 1 + 1)) WM wr /\ Below w.heap.size w wr) (fun i _ => cn - (intOf i).toNat)
      case atStart => exact ⟨0, none, 0, [], rfl, Nat.zero_le _, gY0, OwnG.nil _ _ _ _ _ _, by show _ = _; simp, KeepS.refl _ _, hbM⟩
      case round =>
        obtain ⟨k, a', c', ps, rfl, hk, gY, hO1, hm, hK, hb⟩ := hrel
        have gX := hK.2 _ _ _ _ (by have := hsM; omega) gX0.out
        obtain ⟨c0, c1, c2, c3, -⟩ := box_cells4 gX
        obtain ⟨y0, y1, y2, y3, yf⟩ := box_cells4 gY
        have yfj := yf 3
        have hsz := hK.1
        by_cases hkl : k < cn
        · obtain ⟨r, b, off, a1, n1, k1, hu, -, ea, hSb, hbl, hr, d1⟩ := (HC4.out.keep (rSl_ok rInt_ok) (hK.mono (S' := fun b => b < w.heap.size) (fun b hb => by have := hsM; omega))).row hkl
          subst ea
          have hm2 : Hid (x.cols.take (k + 1) = x.cols.take k ++ [r]) := take_next hu
          have hrb := hr.bound
          have hnb := HC4.out.bound
          have HRR := hiq hr
          clear hu
          go_wp2_with fail
          obtain ⟨X, Wf, hX, hS1, hS2⟩ := family (fun V => Below WM.heap.size wr V) wr (Below.refl _ _)
          have HS2 := hiq hS2
          have q_c := fun x => cell_out (hS1 x) c3 (by have := hsM; omega)
          have q_y := fun x => cell_out (hS1 x) y3 (by have := hsM; omega)
          have q_d := fun x => cell_out (hS1 x) d1 (by have := hsM; omega)
          clear hS1 hS2
          have hd0 : Below WM.heap.size wr wr.drew := (Below.refl _ _).drew
          refine wp_region_tree (Wf := Wf) 12 (.read 0 (.read 1 (.read 3 (.read 4 (.read 5 (.read 6 (.read 7 (.act 2 (.act 8 (.act 9 (.act 10 (.read 11 .fin)))))))))))) (by kernel_rfl) (by kernel_rfl) (fun _ _ d _ _ h => by cases d <;> exact h) (HS2.out _ hd0) ?_
          refine wpTree_read _ rfl (fun K hK => ?_); unfold rOp; go_simp; (refine hK _ ?_; clear hK K)
          refine wpTree_read _ rfl (fun K hK => ?_); unfold rOp; go_simp; (refine hK _ ?_; clear hK K)
          refine wpTree_read _ rfl (fun K hK => ?_); unfold rOp; go_simp; (refine hK _ ?_; clear hK K)
          refine wpTree_read _ rfl (fun K hK => ?_); unfold rOp; go_simp; (refine hK _ ?_; clear hK K)
          refine wpTree_read _ rfl (fun K hK => ?_); unfold rOp; go_simp; (refine hK _ ?_; clear hK K)
          refine wpTree_read _ rfl (fun K hK => ?_); unfold rOp; go_simp; (refine hK _ ?_; clear hK K)
          refine wpTree_read _ rfl (fun K hK => ?_); unfold rOp; go_simp; (refine hK _ ?_; clear hK K)
          clear q_c q_y q_d
          refine wpTree_act _ rfl ?_
          have hl0 : OwnQ 3 1 encI (wr.alloc (.cells #[] 3)).drew wr.heap.size (some ⟨wr.heap.size, 0, none⟩) 0 0 [] := OwnQ.lit0 _ _ _ _ _ (Nat.le_refl _)
          have hd1 : Below wr.heap.size wr (wr.alloc (.cells #[] 3)).drew := ((Below.refl _ _).alloc (Nat.le_refl _) _).drew
          have HL0 := hiq hl0
          have HSQ := hiq (HRR.out.below rInt_ok hd1)
          have hB1 : wr.heap.size <= (wr.alloc (.cells #[] 3)).drew.heap.size := hd1.size
          clear hl0
          go_wp2_with fail
          refine ⟨HS2.out _ (hd1.mono hsz), ?_⟩
          refine wpTree_act _ rfl ?_
          have HI := Tryz.infoInt
          have HJ := Tryz.infoInts
          go_wp2_with (at_builtin; go_loud (refine wpList_appR (l := []) (ys := r) HI Tryz.underlying61 rfl (by omega) (fun _ => rfl) one_i rfl _ _ rfl rfl rfl HL0.out HSQ.out (fun _ _ h => h.1) (by unfold maxLen; omega) (by omega) hB1 hd1 ?_); intro a5 c5 w5 ho5 hb5 hg5 hv5)
          rw [List.nil_append] at ho5
          simp only [Nat.zero_add] at ho5 hv5 ⊢
          refine ⟨HS2.out _ (hb5.mono hsz), ?_⟩
          refine wpTree_act _ rfl ?_
          have hb6 : Below wr.heap.size wr (w5.alloc (.cells #[.slice a5 n1 c5] 61)) := hb5.alloc hb5.size _
          have HO1 := hiq ((hO1.out.below hb6).1)
          have ho6 := hiq (ho5.alloc (.cells #[.slice a5 n1 c5] 61))
          have HV : Hid (∀ j u, (([(a5, n1, c5)] : List Row).flatMap encR)[j]? = some u -> (w5.alloc (.cells #[.slice a5 n1 c5] 61)).cell? ((⟨w5.heap.size, 0, none⟩ : Addr).add j) = some u) := fun j u hj => lit_cells (by exact hj)
          have hB6 : WM.heap.size <= (w5.alloc (.cells #[.slice a5 n1 c5] 61)).heap.size := Nat.le_trans hsz hb6.size
          have hbB : Below WM.heap.size wr (w5.alloc (.cells #[.slice a5 n1 c5] 61)) := hb6.mono hsz
          clear hg5 hv5 ho5 HSQ HL0
          go_wp2_with fail
          refine ⟨HS2.out _ hbB, ?_⟩
          refine wpTree_act _ rfl ?_
          go_wp2_with (at_builtin; refine wpList_appQ (l := ps.map (·.1)) (ys := [(a5, n1, c5)]) HJ Tryz.underlying24 rfl (by omega) (fun _ => rfl) one_r rfl _ _ rfl rfl rfl HO1.out rfl HV.out (by unfold maxLen; omega) (by omega) hB6 hbB ?_; intro a7 c7 w7 ho7 hb7 hg7 hv7)
          refine ⟨HS2.out _ hb7, ?_⟩
          refine wpTree_read _ rfl (fun K hK => ?_); unfold rOp; go_simp; (refine hK _ ?_; clear hK K)
          refine wpTree_fin ?_
          have hP := hO1.out.push hb6 (p := ((a5, n1, c5), r)) ho6.out hsz ho7 hg7 hv7
          have gY7 := (hb7.block (w.heap.size + 1 + 1) (by have := hsM; omega)).trans gY
          obtain ⟨y0, y1, y2, y3, yf⟩ := box_cells4 gY7
          have yfj := yf 3
          have hk8 : KeepS (fun b => WM.heap.size <= b) w7 (w7.setCell ⟨(w.heap.size + 1 + 1), 3, none⟩ (.slice a7 (k + 1) c7)) := KeepS.setCell w7 (by have := hsM; omega) _
          have HP := hiq (hP.keepS hk8)
          have gY8 := heap_set_at (j := 3) gY7 (.slice a7 (k + 1) c7)
          have hk9 : KeepS (fun b => b < WM.heap.size /\ b ≠ (w.heap.size + 1 + 1)) WM (w7.setCell ⟨(w.heap.size + 1 + 1), 3, none⟩ (.slice a7 (k + 1) c7)) :=
            (hK.trans (KeepS.belowB hb7 (Nat.le_trans hb6.size hg7.size) (fun b hb => hb.1))).trans (KeepS.setCell w7 (fun h => h.2 rfl) _)
          have hb9 : Below w.heap.size w (w7.setCell ⟨(w.heap.size + 1 + 1), 3, none⟩ (.slice a7 (k + 1) c7)) := (hb.trans (hb7.mono (by have := hsM; omega))).setCell (p := ⟨(w.heap.size + 1 + 1), 3, none⟩) (by show w.heap.size <= (w.heap.size + 1 + 1); omega) _
          have HZ := hiq (And.intro gY8 (And.intro hk9 hb9))
          clear hP ho7 hg7 hv7 gY7 gY8 hk8 hk9 hb9 yf HV HO1 ho6 HS2 hX hd0 hd1 hb5 hb6 hbB c0 c1 c2 c3 d1
          go_wp2
          go_roundw
          case rel => exact ⟨k + 1, a7, c7, _, by go_num, by omega, HZ.out.1, HP.out, by show _ = _; rw [hm2.out, List.map_append, hm.out]; rfl, HZ.out.2.1, HZ.out.2.2⟩
          case measure => simp [intOf]; omega
        · obtain rfl : cn = k := by omega
          have gR := hK.2 _ _ _ _ (by omega) gRM
          have hm3 : ps.map (·.2) = x.cols := by rw [hm.out, HCN.out, List.take_length]
          obtain ⟨r0, r1, r2, r3, rf⟩ := box_cells4 gR
          have rf0 := rf 0
          have rf1 := rf 1
          have rf2 := rf 2
          have rf3 := rf 3
          have HZ := hiq (And.intro gR (And.intro hm3 (And.intro hK hb)))
          clear rf gR gX hm yf yfj hm3
          go_wp2
          obtain ⟨gR, hm3, hK, hb⟩ := HZ.out
          have hkf : KeepS (fun b => b ≠ (w.heap.size + 1)) wr (put4 wr (w.heap.size + 1) (.string sec) (.slice sa sn sc) (.slice ta' tn tc') (.slice a' cn c')) := put4_keep (by simp) _ _ _ _
          have hbf : Below w.heap.size w (put4 wr (w.heap.size + 1) (.string sec) (.slice sa sn sc) (.slice ta' tn tc') (.slice a' cn c')) := put4_below hb (by omega) _ _ _ _
          have hsf := put4_size wr (w.heap.size + 1) (.string sec) (.slice sa sn sc) (.slice ta' tn tc') (.slice a' cn c')
          obtain ⟨r0, r1, r2, r3, -⟩ := box_cells4 (put4_at gR (.string sec) (.slice sa sn sc) (.slice ta' tn tc') (.slice a' cn c'))
          change bodyPost _ _ _ _ _ (put4 wr (w.heap.size + 1) (.string sec) (.slice sa sn sc) (.slice ta' tn tc') (.slice a' cn c'))
          have hOC := hO1.out.keepOn (M := wr.heap.size) hO1.out.inB hkf (fun b h1 _ => by show b ≠ (w.heap.size + 1); omega)
          have hkt : KeepS (fun b => W1.heap.size <= b /\ b < WM.heap.size) WM (put4 wr (w.heap.size + 1) (.string sec) (.slice sa sn sc) (.slice ta' tn tc') (.slice a' cn c')) := (hK.mono (fun b hb => ⟨hb.2, by omega⟩)).trans (hkf.mono (fun b hb => by omega))
          have hOT := HOT.out.keepOn HOT.out.inB hkt (fun b h1 h2 => ⟨h1, h2⟩)
          generalize put4 wr (w.heap.size + 1) (.string sec) (.slice sa sn sc) (.slice ta' tn tc') (.slice a' cn c') = WF at *
          exact bodyPost_ret (v := .agg #[.string sec, .slice sa sn sc, .slice ta' tn tc', .slice a' cn c']) (by simp [results, Tryz.results42, go_sem, r0, r1, r2, r3]) rfl
            ⟨ta', tc', a', c', pt, ps, WM.heap.size, rfl, hOT.mono (by omega), hpt.out, HOT.out.inB, by omega, by omega, hOC, hm3, hbf⟩
end Go.Proofs.YtbdgmgddliploaaGreatDoor
