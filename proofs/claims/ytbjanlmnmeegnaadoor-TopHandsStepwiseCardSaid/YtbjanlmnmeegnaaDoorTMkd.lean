/- transcript.marked: how long its answer is. -/
import Derived.Test.YtbjanlmnmeegnaaDoorTBld
import Derived.Test.YtbjanlmnmeegnaaDoorTReb
import Derived.Test.YtbjanlmnmeegnaaDoorTPlv
set_option linter.unusedVariables false
set_option linter.unusedSimpArgs false
namespace Go.Proofs.YtbjanlmnmeegnaaDoor
open Go.RowKit Go.Shelf

mutual
/-- A bound of how long the marks are. -/
def wgtN : Nd → Nat
  | .mk _ t _ ps => 2 * t.size + 64 + wgtL ps
def wgtL : List Nd → Nat
  | [] => 0
  | x :: r => wgtN x + wgtL r
end
theorem wgt_append : ∀ a b : List Nd, wgtL (a ++ b) = wgtL a + wgtL b
  | [], b => by simp [wgtL]
  | x :: a, b => by simp [wgtL, wgt_append a b, Nat.add_assoc]
mutual
theorem wgt_bytN : ∀ x : Nd, wgtN x ≤ 2 * bytN x + 64 * cntN x
  | .mk k t n ps => by have := wgt_bytL ps; simp only [wgtN, bytN, cntN]; omega
theorem wgt_bytL : ∀ l : List Nd, wgtL l ≤ 2 * bytL l + 64 * cntL l
  | [] => Nat.le_refl _
  | x :: r => by have h1 := wgt_bytN x; have h2 := wgt_bytL r; simp only [wgtL, bytL, cntL]; omega
end
mutual
/-- The kinds are there. -/
def kndN : Nd → Prop
  | .mk k _ _ ps => (1 ≤ k ∧ k ≤ 11) ∧ kndL ps
def kndL : List Nd → Prop
  | [] => True
  | x :: r => kndN x ∧ kndL r
end
theorem knd_mem : ∀ {l : List Nd} {x : Nd}, kndL l → x ∈ l → kndN x
  | [], _, _, hx => by cases hx
  | y :: r, x, h, hx => by
    rcases List.mem_cons.1 hx with rfl | hx
    · exact h.1
    · exact knd_mem h.2 hx
mutual
theorem fit_kndN {C Wd Nm : ByteArray → Prop} : ∀ (x : Nd) (dp : Bool), fitN C Wd Nm dp x → kndN x
  | .mk k t n ps, dp, h => ⟨h.1.1, fit_kndL ps true h.2.2⟩
theorem fit_kndL {C Wd Nm : ByteArray → Prop} : ∀ (l : List Nd) (dp : Bool), fitL C Wd Nm dp l → kndL l
  | [], _, _ => trivial
  | x :: r, dp, h => ⟨fit_kndN x dp h.1, fit_kndL r dp h.2⟩
end
def TEnvB (B : Nat) (w : World) : Prop := ∃ w0, TEnv w0 ∧ w0.heap.size ≤ B ∧ Below w0.heap.size w0 w
theorem TEnvB.env {B : Nat} {w : World} (h : TEnvB B w) : TEnv w := by obtain ⟨w0, h1, _, h3⟩ := h; exact h1.below h3
theorem TEnvB.below {B : Nat} {w w' : World} (h : TEnvB B w) (hb : Below B w w') : TEnvB B w' := by obtain ⟨w0, h1, h2, h3⟩ := h; exact ⟨w0, h1, h2, h3.trans (hb.mono h2)⟩
/-- How writing ends. -/
def WrtP (B b L : Nat) (w : World) (e : Ending) (w' : World) : Prop := e = .returned (.tuple #[]) ∧ (∃ r : List UInt8, Bld B b (Lib.byteCells r) w' ∧ r.length ≤ L) ∧ Below B w w' ∧ KeepT b w w'
theorem Vals.belowB {S : Nat → Prop} {B : Nat} {w w' : World} {a : Option Addr} {n c : Nat} {l : List Vl} (h : Vals S w a n c l) (hb : Below B w w') (hs : w.heap.size ≤ w'.heap.size) (hS : ∀ b, S b → b < B) : Vals S w' a n c l :=
  h.keep ⟨hs, fun b cs t fr hb1 hc => by rw [hb.block b (hS b hb1)]; exact hc⟩
theorem byteCells_append (a b : List UInt8) : Lib.byteCells (a ++ b) = Lib.byteCells a ++ Lib.byteCells b := by simp [Lib.byteCells]
theorem len_cat4 (o : List UInt8) (a b c d : ByteArray) : (o ++ (a ++ b ++ c ++ d).data.toList).length = o.length + (a.size + b.size + c.size + d.size) := by
  rw [List.length_append, Array.length_toList]
  show _ + (a ++ b ++ c ++ d).size = _
  rw [ByteArray.size_append, ByteArray.size_append, ByteArray.size_append]
theorem len_cat3 (o : List UInt8) (a b c : ByteArray) : (o ++ (a ++ b ++ c).data.toList).length = o.length + (a.size + b.size + c.size) := by
  rw [List.length_append, Array.length_toList]
  show _ + (a ++ b ++ c).size = _
  rw [ByteArray.size_append, ByteArray.size_append]
/-- What WriteString does to what was written. -/
theorem ws_any (B b : Nat) (out : List UInt8) (s : ByteArray) (w : World) (h : Bld B b (Lib.byteCells out) w) (hlen : out.length + s.size ≤ 10000000) (hBw : B ≤ w.heap.size) :
    Calls Tryd.prog 24 #[.pointer (some ⟨b, 0, none⟩), .string s] w fun e w' => e = .returned (.tuple #[.int .i64 s.size, .nilIface]) ∧ Bld B b (Lib.byteCells (out ++ s.data.toList)) w' ∧ Below B w w' ∧ KeepT b w w' := by
  refine (writeString_K B b _ s w h (by rw [Lib.byteCells_length]; omega) hBw).mono ?_
  rintro e w' ⟨rfl, h1, h2, h3⟩
  refine ⟨rfl, ?_, h2, h3⟩
  rw [byteCells_append]
  exact h1
set_option maxRecDepth 100000 in
set_option maxHeartbeats 4000000 in
theorem write_any (B b wb : Nat) (hbw : wb ≠ b) : ∀ (N : Nat) (S : Nat → Prop) (a : Option Addr) (n c : Nat) (vs : List Vl) (w : World) (out : List UInt8), cntL (vs.map Vl.er) ≤ N → kndL (vs.map Vl.er) → out.length + wgtL (vs.map Vl.er) ≤ 1000000 → (∀ b, S b → b < B) → Vals S w a n c vs → Bld B b (Lib.byteCells out) w → B ≤ w.heap.size → TEnvB B w →
    w.heap[wb]? = some (.cells #[.func (.func 23) #[] #[.pointer (some ⟨b, 0, none⟩), .pointer (some ⟨wb, 0, none⟩)]] 54 (0, 0)) →
    Calls Tryd.prog 23 #[.slice a n c, .pointer (some ⟨b, 0, none⟩), .pointer (some ⟨wb, 0, none⟩)] w (WrtP B b (out.length + wgtL (vs.map Vl.er)) w) := by
  intro N
  induction N using Nat.strongRecOn with
  | _ N ih =>
    intro S a n c vs w out hN hK hW hS hv ho hB hE hw
    have HV := Lib.hid hv
    have HK := Lib.hid hK
    have HWG := Lib.hid hW
    have hnb := hv.2.2.1
    have HS := Lib.hid hS
    have HIH : Hid (∀ (v : Vl) (W : World) (o2 : List UInt8), v ∈ vs → Vals S W v.addr v.items.length v.cap v.items → Bld B b (Lib.byteCells o2) W → o2.length + wgtL (v.items.map Vl.er) ≤ 1000000 → B ≤ W.heap.size → TEnvB B W → W.heap[wb]? = some (.cells #[.func (.func 23) #[] #[.pointer (some ⟨b, 0, none⟩), .pointer (some ⟨wb, 0, none⟩)]] 54 (0, 0)) → Calls Tryd.prog 23 #[v.sl, .pointer (some ⟨b, 0, none⟩), .pointer (some ⟨wb, 0, none⟩)] W (WrtP B b (o2.length + wgtL (v.items.map Vl.er)) W)) := fun v W o2 hm hvv h1 h2 h3 h4 h5 => by
      have hc := cnt_mem (List.mem_map_of_mem (f := Vl.er) hm)
      rw [er_kind v, cntN] at hc
      have hk := knd_mem hK (List.mem_map_of_mem (f := Vl.er) hm)
      rw [er_kind v] at hk
      exact ih (cntL (v.items.map Vl.er)) (by omega) S _ _ _ v.items W o2 (Nat.le_refl _) hk.2 h2 hS hvv h1 h3 h4 h5
    have HO := Lib.hid ho
    have HE := Lib.hid hE
    have HW := Lib.hid hw
    clear hN hK hS hv ih hW ho hE hw
    go_enter Tryd.func23, Tryd.ntmps23
    go_wp2
    go_loopw [9] (fun i wr => ∃ (j : Nat) (o2 : List UInt8), i = .int .i64 j ∧ j ≤ n ∧ Hid (Bld B b (Lib.byteCells o2) wr) ∧ Hid (o2.length ≤ out.length + wgtL ((vs.take j).map Vl.er)) ∧ Below B w wr ∧ KeepT b w wr) (fun i _ => n - (intOf i).toNat)
    case atStart => exact ⟨0, out, rfl, Nat.zero_le _, HO.out, Nat.le_refl _, Below.refl _ _, KeepT.refl _ _⟩
    case round =>
      obtain ⟨j, o2, rfl, hj, hO2, hL, hBw, hKw⟩ := hrel
      by_cases hjl : j < n
      · have hBr : B ≤ wr.heap.size := Nat.le_trans hB hKw.1
        obtain ⟨v, b1, o1, h1, hmem, ea, hSb, -, ⟨d0, d1, d2, d3⟩, hr⟩ := (HV.out.belowB hBw hKw.1 HS.out).get hjl
        subst ea
        have hsp : vs.take (j + 1) = vs.take j ++ [v] := by rw [List.take_add_one, h1]; rfl
        have HNX : Hid (wgtL ((vs.take (j + 1)).map Vl.er) = wgtL ((vs.take j).map Vl.er) + wgtN v.er) := by
          show _ = _
          rw [hsp, List.map_append, wgt_append, List.map_cons, List.map_nil, wgtL, wgtL, Nat.add_zero]
        have HLE : Hid (out.length + wgtL ((vs.take j).map Vl.er) + wgtN v.er ≤ 1000000) := by
          have h2 : wgtL ((vs.take (j + 1)).map Vl.er) ≤ wgtL (vs.map Vl.er) := by
            conv => rhs; rw [← List.take_append_drop (j + 1) vs, List.map_append, wgt_append]
            omega
          have := HWG.out
          rw [HNX.out] at h2
          show _ ≤ _; omega
        have hkv := knd_mem HK.out (List.mem_map_of_mem (f := Vl.er) hmem)
        have HI := Lib.hid (fun W o2 => HIH.out v W o2 hmem)
        have HRD := Lib.hid hr
        have HBw := Lib.hid hBw
        have HKw := Lib.hid hKw
        have HBr := Lib.hid hBr
        have HEK := Lib.hid (er_kind v)
        rw [HEK.out] at hkv HNX HLE
        simp only [wgtN] at HNX HLE
        clear h1 hsp hmem hSb hr
        obtain ⟨k, nn, t, ax, cx, lx⟩ := v
        dsimp only [Vl.val, Vl.cells, Vl.kind, Vl.num, Vl.text, Vl.sl, Vl.addr, Vl.items, Vl.cap] at d0 d1 d2 d3 hkv HNX HLE HI
        obtain ⟨K, rfl⟩ : ∃ K : Nat, k = (K : Int) := ⟨k.toNat, by have := hkv.1; omega⟩
        have hk11 : K ≤ 11 := by have := hkv.1; omega
        have hk1 : 1 ≤ K := by have := hkv.1; omega
        have hb1 : Below wr.heap.size wr (wr.alloc (.cells #[.int .i64 (K : Int), .string t, .int .i64 nn, .slice ax lx.length cx] 37)) := (Below.refl _ _).alloc (Nat.le_refl _) _
        have hu1 : wr.heap.size < ((wr.alloc (.cells #[.int .i64 (K : Int), .string t, .int .i64 nn, .slice ax lx.length cx] 37))).heap.size := by simp
        have hE1 : TEnvB B (wr.alloc (.cells #[.int .i64 (K : Int), .string t, .int .i64 nn, .slice ax lx.length cx] 37)) := (HE.out.below hBw).below (hb1.mono hBr)
        obtain ⟨f0, f1, f2, f3⟩ := forms_k hE1.env hk11
        have HTG := Lib.hid (tag_len hk11)
        have hk12 : K < 12 := by omega
        obtain ⟨x0, x1, x2, x3, fx⟩ := box_cells4 (World.alloc_heap_new wr (.cells #[.int .i64 (K : Int), .string t, .int .i64 nn, .slice ax lx.length cx] 37))
        have HB1 := Lib.hid hb1
        have HE1 := Lib.hid hE1
        have hth : t.size ≤ 1000000 := by have := HLE.out; omega
        have HTH := Lib.hid hth
        have hol : o2.length ≤ 1000000 := by have := HLE.out; have := hL.out; omega
        have HOL := Lib.hid hol
        have HBZ : Hid (∀ x1 x2 x3 x4, Below B w ((wr.alloc (.cells #[.int .i64 (K : Int), .string t, .int .i64 nn, .slice ax lx.length cx] 37)).alloc (.cells #[.string x1, .bool x2, .bool x3, .bool x4] 46))) := fun x1 x2 x3 x4 => HBw.out.trans ((HB1.out.alloc (Nat.le_of_lt hu1) _).mono hBr)
        have HKZ : Hid (∀ x1 x2 x3 x4, KeepT b w ((wr.alloc (.cells #[.int .i64 (K : Int), .string t, .int .i64 nn, .slice ax lx.length cx] 37)).alloc (.cells #[.string x1, .bool x2, .bool x3, .bool x4] 46))) := fun x1 x2 x3 x4 => HKw.out.trans (KeepT.below (HB1.out.alloc (Nat.le_of_lt hu1) _))
        have HOZ : Hid (∀ x1 x2 x3 x4, Bld B b (Lib.byteCells o2) ((wr.alloc (.cells #[.int .i64 (K : Int), .string t, .int .i64 nn, .slice ax lx.length cx] 37)).alloc (.cells #[.string x1, .bool x2, .bool x3, .bool x4] 46))) := fun x1 x2 x3 x4 => hO2.out.below (HB1.out.alloc (Nat.le_of_lt hu1) _)
        have HPA : Hid (paF K = decide (7 ≤ K)) := rfl
        have HOB0 : Hid (b < wr.heap.size) := hO2.out.lt.2
        clear hb1 hE1 hBw hKw hth hol hO2 hkv HPA
        generalize tagF K = tg at *
        generalize hq1 : txF K = q1 at *
        generalize hq2 : nuF K = q2 at *
        generalize hq3 : paF K = q3 at *
        clear hq1 hq2 hq3
        have HBS : Hid (B ≤ (((wr.alloc (.cells #[.int .i64 (K : Int), .string t, .int .i64 nn, .slice ax lx.length cx] 37)).alloc (.cells #[.string tg, .bool q1, .bool q2, .bool q3] 46))).heap.size) := Nat.le_trans hB (HBZ.out tg q1 q2 q3).size
        by_cases hk : K = 1
        · have t1 : ((K : Int) == 1) = true := by simp [hk]
          clear hk
          have HWS := Lib.hid (ws_any B b o2 t ((wr.alloc (.cells #[.int .i64 (K : Int), .string t, .int .i64 nn, .slice ax lx.length cx] 37)).alloc (.cells #[.string tg, .bool q1, .bool q2, .bool q3] 46)) (HOZ.out tg q1 q2 q3) (by have := HTH.out; have := HOL.out; omega) HBS.out)
          go_wp2_with fail
          refine (HWS.out).mono ?_
          rintro e w4 ⟨rfl, ho4, hb4, hk4⟩
          have HB4 := Lib.hid ((HBZ.out tg q1 q2 q3).trans hb4)
          have HK4 := Lib.hid ((HKZ.out tg q1 q2 q3).trans hk4)
          have HO4 := Lib.hid ho4
          clear hb4 hk4 ho4 HWS
          go_wp2
          go_roundw
          case rel =>
            refine ⟨j + 1, o2 ++ t.data.toList, by go_num, by omega, HO4, ?_, HB4.out, HK4.out⟩
            have h1 := hL.out
            have h2 := HNX.out
            have h3 : t.data.toList.length = t.size := Array.length_toList
            show _ ≤ _
            rw [List.length_append]; omega
          case measure => simp [intOf]; omega
        · have t1 : ((K : Int) == 1) = false := by simp; omega
          clear hk
          cases q3
          · go_wp2_with fail
            have h60 : (⟨#[60]⟩ : ByteArray).size = 1 := rfl
            have htl : (⟨#[47, 62]⟩ : ByteArray).size ≤ 2 := by decide
            have hsz1 : ((wr.alloc (.cells #[.int .i64 (K : Int), .string t, .int .i64 nn, .slice ax lx.length cx] 37))).heap.size = wr.heap.size + 1 := by simp
            have hbz : Below ((wr.alloc (.cells #[.int .i64 (K : Int), .string t, .int .i64 nn, .slice ax lx.length cx] 37))).heap.size (wr.alloc (.cells #[.int .i64 (K : Int), .string t, .int .i64 nn, .slice ax lx.length cx] 37)) ((wr.alloc (.cells #[.int .i64 (K : Int), .string t, .int .i64 nn, .slice ax lx.length cx] 37)).alloc (.cells #[.string tg, .bool q1, .bool q2, .bool false] 46)) := (Below.refl _ _).alloc (Nat.le_refl _) _
            obtain ⟨g0, g1, g2, g3, fg⟩ := box_cells4 (World.alloc_heap_new (wr.alloc (.cells #[.int .i64 (K : Int), .string t, .int .i64 nn, .slice ax lx.length cx] 37)) (.cells #[.string tg, .bool q1, .bool q2, .bool false] 46))
            rw [hsz1] at g0 g1 g2 g3 fg
            replace x0 := cell_later hbz x0
            replace x1 := cell_later hbz x1
            replace x2 := cell_later hbz x2
            replace x3 := cell_later hbz x3
            have HVA : Hid (∀ W, Below (((wr.alloc (.cells #[.int .i64 (K : Int), .string t, .int .i64 nn, .slice ax lx.length cx] 37)).alloc (.cells #[.string tg, .bool q1, .bool q2, .bool false] 46))).heap.size ((wr.alloc (.cells #[.int .i64 (K : Int), .string t, .int .i64 nn, .slice ax lx.length cx] 37)).alloc (.cells #[.string tg, .bool q1, .bool q2, .bool false] 46)) W → Calls Tryd.prog 25 #[.agg #[.int .i64 (K : Int), .string t, .int .i64 nn, .slice ax lx.length cx]] W (ValP (t.size + 22) W)) := fun W hW => value_any K nn t ax cx lx W (by omega) (rd_iff.1 HRD.out).2.1 HTH.out ((HE1.out.env.below hbz).below hW)
            have hs1 : ¬ 9223372036854775807 < (⟨#[60]⟩ : ByteArray).size + tg.size := by have := HTG.out; omega
            have hs2 : ¬ 9223372036854775807 < 1 + tg.size := by have := HTG.out; omega
            have HF2 : Hid ((((wr.alloc (.cells #[.int .i64 (K : Int), .string t, .int .i64 nn, .slice ax lx.length cx] 37)).alloc (.cells #[.string tg, .bool q1, .bool q2, .bool false] 46))).heap[wr.heap.size + 1]? = some (.cells #[.string tg, .bool q1, .bool q2, .bool false] 46 (0, 0))) := by have := World.alloc_heap_new (wr.alloc (.cells #[.int .i64 (K : Int), .string t, .int .i64 nn, .slice ax lx.length cx] 37)) (.cells #[.string tg, .bool q1, .bool q2, .bool false] 46); rw [hsz1] at this; exact this
            have HX2 : Hid ((((wr.alloc (.cells #[.int .i64 (K : Int), .string t, .int .i64 nn, .slice ax lx.length cx] 37)).alloc (.cells #[.string tg, .bool q1, .bool q2, .bool false] 46))).heap[wr.heap.size]? = some (.cells #[.int .i64 (K : Int), .string t, .int .i64 nn, .slice ax lx.length cx] 37 (0, 0))) := (hbz.block _ hu1).trans (World.alloc_heap_new wr (.cells #[.int .i64 (K : Int), .string t, .int .i64 nn, .slice ax lx.length cx] 37))
            have HOB : Hid (b < wr.heap.size) := HOB0.out
            have HBQ := Lib.hid hbz
            clear d0 d1 d2 d3 f0 f1 f2 f3 fx fg hsz1 hbz
            obtain ⟨X, Wf, hX, hS1, hS2⟩ := family (fun V => Below ((wr.alloc (.cells #[.int .i64 (K : Int), .string t, .int .i64 nn, .slice ax lx.length cx] 37)).alloc (.cells #[.string tg, .bool q1, .bool q2, .bool false] 46)).heap.size ((wr.alloc (.cells #[.int .i64 (K : Int), .string t, .int .i64 nn, .slice ax lx.length cx] 37)).alloc (.cells #[.string tg, .bool q1, .bool q2, .bool false] 46)) V) ((wr.alloc (.cells #[.int .i64 (K : Int), .string t, .int .i64 nn, .slice ax lx.length cx] 37)).alloc (.cells #[.string tg, .bool q1, .bool q2, .bool false] 46)) (Below.refl _ _)
            have HS2 := Lib.hid hS2
            have q_x0 := fun x => cell_later (hS1 x) x0
            have q_x1 := fun x => cell_later (hS1 x) x1
            have q_x2 := fun x => cell_later (hS1 x) x2
            have q_x3 := fun x => cell_later (hS1 x) x3
            have q_g0 := fun x => cell_later (hS1 x) g0
            clear hS1 hS2
            have hd0 : Below ((wr.alloc (.cells #[.int .i64 (K : Int), .string t, .int .i64 nn, .slice ax lx.length cx] 37)).alloc (.cells #[.string tg, .bool q1, .bool q2, .bool false] 46)).heap.size ((wr.alloc (.cells #[.int .i64 (K : Int), .string t, .int .i64 nn, .slice ax lx.length cx] 37)).alloc (.cells #[.string tg, .bool q1, .bool q2, .bool false] 46)) ((wr.alloc (.cells #[.int .i64 (K : Int), .string t, .int .i64 nn, .slice ax lx.length cx] 37)).alloc (.cells #[.string tg, .bool q1, .bool q2, .bool false] 46)).drew := (Below.refl _ _).drew
            refine wp_region_tree (Wf := Wf) 7 (.read 0 (.read 1 (.read 2 (.read 3 (.act 4 (.read 5 (.read 6 .fin))))))) (by kernel_rfl) (by kernel_rfl) (fun _ _ d _ _ h => by cases d <;> exact h) (HS2.out _ hd0) ?_
            refine wpTree_read _ rfl (fun K hK => ?_); unfold rOp; go_simp; (refine hK _ ?_; clear hK K)
            refine wpTree_read _ rfl (fun K hK => ?_); unfold rOp; go_simp; (refine hK _ ?_; clear hK K)
            refine wpTree_read _ rfl (fun K hK => ?_); unfold rOp; go_simp; (refine hK _ ?_; clear hK K)
            refine wpTree_read _ rfl (fun K hK => ?_); unfold rOp; go_simp; (refine hK _ ?_; clear hK K)
            refine wpTree_act _ rfl ?_
            have HQ := Lib.hid (HVA.out _ hd0)
            go_wp2_with fail
            refine HQ.out.mono ?_
            rintro e V2 ⟨s, rfl, hsz, hst⟩
            have hd := hd0.trans (hst.mono hd0.size)
            go_wp2_with fail
            refine ⟨HS2.out _ hd, ?_⟩
            have HSZ := Lib.hid hsz
            have hs3 : ¬ 9223372036854775807 < ((⟨#[60]⟩ : ByteArray) ++ tg).size + s.size := by rw [ByteArray.size_append]; have := HTG.out; have := HTH.out; omega
            have hs4 : ¬ 9223372036854775807 < 1 + tg.size + s.size := by have := HTG.out; have := HTH.out; omega
            have hs5 : ¬ 9223372036854775807 < ((⟨#[60]⟩ : ByteArray) ++ tg ++ s).size + (⟨#[47, 62]⟩ : ByteArray).size := by rw [ByteArray.size_append, ByteArray.size_append]; have := HTG.out; have := HTH.out; omega
            have hs6 : ¬ 9223372036854775807 < 1 + tg.size + s.size + 2 := by have := HTG.out; have := HTH.out; omega
            have hs7 : ¬ 9223372036854775807 < 1 + tg.size + s.size + 1 := by have := HTG.out; have := HTH.out; omega
            refine wpTree_read _ rfl (fun K hK => ?_); unfold rOp; go_simp; (refine hK _ ?_; clear hK K)
            refine wpTree_read _ rfl (fun K hK => ?_); unfold rOp; go_simp; (refine hK _ ?_; clear hK K)
            refine wpTree_fin ?_
            have HWS := Lib.hid (ws_any B b o2 ((⟨#[60]⟩ : ByteArray) ++ tg ++ s ++ (⟨#[47, 62]⟩ : ByteArray)) V2 ((HOZ.out tg q1 q2 _).below hd) (by rw [ByteArray.size_append, ByteArray.size_append, ByteArray.size_append]; have := HTG.out; have := HTH.out; have := HOL.out; omega) (Nat.le_trans HBS.out hd.size))
            have HBV := Lib.hid ((HBZ.out tg q1 q2 _).trans (hd.mono HBS.out))
            have HKV := Lib.hid ((HKZ.out tg q1 q2 _).trans (KeepT.below hd))
            have HHD := Lib.hid hd
            clear h60 htl HS2 hX q_x0 q_x1 q_x2 q_x3 q_g0 HQ hst hd hd0 hsz hs3 hs4 hs5 hs6 hs7 x0 x1 x2 x3 g0 g1 g2 g3
            go_wp2_with fail
            refine HWS.out.mono ?_
            rintro e w4 ⟨rfl, ho4, hb4, hk4⟩
            have HB4 := Lib.hid (HBV.out.trans hb4)
            have HK4 := Lib.hid (HKV.out.trans hk4)
            have HO4 := Lib.hid ho4
            clear hb4 hk4 ho4 HWS
            go_wp2
            go_roundw
            case rel =>
              refine ⟨j + 1, _, by go_num, by omega, HO4, ?_, HB4.out, HK4.out⟩
              have h1 := hL.out
              have h2 := HNX.out
              have h3 := HTG.out
              have h4 := HSZ.out
              show _ ≤ _
              rw [len_cat4]
              have h60 : (⟨#[60]⟩ : ByteArray).size = 1 := rfl
              have htl : (⟨#[47, 62]⟩ : ByteArray).size = 2 := rfl
              omega
            case measure => simp [intOf]; omega
          · go_wp2_with fail
            have h60 : (⟨#[60]⟩ : ByteArray).size = 1 := rfl
            have htl : (⟨#[62]⟩ : ByteArray).size ≤ 2 := by decide
            have hsz1 : ((wr.alloc (.cells #[.int .i64 (K : Int), .string t, .int .i64 nn, .slice ax lx.length cx] 37))).heap.size = wr.heap.size + 1 := by simp
            have hbz : Below ((wr.alloc (.cells #[.int .i64 (K : Int), .string t, .int .i64 nn, .slice ax lx.length cx] 37))).heap.size (wr.alloc (.cells #[.int .i64 (K : Int), .string t, .int .i64 nn, .slice ax lx.length cx] 37)) ((wr.alloc (.cells #[.int .i64 (K : Int), .string t, .int .i64 nn, .slice ax lx.length cx] 37)).alloc (.cells #[.string tg, .bool q1, .bool q2, .bool true] 46)) := (Below.refl _ _).alloc (Nat.le_refl _) _
            obtain ⟨g0, g1, g2, g3, fg⟩ := box_cells4 (World.alloc_heap_new (wr.alloc (.cells #[.int .i64 (K : Int), .string t, .int .i64 nn, .slice ax lx.length cx] 37)) (.cells #[.string tg, .bool q1, .bool q2, .bool true] 46))
            rw [hsz1] at g0 g1 g2 g3 fg
            replace x0 := cell_later hbz x0
            replace x1 := cell_later hbz x1
            replace x2 := cell_later hbz x2
            replace x3 := cell_later hbz x3
            have HVA : Hid (∀ W, Below (((wr.alloc (.cells #[.int .i64 (K : Int), .string t, .int .i64 nn, .slice ax lx.length cx] 37)).alloc (.cells #[.string tg, .bool q1, .bool q2, .bool true] 46))).heap.size ((wr.alloc (.cells #[.int .i64 (K : Int), .string t, .int .i64 nn, .slice ax lx.length cx] 37)).alloc (.cells #[.string tg, .bool q1, .bool q2, .bool true] 46)) W → Calls Tryd.prog 25 #[.agg #[.int .i64 (K : Int), .string t, .int .i64 nn, .slice ax lx.length cx]] W (ValP (t.size + 22) W)) := fun W hW => value_any K nn t ax cx lx W (by omega) (rd_iff.1 HRD.out).2.1 HTH.out ((HE1.out.env.below hbz).below hW)
            have hs1 : ¬ 9223372036854775807 < (⟨#[60]⟩ : ByteArray).size + tg.size := by have := HTG.out; omega
            have hs2 : ¬ 9223372036854775807 < 1 + tg.size := by have := HTG.out; omega
            have HF2 : Hid ((((wr.alloc (.cells #[.int .i64 (K : Int), .string t, .int .i64 nn, .slice ax lx.length cx] 37)).alloc (.cells #[.string tg, .bool q1, .bool q2, .bool true] 46))).heap[wr.heap.size + 1]? = some (.cells #[.string tg, .bool q1, .bool q2, .bool true] 46 (0, 0))) := by have := World.alloc_heap_new (wr.alloc (.cells #[.int .i64 (K : Int), .string t, .int .i64 nn, .slice ax lx.length cx] 37)) (.cells #[.string tg, .bool q1, .bool q2, .bool true] 46); rw [hsz1] at this; exact this
            have HX2 : Hid ((((wr.alloc (.cells #[.int .i64 (K : Int), .string t, .int .i64 nn, .slice ax lx.length cx] 37)).alloc (.cells #[.string tg, .bool q1, .bool q2, .bool true] 46))).heap[wr.heap.size]? = some (.cells #[.int .i64 (K : Int), .string t, .int .i64 nn, .slice ax lx.length cx] 37 (0, 0))) := (hbz.block _ hu1).trans (World.alloc_heap_new wr (.cells #[.int .i64 (K : Int), .string t, .int .i64 nn, .slice ax lx.length cx] 37))
            have HOB : Hid (b < wr.heap.size) := HOB0.out
            have HBQ := Lib.hid hbz
            clear d0 d1 d2 d3 f0 f1 f2 f3 fx fg hsz1 hbz
            obtain ⟨X, Wf, hX, hS1, hS2⟩ := family (fun V => Below ((wr.alloc (.cells #[.int .i64 (K : Int), .string t, .int .i64 nn, .slice ax lx.length cx] 37)).alloc (.cells #[.string tg, .bool q1, .bool q2, .bool true] 46)).heap.size ((wr.alloc (.cells #[.int .i64 (K : Int), .string t, .int .i64 nn, .slice ax lx.length cx] 37)).alloc (.cells #[.string tg, .bool q1, .bool q2, .bool true] 46)) V) ((wr.alloc (.cells #[.int .i64 (K : Int), .string t, .int .i64 nn, .slice ax lx.length cx] 37)).alloc (.cells #[.string tg, .bool q1, .bool q2, .bool true] 46)) (Below.refl _ _)
            have HS2 := Lib.hid hS2
            have q_x0 := fun x => cell_later (hS1 x) x0
            have q_x1 := fun x => cell_later (hS1 x) x1
            have q_x2 := fun x => cell_later (hS1 x) x2
            have q_x3 := fun x => cell_later (hS1 x) x3
            have q_g0 := fun x => cell_later (hS1 x) g0
            clear hS1 hS2
            have hd0 : Below ((wr.alloc (.cells #[.int .i64 (K : Int), .string t, .int .i64 nn, .slice ax lx.length cx] 37)).alloc (.cells #[.string tg, .bool q1, .bool q2, .bool true] 46)).heap.size ((wr.alloc (.cells #[.int .i64 (K : Int), .string t, .int .i64 nn, .slice ax lx.length cx] 37)).alloc (.cells #[.string tg, .bool q1, .bool q2, .bool true] 46)) ((wr.alloc (.cells #[.int .i64 (K : Int), .string t, .int .i64 nn, .slice ax lx.length cx] 37)).alloc (.cells #[.string tg, .bool q1, .bool q2, .bool true] 46)).drew := (Below.refl _ _).drew
            refine wp_region_tree (Wf := Wf) 7 (.read 0 (.read 1 (.read 2 (.read 3 (.act 4 (.read 5 (.read 6 .fin))))))) (by kernel_rfl) (by kernel_rfl) (fun _ _ d _ _ h => by cases d <;> exact h) (HS2.out _ hd0) ?_
            refine wpTree_read _ rfl (fun K hK => ?_); unfold rOp; go_simp; (refine hK _ ?_; clear hK K)
            refine wpTree_read _ rfl (fun K hK => ?_); unfold rOp; go_simp; (refine hK _ ?_; clear hK K)
            refine wpTree_read _ rfl (fun K hK => ?_); unfold rOp; go_simp; (refine hK _ ?_; clear hK K)
            refine wpTree_read _ rfl (fun K hK => ?_); unfold rOp; go_simp; (refine hK _ ?_; clear hK K)
            refine wpTree_act _ rfl ?_
            have HQ := Lib.hid (HVA.out _ hd0)
            go_wp2_with fail
            refine HQ.out.mono ?_
            rintro e V2 ⟨s, rfl, hsz, hst⟩
            have hd := hd0.trans (hst.mono hd0.size)
            go_wp2_with fail
            refine ⟨HS2.out _ hd, ?_⟩
            have HSZ := Lib.hid hsz
            have hs3 : ¬ 9223372036854775807 < ((⟨#[60]⟩ : ByteArray) ++ tg).size + s.size := by rw [ByteArray.size_append]; have := HTG.out; have := HTH.out; omega
            have hs4 : ¬ 9223372036854775807 < 1 + tg.size + s.size := by have := HTG.out; have := HTH.out; omega
            have hs5 : ¬ 9223372036854775807 < ((⟨#[60]⟩ : ByteArray) ++ tg ++ s).size + (⟨#[62]⟩ : ByteArray).size := by rw [ByteArray.size_append, ByteArray.size_append]; have := HTG.out; have := HTH.out; omega
            have hs6 : ¬ 9223372036854775807 < 1 + tg.size + s.size + 2 := by have := HTG.out; have := HTH.out; omega
            have hs7 : ¬ 9223372036854775807 < 1 + tg.size + s.size + 1 := by have := HTG.out; have := HTH.out; omega
            refine wpTree_read _ rfl (fun K hK => ?_); unfold rOp; go_simp; (refine hK _ ?_; clear hK K)
            refine wpTree_read _ rfl (fun K hK => ?_); unfold rOp; go_simp; (refine hK _ ?_; clear hK K)
            refine wpTree_fin ?_
            have HWS := Lib.hid (ws_any B b o2 ((⟨#[60]⟩ : ByteArray) ++ tg ++ s ++ (⟨#[62]⟩ : ByteArray)) V2 ((HOZ.out tg q1 q2 _).below hd) (by rw [ByteArray.size_append, ByteArray.size_append, ByteArray.size_append]; have := HTG.out; have := HTH.out; have := HOL.out; omega) (Nat.le_trans HBS.out hd.size))
            have HBV := Lib.hid ((HBZ.out tg q1 q2 _).trans (hd.mono HBS.out))
            have HKV := Lib.hid ((HKZ.out tg q1 q2 _).trans (KeepT.below hd))
            have HHD := Lib.hid hd
            clear h60 htl HS2 hX q_x0 q_x1 q_x2 q_x3 q_g0 HQ hst hd hd0 hsz hs3 hs4 hs5 hs6 hs7 x0 x1 x2 x3 g0 g1 g2 g3
            go_wp2_with fail
            refine HWS.out.mono ?_
            rintro e w4 ⟨rfl, ho4, hb4, hk4⟩
            have HB4 := Lib.hid (HBV.out.trans hb4)
            have HK4 := Lib.hid (HKV.out.trans hk4)
            have HKW := Lib.hid ((KeepT.below (b := b) HHD.out).trans hk4)
            have HO4 := Lib.hid ho4
            have hne : wr.heap.size + 1 ≠ b ∧ wr.heap.size ≠ b := by
              have := HOB.out
              omega
            have HNE := Lib.hid hne
            have q1 := HKW.out.2 _ _ _ _ hne.1 (by decide) HF2.out
            have q2 := HKW.out.2 _ _ _ _ hne.2 (by decide) HX2.out
            obtain ⟨x0, x1, x2, x3, fx⟩ := box_cells4 q2
            obtain ⟨g0, g1, g2, g3, fg⟩ := box_cells4 q1
            have q3 := HK4.out.2 _ _ _ _ hbw (by decide) HW.out
            have cw := cell_of_one q3
            have HX4 := Lib.hid q2
            have HF4 := Lib.hid q1
            generalize hr4 : (o2 ++ (({ data := #[60] } : ByteArray) ++ tg ++ s ++ { data := #[62] }).data.toList) = r4 at *
            have hr4l : r4.length ≤ o2.length + t.size + 32 := by
              have h3 := HTG.out
              have h4 := HSZ.out
              rw [← hr4, len_cat4]
              have h60 : (⟨#[60]⟩ : ByteArray).size = 1 := rfl
              have htl : (⟨#[62]⟩ : ByteArray).size = 1 := rfl
              omega
            have hvi := (rd_iff.1 HRD.out).2.2.2
            have hBv4 := Nat.le_trans hB HB4.out.size
            have HRC := Lib.hid (HI.out w4 r4 (((hvi.below HB1.out).below HBQ.out).belowB ((HHD.out.mono HBS.out).trans hb4) (Nat.le_trans HHD.out.size hb4.size) HS.out) HO4.out (by have := HLE.out; have := hL.out; omega) hBv4 (HE.out.below HB4.out) q3)
            clear hb4 hk4 ho4 HWS hr4 hvi q1 q2 q3 hne
            go_wp2_with fail
            refine HRC.out.mono ?_
            rintro e w5 ⟨rfl, ⟨r5, ho5, hl5⟩, hb5, hk5⟩
            have q1 := hk5.2 _ _ _ _ HNE.out.1 (by decide) HF4.out
            have q2 := hk5.2 _ _ _ _ HNE.out.2 (by decide) HX4.out
            have HB5 := Lib.hid (HB4.out.trans hb5)
            have HK5 := Lib.hid (HK4.out.trans hk5)
            have HRL := Lib.hid hr4l
            have HR5 := Lib.hid hl5
            have hBv5 := Nat.le_trans hBv4 hb5.size
            have ht1 : (⟨#[60, 47]⟩ : ByteArray).size = 2 := rfl
            have ht2 : (⟨#[62]⟩ : ByteArray).size = 1 := rfl
            have hs3 : ¬ 9223372036854775807 < (⟨#[60, 47]⟩ : ByteArray).size + tg.size := by have := HTG.out; omega
            have hs4 : ¬ 9223372036854775807 < 2 + tg.size := by have := HTG.out; omega
            have hs5 : ¬ 9223372036854775807 < ((⟨#[60, 47]⟩ : ByteArray) ++ tg).size + (⟨#[62]⟩ : ByteArray).size := by rw [ByteArray.size_append]; have := HTG.out; omega
            have hs6 : ¬ 9223372036854775807 < 2 + tg.size + 1 := by have := HTG.out; omega
            have HWS := Lib.hid (ws_any B b r5 ((⟨#[60, 47]⟩ : ByteArray) ++ tg ++ (⟨#[62]⟩ : ByteArray)) w5 ho5 (by rw [ByteArray.size_append, ByteArray.size_append]; have := HTG.out; have := HLE.out; have := hL.out; omega) hBv5)
            clear x0 x1 x2 x3 fx g0 g1 g2 g3 fg cw hb5 hk5 ho5 hr4l hl5 ht1 ht2 hBv4
            obtain ⟨x0, x1, x2, x3, fx⟩ := box_cells4 q2
            obtain ⟨g0, g1, g2, g3, fg⟩ := box_cells4 q1
            clear q1 q2
            go_wp2_with fail
            refine HWS.out.mono ?_
            rintro e w6 ⟨rfl, ho6, hb6, hk6⟩
            have HB6 := Lib.hid (HB5.out.trans hb6)
            have HK6 := Lib.hid (HK5.out.trans hk6)
            have HO6 := Lib.hid ho6
            clear ho6 hb6 hk6 HWS x0 x1 x2 x3 fx g0 g1 g2 g3 fg
            go_wp2
            go_roundw
            case rel =>
              refine ⟨j + 1, _, by go_num, by omega, HO6, ?_, HB6.out, HK6.out⟩
              have h1 := hL.out
              have h2 := HNX.out
              have h3 := HTG.out
              have h4 := HSZ.out
              have h5 := HR5.out
              have h6 := HRL.out
              show _ ≤ _
              rw [len_cat3]
              have h60 : (⟨#[60, 47]⟩ : ByteArray).size = 2 := rfl
              have htl : (⟨#[62]⟩ : ByteArray).size = 1 := rfl
              omega
            case measure => simp [intOf]; omega
      · obtain rfl : j = n := by omega
        have hL2 : Hid (o2.length ≤ out.length + wgtL (vs.map Vl.er)) := by
          have h0 : vs.take j = vs := List.take_of_length_le (by rw [← HV.out.1]; exact Nat.le_refl _)
          have := hL.out
          rw [h0] at this; exact this
        clear hL
        go_wp2
        go_end0
        exact ⟨rfl, ⟨o2, hO2.out, hL2.out⟩, hBw, hKw⟩
set_option maxRecDepth 100000 in
set_option maxHeartbeats 1000000 in
/-- transcript.marked. -/
theorem marked_any (S : Nat → Prop) (a : Option Addr) (n c : Nat) (vs : List Vl) (w : World) (hK : kndL (vs.map Vl.er)) (hW : wgtL (vs.map Vl.er) ≤ 1000000) (hS : ∀ b, S b → b < w.heap.size) (hv : Vals S w a n c vs) (hE : TEnv w) :
    Calls Tryd.prog 14 #[.slice a n c] w (ValP (wgtL (vs.map Vl.er)) w) := by
  have hb1 : Below w.heap.size w (((w.alloc (.cells #[.pointer none, .slice none 0 0] 53)).alloc (.cells #[.func (.func 23) #[] #[.pointer (some ⟨w.heap.size, 0, none⟩), .pointer (some ⟨w.heap.size + 1, 0, none⟩)]] 54))) := ((Below.refl _ _).alloc (Nat.le_refl _) _).alloc (by simp) _
  have hs1 : (w.alloc (.cells #[.pointer none, .slice none 0 0] 53)).heap.size = w.heap.size + 1 := by simp
  have hl : Below (w.alloc (.cells #[.pointer none, .slice none 0 0] 53)).heap.size (w.alloc (.cells #[.pointer none, .slice none 0 0] 53)) (((w.alloc (.cells #[.pointer none, .slice none 0 0] 53)).alloc (.cells #[.func (.func 23) #[] #[.pointer (some ⟨w.heap.size, 0, none⟩), .pointer (some ⟨w.heap.size + 1, 0, none⟩)]] 54))) := (Below.refl _ _).alloc (Nat.le_refl _) _
  have ho : Bld w.heap.size w.heap.size (Lib.byteCells []) (((w.alloc (.cells #[.pointer none, .slice none 0 0] 53)).alloc (.cells #[.func (.func 23) #[] #[.pointer (some ⟨w.heap.size, 0, none⟩), .pointer (some ⟨w.heap.size + 1, 0, none⟩)]] 54))) := Bld.below (Lib.fresh_isBuilder _ _ w) hl
  have hw : (((w.alloc (.cells #[.pointer none, .slice none 0 0] 53)).alloc (.cells #[.func (.func 23) #[] #[.pointer (some ⟨w.heap.size, 0, none⟩), .pointer (some ⟨w.heap.size + 1, 0, none⟩)]] 54))).heap[w.heap.size + 1]? = some (.cells #[.func (.func 23) #[] #[.pointer (some ⟨w.heap.size, 0, none⟩), .pointer (some ⟨w.heap.size + 1, 0, none⟩)]] 54 (0, 0)) := by
    have := World.alloc_heap_new (w.alloc (.cells #[.pointer none, .slice none 0 0] 53)) (.cells #[.func (.func 23) #[] #[.pointer (some ⟨w.heap.size, 0, none⟩), .pointer (some ⟨w.heap.size + 1, 0, none⟩)]] 54)
    rw [hs1] at this; exact this
  have HF := Lib.hid (write_any w.heap.size w.heap.size (w.heap.size + 1) (by omega) (cntL (vs.map Vl.er)) S a n c vs (((w.alloc (.cells #[.pointer none, .slice none 0 0] 53)).alloc (.cells #[.func (.func 23) #[] #[.pointer (some ⟨w.heap.size, 0, none⟩), .pointer (some ⟨w.heap.size + 1, 0, none⟩)]] 54))) [] (Nat.le_refl _) hK (by simpa using hW) hS (hv.below hb1) ho hb1.size ⟨w, hE, Nat.le_refl _, hb1⟩ hw)
  have HB1 := Lib.hid hb1
  clear hb1 hs1 hl ho hw hK hW hS hv hE
  go_enter Tryd.func14, Tryd.ntmps14
  go_wp2_with fail
  refine HF.out.mono ?_
  rintro e w3 ⟨rfl, ⟨r, ho, hr⟩, hb3, hk3⟩
  have HQ := Lib.hid (Tryd.Builder_String_any w.heap.size w.heap.size r w3 ho (Nat.le_trans HB1.out.size hb3.size))
  have HB3 := Lib.hid (HB1.out.trans hb3)
  have HR := Lib.hid hr
  clear ho hr hb3 hk3 HF HB1
  go_wp2_with fail
  refine HQ.out.mono ?_
  rintro e w4 ⟨rfl, hb4⟩
  have HB4 := Lib.hid (HB3.out.trans hb4)
  clear hb4 HQ HB3
  have hz : (⟨r.toArray⟩ : ByteArray).size ≤ wgtL (vs.map Vl.er) := by
    have := HR.out
    simpa [ByteArray.size] using this
  have HZ := Lib.hid hz
  clear hz HR
  generalize (⟨r.toArray⟩ : ByteArray) = s at *
  go_wp2
  go_ret
  exact ⟨s, rfl, HZ.out, HB4.out⟩
end Go.Proofs.YtbjanlmnmeegnaaDoor
