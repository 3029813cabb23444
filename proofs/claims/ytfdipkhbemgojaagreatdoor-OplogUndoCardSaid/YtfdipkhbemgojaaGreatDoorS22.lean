/- Joined: ESam3, ERCk, EAll, EAlp. -/
import Derived.Test.YtfdipkhbemgojaaGreatDoorS09
import Derived.Laws.StructEq
import Derived.Test.YtfdipkhbemgojaaGreatDoorS12
import Derived.Test.YtfdipkhbemgojaaGreatDoorS13
import Derived.Test.YtfdipkhbemgojaaGreatDoorS21
import Derived.Test.YtfdipkhbemgojaaGreatDoorS16
import Derived.Test.YtfdipkhbemgojaaGreatDoorS02
set_option linter.unusedVariables false
set_option linter.unusedSimpArgs false
set_option maxRecDepth 100000
set_option maxHeartbeats 16000000
namespace Go.Proofs.YtfdipkhbemgojaaGreatDoor
open Go.RowKit

theorem toList_iff (a b : ByteArray) : a.toList = b.toList ↔ a = b := by
  constructor
  · intro h
    by_cases e : a = b
    · exact e
    · have := str_no e; rw [h] at this; simp at this
  · rintro rfl; rfl
theorem tok_neq (W : World) (o p : Tok) : (binOp .neq 102 o.val p.val).run Tryz.prog W = .ok (.bool (decide (o ≠ p))) W := by
  obtain ⟨a0, a1, a2, a3, a4, a5⟩ := o
  obtain ⟨b0, b1, b2, b3, b4, b5⟩ := p
  unfold Tok.val
  simp [go_sem, toList_iff]
  by_cases h0 : a0 = b0 <;> by_cases h1 : a1 = b1 <;> by_cases h2 : a2 = b2 <;> by_cases h3 : a3 = b3 <;> by_cases h4 : a4 = b4 <;> by_cases h5 : a5 = b5 <;> simp [*]
end Go.Proofs.YtfdipkhbemgojaaGreatDoor

/- Are two lists equal? (printed by gen_esam.py) -/
namespace Go.Proofs.YtfdipkhbemgojaaGreatDoor
open Go.RowKit

theorem drop_eq_iff {α : Type} {l m : List α} {k : Nat} {u v : α} (hu : l[k]? = some u) (hv : m[k]? = some v) : l.drop k = m.drop k ↔ u = v /\ l.drop (k + 1) = m.drop (k + 1) := by
  obtain ⟨h1, e1⟩ := List.getElem?_eq_some_iff.1 hu
  obtain ⟨h2, e2⟩ := List.getElem?_eq_some_iff.1 hv
  rw [List.drop_eq_getElem_cons h1, List.drop_eq_getElem_cons h2, e1, e2, List.cons.injEq]
theorem dropEnds {α : Type} {l m : List α} {k : Nat} (h1 : l.length <= k) (h2 : m.length <= k) : l.drop k = m.drop k := by
  rw [List.drop_of_length_le h1, List.drop_of_length_le h2]
theorem sameStrings_ref (S T : Nat -> Prop) (a b : Option Addr) (n c m d : Nat) (l z : List ByteArray) (w : World) (h : Strs S w a n c l) (hz : Strs T w b m d z) : Calls Tryz.prog 58 #[.slice a n c, .slice b m d] w fun e w' => e = .returned (.bool (decide (l = z))) /\ Drew w w' := by
  have HN := hiq h.len
  have HM := hiq hz.len
  have hbn := h.bound
  have hbm := hz.bound
  have hE : Hid (decide (l = z) = decide (l.drop 0 = z.drop 0)) := rfl
  have hne : Hid (n ≠ m -> decide (l = z) = false) := fun q => decide_eq_false fun e => q (by rw [HN.out, HM.out, e])
  generalize hR : decide (l = z) = R at *
  clear hR
  by_cases hnm : n = m
  · subst hnm
    go_enter Tryz.func58, Tryz.ntmps58
    go_wp2
    go_loopw [5] (fun i wr => ∃ (k : Nat), i = .int .i64 k /\ k <= n /\ Hid (R = decide (l.drop k = z.drop k)) /\ Drew w wr) (fun i _ => n - (intOf i).toNat)
    case atStart => exact ⟨0, rfl, Nat.zero_le _, hE.out, Drew.refl _⟩
    case round =>
      obtain ⟨k, rfl, hk, hx, hd⟩ := hrel
      by_cases hkl : k < n
      · obtain ⟨u, b1, o1, hu, -, ea, -, -, hI1, d1⟩ := (h.below rStr_ok (hd.below _)).str hkl
        obtain ⟨v, b2, o2, hv, -, eb, -, -, hI2, d2⟩ := (hz.below rStr_ok (hd.below _)).str hkl
        subst ea
        subst eb
        have hst := drop_eq_iff hu hv
        by_cases he : u = v
        · have HN2 : Hid (R = decide (l.drop (k + 1) = z.drop (k + 1))) := by show _ = _; rw [hx.out, decide_eq_decide]; exact hst.trans ⟨fun q => q.2, fun q => ⟨he, q⟩⟩
          have t1 : (u.toList == v.toList) = true := str_yes he
          clear hx hu hv hst
          go_wp2
          go_quiet (fail)
          go_wp2
          go_roundw
          case rel => exact ⟨k + 1, by go_num, by omega, HN2.out, hd.drewN _⟩
          case measure => simp [intOf]; omega
        · have HR : Hid (R = false) := by show _ = _; rw [hx.out]; exact decide_eq_false fun q => he (hst.1 q).1
          have t1 : (u.toList == v.toList) = false := str_no he
          clear hx hu hv hst
          go_wp2
          go_quiet (fail)
          go_wp2
          go_ret
          exact ⟨ret_bool HR.out.symm, hd.drewN _⟩
      · have HR : Hid (R = true) := by show _ = _; rw [hx.out]; exact decide_eq_true (dropEnds (by rw [<- HN.out]; omega) (by rw [<- HM.out]; omega))
        clear hx
        go_wp2
        go_ret
        exact ⟨ret_bool HR.out.symm, hd⟩
  · have HR := hiq (hne.out hnm)
    have hnm' : ((n : Int) != (m : Int)) = true := by simp; omega
    go_enter Tryz.func58, Tryz.ntmps58
    go_wp2
    go_ret
    exact ⟨ret_bool HR.out.symm, Drew.refl _⟩
end Go.Proofs.YtfdipkhbemgojaaGreatDoor

/- Are two lists of lists equal? (printed by gen_esam.py) -/
namespace Go.Proofs.YtfdipkhbemgojaaGreatDoor
open Go.RowKit

theorem sameColumns_ref (S T : Nat -> Prop) (a b : Option Addr) (n c m d : Nat) (l z : List (List Int)) (w : World) (h : Numss S w a n c l) (hz : Numss T w b m d z) : Calls Tryz.prog 60 #[.slice a n c, .slice b m d] w fun e w' => e = .returned (.bool (decide (l = z))) /\ Drew w w' := by
  have HN := hiq h.len
  have HM := hiq hz.len
  have hbn := h.bound
  have hbm := hz.bound
  have hE : Hid (decide (l = z) = decide (l.drop 0 = z.drop 0)) := rfl
  have hne : Hid (n ≠ m -> decide (l = z) = false) := fun q => decide_eq_false fun e => q (by rw [HN.out, HM.out, e])
  generalize hR : decide (l = z) = R at *
  clear hR
  by_cases hnm : n = m
  · subst hnm
    go_enter Tryz.func60, Tryz.ntmps60
    go_wp2
    go_loopw [5] (fun i wr => ∃ (k : Nat), i = .int .i64 k /\ k <= n /\ Hid (R = decide (l.drop k = z.drop k)) /\ Drew w wr) (fun i _ => n - (intOf i).toNat)
    case atStart => exact ⟨0, rfl, Nat.zero_le _, hE.out, Drew.refl _⟩
    case round =>
      obtain ⟨k, rfl, hk, hx, hd⟩ := hrel
      by_cases hkl : k < n
      · obtain ⟨r, b1, o1, a1, n1, c1, hu, -, ea, -, -, hr, x1⟩ := (h.below (rSl_ok rInt_ok) (hd.below _)).row hkl
        obtain ⟨q, b2, o2, a2, n2, c2, hv, -, eb, -, -, hq, x2⟩ := (hz.below (rSl_ok rInt_ok) (hd.below _)).row hkl
        subst ea
        subst eb
        have hst := drop_eq_iff hu hv
        have HRL := hiq hr.len
        have HQL := hiq hq.len
        have hbr := hr.bound
        have hbq := hq.bound
        by_cases hnn : n1 = n2
        · subst hnn
          have HIN : Hid (R = (decide (r.drop 0 = q.drop 0) && decide (l.drop (k + 1) = z.drop (k + 1)))) := by
            show _ = _; rw [hx.out, Bool.eq_iff_iff, Bool.and_eq_true, decide_eq_true_eq, decide_eq_true_eq, decide_eq_true_eq]; exact hst
          have HS := hiq hst
          clear hx hu hv hst
          go_wp2
          go_quiet (fail)
          go_wp2
          rename_i nq
          have hd2 := hd.drewN nq
          obtain ⟨wo, hwo⟩ : ∃ wo, wo = wr.drewN nq := ⟨_, rfl⟩
          have hrO := hr.below rInt_ok ((Drew.refl wr).drewN nq |>.below _)
          have hqO := hq.below rInt_ok ((Drew.refl wr).drewN nq |>.below _)
          rw [<- hwo] at hd2 hrO hqO ⊢
          have y1 : wo.cell? ⟨b1, o1 + k, none⟩ = some (.slice a1 n1 c1) := by rw [hwo]; exact x1
          have y2 : wo.cell? ⟨b2, o2 + k, none⟩ = some (.slice a2 n1 c2) := by rw [hwo]; exact x2
          clear hwo x1 x2 hr hq
          go_loopw [6] (fun i wr2 => ∃ (j : Nat), i = .int .i64 j /\ j <= n1 /\ Hid (R = (decide (r.drop j = q.drop j) && decide (l.drop (k + 1) = z.drop (k + 1)))) /\ Drew wo wr2) (fun i _ => n1 - (intOf i).toNat)
          case atStart => exact ⟨0, rfl, Nat.zero_le _, HIN.out, Drew.refl _⟩
          case round =>
            obtain ⟨j, rfl, hj, hx2, hdw⟩ := hrel
            have z1 := clq (hdw.below wo.heap.size) y1
            have z2 := clq (hdw.below wo.heap.size) y2
            by_cases hjl : j < n1
            · obtain ⟨u, b1, o1, hu, -, ea, -, -, hI1, d1⟩ := (hrO.below rInt_ok (hdw.below _)).int hjl
              obtain ⟨v, b2, o2, hv, -, eb, -, -, hI2, d2⟩ := (hqO.below rInt_ok (hdw.below _)).int hjl
              subst ea
              subst eb
              have hst2 := drop_eq_iff hu hv
              by_cases he : u = v
              · have HN2 : Hid (R = (decide (r.drop (j + 1) = q.drop (j + 1)) && decide (l.drop (k + 1) = z.drop (k + 1)))) := by
                  have e : decide (r.drop j = q.drop j) = decide (r.drop (j + 1) = q.drop (j + 1)) := by rw [decide_eq_decide]; exact hst2.trans ⟨fun q => q.2, fun q => ⟨he, q⟩⟩
                  show _ = _; rw [hx2.out, e]
                have t1 : ((u : Int) != v) = false := by simp [he]
                clear hx2 hu hv hst2
                go_wp2
                go_quiet (fail)
                go_wp2
                go_roundw
                case rel => exact ⟨j + 1, by go_num, by omega, HN2.out, hdw.drewN _⟩
                case measure => simp [intOf]; omega
              · have HR : Hid (R = false) := by show _ = _; rw [hx2.out, decide_eq_false (fun q => he (hst2.1 q).1)]; rfl
                have t1 : ((u : Int) != v) = true := by simp [he]
                clear hx2 hu hv hst2
                go_wp2
                go_quiet (fail)
                go_wp2
                go_ret
                exact ⟨ret_bool HR.out.symm, (hd2.trans hdw).drewN _⟩
            · have HN2 : Hid (R = decide (l.drop (k + 1) = z.drop (k + 1))) := by
                show _ = _; rw [hx2.out, decide_eq_true (dropEnds (by rw [<- HRL.out]; omega) (by rw [<- HQL.out]; omega))]; rfl
              clear hx2
              go_wp2
              go_roundw
              case rel => exact ⟨k + 1, by go_num, by omega, HN2.out, hd2.trans hdw⟩
              case measure => simp [intOf]; omega
        · have HR : Hid (R = false) := by show _ = _; rw [hx.out]; exact decide_eq_false fun e => hnn (by rw [HRL.out, HQL.out, (hst.1 e).1])
          have hnm' : ((n1 : Int) != (n2 : Int)) = true := by simp; omega
          clear hx hu hv hst
          go_wp2
          go_quiet (fail)
          go_wp2
          go_ret
          exact ⟨ret_bool HR.out.symm, hd.drewN _⟩
      · have HR : Hid (R = true) := by show _ = _; rw [hx.out]; exact decide_eq_true (dropEnds (by rw [<- HN.out]; omega) (by rw [<- HM.out]; omega))
        clear hx
        go_wp2
        go_ret
        exact ⟨ret_bool HR.out.symm, hd⟩
  · have HR := hiq (hne.out hnm)
    have hnm' : ((n : Int) != (m : Int)) = true := by simp; omega
    go_enter Tryz.func60, Tryz.ntmps60
    go_wp2
    go_ret
    exact ⟨ret_bool HR.out.symm, Drew.refl _⟩
theorem sameTokens_ref (S T : Nat -> Prop) (a b : Option Addr) (n c m d : Nat) (l z : List (List Tok)) (w : World) (h : Tokss S w a n c l) (hz : Tokss T w b m d z) : Calls Tryz.prog 59 #[.slice a n c, .slice b m d] w fun e w' => e = .returned (.bool (decide (l = z))) /\ Drew w w' := by
  have HN := hiq h.len
  have HM := hiq hz.len
  have hbn := h.bound
  have hbm := hz.bound
  have hE : Hid (decide (l = z) = decide (l.drop 0 = z.drop 0)) := rfl
  have hne : Hid (n ≠ m -> decide (l = z) = false) := fun q => decide_eq_false fun e => q (by rw [HN.out, HM.out, e])
  generalize hR : decide (l = z) = R at *
  clear hR
  by_cases hnm : n = m
  · subst hnm
    go_enter Tryz.func59, Tryz.ntmps59
    go_wp2
    go_loopw [5] (fun i wr => ∃ (k : Nat), i = .int .i64 k /\ k <= n /\ Hid (R = decide (l.drop k = z.drop k)) /\ Drew w wr) (fun i _ => n - (intOf i).toNat)
    case atStart => exact ⟨0, rfl, Nat.zero_le _, hE.out, Drew.refl _⟩
    case round =>
      obtain ⟨k, rfl, hk, hx, hd⟩ := hrel
      by_cases hkl : k < n
      · obtain ⟨r, b1, o1, a1, n1, c1, hu, -, ea, -, -, hr, x1⟩ := (h.below (rSl_ok rTok_ok) (hd.below _)).row hkl
        obtain ⟨q, b2, o2, a2, n2, c2, hv, -, eb, -, -, hq, x2⟩ := (hz.below (rSl_ok rTok_ok) (hd.below _)).row hkl
        subst ea
        subst eb
        have hst := drop_eq_iff hu hv
        have HRL := hiq hr.len
        have HQL := hiq hq.len
        have hbr := hr.bound
        have hbq := hq.bound
        by_cases hnn : n1 = n2
        · subst hnn
          have HIN : Hid (R = (decide (r.drop 0 = q.drop 0) && decide (l.drop (k + 1) = z.drop (k + 1)))) := by
            show _ = _; rw [hx.out, Bool.eq_iff_iff, Bool.and_eq_true, decide_eq_true_eq, decide_eq_true_eq, decide_eq_true_eq]; exact hst
          have HS := hiq hst
          clear hx hu hv hst
          go_wp2
          go_quiet (fail)
          go_wp2
          rename_i nq
          have hd2 := hd.drewN nq
          obtain ⟨wo, hwo⟩ : ∃ wo, wo = wr.drewN nq := ⟨_, rfl⟩
          have hrO := hr.below rTok_ok ((Drew.refl wr).drewN nq |>.below _)
          have hqO := hq.below rTok_ok ((Drew.refl wr).drewN nq |>.below _)
          rw [<- hwo] at hd2 hrO hqO ⊢
          have y1 : wo.cell? ⟨b1, o1 + k, none⟩ = some (.slice a1 n1 c1) := by rw [hwo]; exact x1
          have y2 : wo.cell? ⟨b2, o2 + k, none⟩ = some (.slice a2 n1 c2) := by rw [hwo]; exact x2
          clear hwo x1 x2 hr hq
          go_loopw [6] (fun i wr2 => ∃ (j : Nat), i = .int .i64 j /\ j <= n1 /\ Hid (R = (decide (r.drop j = q.drop j) && decide (l.drop (k + 1) = z.drop (k + 1)))) /\ Drew wo wr2) (fun i _ => n1 - (intOf i).toNat)
          case atStart => exact ⟨0, rfl, Nat.zero_le _, HIN.out, Drew.refl _⟩
          case round =>
            obtain ⟨j, rfl, hj, hx2, hdw⟩ := hrel
            have z1 := clq (hdw.below wo.heap.size) y1
            have z2 := clq (hdw.below wo.heap.size) y2
            by_cases hjl : j < n1
            · obtain ⟨u, b1, o1, hu, -, ea, -, -, hI1, d0⟩ := (hrO.below rTok_ok (hdw.below _)).tok hjl
              obtain ⟨v, b2, o2, hv, -, eb, -, -, hI2, e0⟩ := (hqO.below rTok_ok (hdw.below _)).tok hjl
              subst ea
              subst eb
              have hst2 := drop_eq_iff hu hv
              by_cases he : u = v
              · have HN2 : Hid (R = (decide (r.drop (j + 1) = q.drop (j + 1)) && decide (l.drop (k + 1) = z.drop (k + 1)))) := by
                  have e : decide (r.drop j = q.drop j) = decide (r.drop (j + 1) = q.drop (j + 1)) := by rw [decide_eq_decide]; exact hst2.trans ⟨fun q => q.2, fun q => ⟨he, q⟩⟩
                  show _ = _; rw [hx2.out, e]
                obtain ⟨u1, u2, u3, u4, u5, u6⟩ := u
                obtain ⟨v1, v2, v3, v4, v5, v6⟩ := v
                obtain ⟨d1, d2, d3, d4, d5, d6⟩ := d0
                obtain ⟨e1, e2, e3, e4, e5, e6⟩ := e0
                dsimp only at d1 d2 d3 d4 d5 d6 e1 e2 e3 e4 e5 e6
                have hq : ∀ W, (binOp .neq 102 (.agg #[.string u1, .string u2, .string u3, .int .i64 u4, .int .i64 u5, .string u6]) (.agg #[.string v1, .string v2, .string v3, .int .i64 v4, .int .i64 v5, .string v6])).run Tryz.prog W = .ok (.bool false) W := fun W => (tok_neq W ⟨u1, u2, u3, u4, u5, u6⟩ ⟨v1, v2, v3, v4, v5, v6⟩).trans (by rw [decide_eq_false (by simpa using he)])
                clear hx2 hu hv hst2
                go_wp2
                go_quiet (fail)
                go_wp2
                go_roundw
                case rel => exact ⟨j + 1, by go_num, by omega, HN2.out, hdw.drewN _⟩
                case measure => simp [intOf]; omega
              · have HR : Hid (R = false) := by show _ = _; rw [hx2.out, decide_eq_false (fun q => he (hst2.1 q).1)]; rfl
                obtain ⟨u1, u2, u3, u4, u5, u6⟩ := u
                obtain ⟨v1, v2, v3, v4, v5, v6⟩ := v
                obtain ⟨d1, d2, d3, d4, d5, d6⟩ := d0
                obtain ⟨e1, e2, e3, e4, e5, e6⟩ := e0
                dsimp only at d1 d2 d3 d4 d5 d6 e1 e2 e3 e4 e5 e6
                have hq : ∀ W, (binOp .neq 102 (.agg #[.string u1, .string u2, .string u3, .int .i64 u4, .int .i64 u5, .string u6]) (.agg #[.string v1, .string v2, .string v3, .int .i64 v4, .int .i64 v5, .string v6])).run Tryz.prog W = .ok (.bool true) W := fun W => (tok_neq W ⟨u1, u2, u3, u4, u5, u6⟩ ⟨v1, v2, v3, v4, v5, v6⟩).trans (by rw [decide_eq_true he])
                clear hx2 hu hv hst2
                go_wp2
                go_quiet (fail)
                go_wp2
                go_ret
                exact ⟨ret_bool HR.out.symm, (hd2.trans hdw).drewN _⟩
            · have HN2 : Hid (R = decide (l.drop (k + 1) = z.drop (k + 1))) := by
                show _ = _; rw [hx2.out, decide_eq_true (dropEnds (by rw [<- HRL.out]; omega) (by rw [<- HQL.out]; omega))]; rfl
              clear hx2
              go_wp2
              go_roundw
              case rel => exact ⟨k + 1, by go_num, by omega, HN2.out, hd2.trans hdw⟩
              case measure => simp [intOf]; omega
        · have HR : Hid (R = false) := by show _ = _; rw [hx.out]; exact decide_eq_false fun e => hnn (by rw [HRL.out, HQL.out, (hst.1 e).1])
          have hnm' : ((n1 : Int) != (n2 : Int)) = true := by simp; omega
          clear hx hu hv hst
          go_wp2
          go_quiet (fail)
          go_wp2
          go_ret
          exact ⟨ret_bool HR.out.symm, hd.drewN _⟩
      · have HR : Hid (R = true) := by show _ = _; rw [hx.out]; exact decide_eq_true (dropEnds (by rw [<- HN.out]; omega) (by rw [<- HM.out]; omega))
        clear hx
        go_wp2
        go_ret
        exact ⟨ret_bool HR.out.symm, hd⟩
  · have HR := hiq (hne.out hnm)
    have hnm' : ((n : Int) != (m : Int)) = true := by simp; omega
    go_enter Tryz.func59, Tryz.ntmps59
    go_wp2
    go_ret
    exact ⟨ret_bool HR.out.symm, Drew.refl _⟩
end Go.Proofs.YtfdipkhbemgojaaGreatDoor

/- Same of collations (printed by gen_esam3.py). -/
namespace Go.Proofs.YtfdipkhbemgojaaGreatDoor
open Go.RowKit

theorem col_eq (x y : Col) : decide (x = y) = (decide (x.sec = y.sec) && decide (x.sigla = y.sigla) && decide (x.toks = y.toks) && decide (x.cols = y.cols)) := by
  obtain ⟨a, b, c, d⟩ := x
  obtain ⟨a', b', c', d'⟩ := y
  rw [Bool.eq_iff_iff]
  simp [and_assoc]
theorem box2 (w : World) (C D : Array Value) (tc td : TypeId) : Below w.heap.size w ((w.alloc (.cells C tc)).alloc (.cells D td)) /\ (∀ (i : Nat) (u : Value), C[i]? = some u -> ((w.alloc (.cells C tc)).alloc (.cells D td)).cell? ⟨w.heap.size, i, none⟩ = some u) /\ ∀ (i : Nat) (u : Value), D[i]? = some u -> ((w.alloc (.cells C tc)).alloc (.cells D td)).cell? ⟨w.heap.size + 1, i, none⟩ = some u := by
  refine ⟨((Below.refl _ _).alloc (Nat.le_refl _) _).alloc (by simp) _, fun i u h => ?_, fun i u h => ?_⟩
  · have b2 : Below (w.alloc (.cells C tc)).heap.size (w.alloc (.cells C tc)) ((w.alloc (.cells C tc)).alloc (.cells D td)) := (Below.refl _ _).alloc (Nat.le_refl _) _
    exact clq b2 ((World.cell?_alloc_at _ _ _ _ rfl).trans h)
  · exact (World.cell?_alloc_at _ _ _ _ (by simp)).trans h
theorem sameC_ref (S T : Nat -> Prop) (v u : CV) (x y : Col) (w : World) (h : RdC S w v x) (hz : RdC T w u y) : Calls Tryz.prog 23 #[v.val, u.val] w fun e w' => e = .returned (.bool (decide (x = y))) /\ Below w.heap.size w w' := by
  have HC := hiq (col_eq x y)
  obtain ⟨x1, xa, xn, xc, ya, yn, yc, za, zn, zc⟩ := v
  obtain ⟨u1, ua, un, uc, va, vn, vc, wa, wn, wc⟩ := u
  obtain ⟨hs, -, h2, h3, h4⟩ := h
  obtain ⟨hs', -, k2, k3, k4⟩ := hz
  dsimp only at hs hs' h2 h3 h4 k2 k3 k4
  rw [<- hs, <- hs'] at HC
  change Calls _ _ #[.agg #[.string x1, .slice xa xn xc, .slice ya yn yc, .slice za zn zc], .agg #[.string u1, .slice ua un uc, .slice va vn vc, .slice wa wn wc]] _ _
  obtain ⟨hb0, hC, hD⟩ := box2 w #[.string x1, .slice xa xn xc, .slice ya yn yc, .slice za zn zc] #[.string u1, .slice ua un uc, .slice va vn vc, .slice wa wn wc] 26 26
  have c0 := hC 0 _ rfl
  have c1 := hC 1 _ rfl
  have c2 := hC 2 _ rfl
  have c3 := hC 3 _ rfl
  have d0 := hD 0 _ rfl
  have d1 := hD 1 _ rfl
  have d2 := hD 2 _ rfl
  have d3 := hD 3 _ rfl
  have F2 : Hid (∀ W, Below w.heap.size w W -> Calls Tryz.prog 58 #[.slice xa xn xc, .slice ua un uc] W fun e w' => e = .returned (.bool (decide (x.sigla = y.sigla))) /\ Drew W w') := fun W hb => sameStrings_ref S T xa ua xn xc un uc _ _ W (h2.below rStr_ok hb) (k2.below rStr_ok hb)
  have F3 : Hid (∀ W, Below w.heap.size w W -> Calls Tryz.prog 59 #[.slice ya yn yc, .slice va vn vc] W fun e w' => e = .returned (.bool (decide (x.toks = y.toks))) /\ Drew W w') := fun W hb => sameTokens_ref S T ya va yn yc vn vc _ _ W (h3.below (rSl_ok rTok_ok) hb) (k3.below (rSl_ok rTok_ok) hb)
  have F4 : Hid (∀ W, Below w.heap.size w W -> Calls Tryz.prog 60 #[.slice za zn zc, .slice wa wn wc] W fun e w' => e = .returned (.bool (decide (x.cols = y.cols))) /\ Drew W w') := fun W hb => sameColumns_ref S T za wa zn zc wn wc _ _ W (h4.below (rSl_ok rInt_ok) hb) (k4.below (rSl_ok rInt_ok) hb)
  generalize decide (x.sigla = y.sigla) = B2 at *
  generalize decide (x.toks = y.toks) = B3 at *
  generalize decide (x.cols = y.cols) = B4 at *
  generalize decide (x = y) = R at *
  clear hC hD h2 h3 h4 k2 k3 k4 hs hs'
  have F2' := hiq (F2.out _ hb0)
  by_cases he : x1 = u1
  · have t1 : (x1.toList == u1.toList) = true := str_yes he
    rw [decide_eq_true he] at HC
    clear he
    go_enter Tryz.func23, Tryz.ntmps23
    go_wp2_with fail
    generalize (w.alloc (.cells #[.string x1, .slice xa xn xc, .slice ya yn yc, .slice za zn zc] 26)).alloc (.cells #[.string u1, .slice ua un uc, .slice va vn vc, .slice wa wn wc] 26) = W1 at *
    refine F2'.out.mono ?_
    rintro e W2 ⟨rfl, hd2⟩
    have hb2 := hb0.trans (hd2.below w.heap.size)
    have F3' := hiq (F3.out W2 hb2)
    replace c2 := clq (hd2.below W1.heap.size) c2
    replace c3 := clq (hd2.below W1.heap.size) c3
    replace d2 := clq (hd2.below W1.heap.size) d2
    replace d3 := clq (hd2.below W1.heap.size) d3
    cases B2 with
    | true =>
      go_wp2_with fail
      refine F3'.out.mono ?_
      rintro e W3 ⟨rfl, hd3⟩
      have hb3 := hb2.trans (hd3.below w.heap.size)
      have F4' := hiq (F4.out W3 hb3)
      replace c3 := clq (hd3.below W2.heap.size) c3
      replace d3 := clq (hd3.below W2.heap.size) d3
      cases B3 with
      | true =>
        go_wp2_with fail
        refine F4'.out.mono ?_
        rintro e W4 ⟨rfl, hd4⟩
        have hb4 := hb3.trans (hd4.below w.heap.size)
        go_wp2
        go_ret
        exact ⟨ret_bool (by rw [HC.out]; simp), hb4⟩
      | false =>
        go_wp2
        go_ret
        exact ⟨ret_bool (by rw [HC.out]; simp), hb3⟩
    | false =>
      go_wp2
      go_ret
      exact ⟨ret_bool (by rw [HC.out]; simp), hb2⟩
  · have t1 : (x1.toList == u1.toList) = false := str_no he
    rw [decide_eq_false he] at HC
    clear he
    go_enter Tryz.func23, Tryz.ntmps23
    go_wp2
    go_ret
    exact ⟨ret_bool (by rw [HC.out]; simp), hb0⟩
end Go.Proofs.YtfdipkhbemgojaaGreatDoor
namespace Go.Proofs.YtfdipkhbemgojaaGreatDoor
open Go.RowKit

theorem rck_early (S : Nat -> Prop) (v : CV) (x : Col) (o : Op) (w : World) (h : RdC S w v x) (hm : Sml x) (hq : x.err ≠ 0 \/ (o.kind < 1 \/ 4 < o.kind) \/ ((o.other ≠ 0 /\ o.kind ≠ 3) \/ (o.text.size ≠ 0 /\ o.kind ≠ 4))) :
    Calls Tryz.prog 55 #[v.val, o.val] w fun e w' => e = .returned (.int .i64 (opErr x o)) /\ Below w.heap.size w w' := by
  have HQ : Hid ((x.err ≠ 0 /\ opErr x o = 1) \/ (x.err = 0 /\ (o.kind < 1 \/ 4 < o.kind) /\ opErr x o = 8) \/ (x.err = 0 /\ ¬ (o.kind < 1 \/ 4 < o.kind) /\ ((o.other ≠ 0 /\ o.kind ≠ 3) \/ (o.text.size ≠ 0 /\ o.kind ≠ 4)) /\ opErr x o = 1)) := by
    show _ \/ _ \/ _
    by_cases h1 : x.err = 0
    · by_cases h2 : o.kind < 1 \/ 4 < o.kind
      · exact .inr (.inl ⟨h1, h2, opErr_8 h1 h2⟩)
      · have h3 := (hq.resolve_left (by simp [h1])).resolve_left h2
        exact .inr (.inr ⟨h1, h2, h3, opErr_a h1 h2 h3⟩)
    · exact .inl ⟨h1, opErr_1 h1⟩
  have HC : Hid (∀ W, Below w.heap.size w W -> Calls Tryz.prog 39 #[v.val] W fun e w' => e = .returned (.int .i64 x.err) /\ Below W.heap.size W w') := fun W hb => check_ref S v x W (h.below hb) hm
  generalize opErr x o = E at *
  generalize x.err = XE at *
  clear h hm hq
  obtain ⟨sec, sa, sn, sc, ta, tn, tc, ca, cn, cc⟩ := v
  obtain ⟨ok, og, ot, oo, ox⟩ := o
  dsimp only at *
  change Calls _ _ #[.agg #[.string sec, .slice sa sn sc, .slice ta tn tc, .slice ca cn cc], .agg #[.int .i64 ok, .string og, .int .i64 ot, .int .i64 oo, .string ox]] _ _
  change Hid (∀ W, _ -> Calls _ _ #[.agg #[.string sec, .slice sa sn sc, .slice ta tn tc, .slice ca cn cc]] _ _) at HC
  obtain ⟨hb0, hC, hO⟩ := box2 w #[.string sec, .slice sa sn sc, .slice ta tn tc, .slice ca cn cc] #[.int .i64 ok, .string og, .int .i64 ot, .int .i64 oo, .string ox] 26 32
  have c0 := hC 0 _ rfl
  have c1 := hC 1 _ rfl
  have c2 := hC 2 _ rfl
  have c3 := hC 3 _ rfl
  have o0 := hO 0 _ rfl
  have o1 := hO 1 _ rfl
  have o2 := hO 2 _ rfl
  have o3 := hO 3 _ rfl
  have o4 := hO 4 _ rfl
  have HCC := hiq (HC.out _ hb0)
  clear hC hO
  go_enter Tryz.func55, Tryz.ntmps55
  go_wp2_with fail
  generalize (w.alloc (.cells #[.string sec, .slice sa sn sc, .slice ta tn tc, .slice ca cn cc] 26)).alloc (.cells #[.int .i64 ok, .string og, .int .i64 ot, .int .i64 oo, .string ox] 32) = W1 at *
  refine HCC.out.mono ?_
  rintro e W2 ⟨rfl, hb2⟩
  have hb3 := hb0.trans (hb2.mono hb0.size)
  replace c0 := clq hb2 c0; replace c1 := clq hb2 c1; replace c2 := clq hb2 c2; replace c3 := clq hb2 c3; replace o0 := clq hb2 o0; replace o1 := clq hb2 o1; replace o2 := clq hb2 o2; replace o3 := clq hb2 o3; replace o4 := clq hb2 o4
  clear HCC hb0 hb2
  rcases HQ.out with ⟨h1, hr⟩ | ⟨h1, h2, hr⟩ | ⟨h1, h2, h3, hr⟩
  · have t0 : ((XE : Int) != 0) = true := by simp [h1]
    have HR : Hid (E = 1) := hr
    clear HQ hr h1
    go_wp2
    go_ret
    exact ⟨ret_int HR.out.symm, hb3⟩
  · subst h1
    have HR : Hid (E = 8) := hr
    have t1 : ((ok : Int) != 1) = true := by simp; omega
    have t2 : ((ok : Int) != 2) = true := by simp; omega
    have t3 : ((ok : Int) != 3) = true := by simp; omega
    have t4 : ((ok : Int) != 4) = true := by simp; omega
    clear HQ hr h2
    go_wp2
    go_ret
    exact ⟨ret_int HR.out.symm, hb3⟩
  · subst h1
    have HR : Hid (E = 1) := hr
    have h4 : ok = 1 \/ ok = 2 \/ ok = 3 \/ ok = 4 := by omega
    clear HQ hr h2
    by_cases a1 : oo = 0
    · subst a1
      have hx : ox.toList.isEmpty = false := isEmpty_no (by rcases h3 with ⟨q, _⟩ | ⟨q, _⟩ <;> first | exact absurd rfl q | exact q)
      have h5 : ok ≠ 4 := by rcases h3 with ⟨q, _⟩ | ⟨_, q⟩ <;> first | exact absurd rfl q | exact q
      clear h3
      rcases h4 with rfl | rfl | rfl | rfl
      all_goals first | exact absurd rfl h5 | skip
      all_goals (go_wp2; go_ret; exact ⟨ret_int HR.out.symm, hb3⟩)
    · have t5 : ((oo : Int) != 0) = true := by simpa using a1
      rcases h4 with rfl | rfl | rfl | rfl
      · clear h3
        go_wp2
        go_ret
        exact ⟨ret_int HR.out.symm, hb3⟩
      · clear h3
        go_wp2
        go_ret
        exact ⟨ret_int HR.out.symm, hb3⟩
      · have hx : ox.toList.isEmpty = false := isEmpty_no (by rcases h3 with ⟨_, q⟩ | ⟨q, _⟩ <;> first | exact absurd rfl q | exact q)
        clear h3
        go_wp2
        go_ret
        exact ⟨ret_int HR.out.symm, hb3⟩
      · clear h3
        go_wp2
        go_ret
        exact ⟨ret_int HR.out.symm, hb3⟩
end Go.Proofs.YtfdipkhbemgojaaGreatDoor
namespace Go.Proofs.YtfdipkhbemgojaaGreatDoor
open Go.RowKit Go.Shelf
attribute [local go_sem] Oper.semAt_some

theorem abides_alloc {β : Type} {B : Nat} {J : β -> World -> Prop} (h : AbidesFrom B J) {s : β} {W : World} (hJ : J s W) (o : Obj) : J s (W.alloc o) :=
  h s W _ none hJ (World.grownBy_alloc W o none) (fun r e => by cases e)
/-- What a loop's body may have turned: its own blocks, as they are known in each world. -/
def KpO (Ow : World -> Nat -> Prop) (A B : World) : Prop :=
  A.heap.size <= B.heap.size /\ (∀ b cs t fr, ¬ Ow A b -> A.heap[b]? = some (.cells cs t fr) -> B.heap[b]? = some (.cells cs t fr)) /\ (∀ b, Ow B b -> Ow A b \/ A.heap.size <= b) /\ ((∀ b, Ow A b -> b < A.heap.size) -> ∀ b, Ow B b -> b < B.heap.size)
namespace KpO
variable {Ow : World -> Nat -> Prop} {A B C : World}
theorem refl (Ow : World -> Nat -> Prop) (A : World) : KpO Ow A A := ⟨Nat.le_refl _, fun _ _ _ _ _ h => h, fun _ h => .inl h, fun h => h⟩
theorem trans (h : KpO Ow A B) (k : KpO Ow B C) : KpO Ow A C := by
  refine ⟨Nat.le_trans h.1 k.1, fun b cs t fr hb ha => ?_, fun b hb => ?_, fun hn => k.2.2.2 (h.2.2.2 hn)⟩
  · refine k.2.1 b cs t fr (fun hB => ?_) (h.2.1 b cs t fr hb ha)
    rcases h.2.2.1 b hB with q | q
    · exact hb q
    · have := (Array.getElem?_eq_some_iff.1 ha).1; omega
  · rcases k.2.2.1 b hb with q | q
    · exact h.2.2.1 b q
    · exact .inr (Nat.le_trans h.1 q)
theorem keepS (h : KpO Ow A B) : KeepS (fun b => ¬ Ow A b) A B := ⟨h.1, h.2.1⟩
theorem below (hst : ∀ b, Ow B b -> Ow A b) (hb : Below A.heap.size A B) : KpO Ow A B :=
  ⟨hb.size, fun b cs t fr _ ha => by rw [hb.block b (Array.getElem?_eq_some_iff.1 ha).1]; exact ha, fun b h => .inl (hst b h), fun hn b h => Nat.lt_of_lt_of_le (hn b (hst b h)) hb.size⟩
end KpO
end Go.Proofs.YtfdipkhbemgojaaGreatDoor
namespace Go.Proofs.YtfdipkhbemgojaaGreatDoor
open Go.RowKit Go.Shelf
attribute [local go_sem] Oper.semAt_some

/-- The body's own: the variable's block, and the block that it points to. -/
def OwB (b4 : Nat) (A : World) (b : Nat) : Prop := b = b4 \/ ∃ y n c, A.cell? ⟨b4, 0, none⟩ = some (.slice (some y) n c) /\ y.block = b
theorem owB_below {b4 : Nat} {A B : World} (h4 : b4 < A.heap.size) (h : Below A.heap.size A B) : ∀ b, OwB b4 B b ↔ OwB b4 A b := by
  have e : B.cell? ⟨b4, 0, none⟩ = A.cell? ⟨b4, 0, none⟩ := World.cell?_of_block (h.block b4 h4)
  intro b; unfold OwB; rw [e]
theorem OwnQ.ownKept {α : Type} {e size : Nat} {enc : α -> List Value} {W W' : World} {B B0 n cap : Nat} {a : Option Addr} {l : List α} {row : Option Nat} (h : OwnQ e size enc W B a n cap l) (hg : W.grownBy W' row) (hr : ∀ r, row = some r -> B0 <= r /\ ∃ o : Obj, W.heap[r]? = some o /\ o.isCells = false) : OwnQ e size enc W' B a n cap l := by
  refine h.kept hg fun x hx e => ?_
  obtain ⟨_, o, ho, hc⟩ := hr x.block e.symm
  subst hx
  rcases h.2.2 with ⟨h0, _⟩ | ⟨g, cap', cur, hv, hB, hgc, _⟩
  · cases h0
  · cases hv
    rw [hgc] at ho; cases ho; cases hc
/-- One element more: what the body's append turns. -/
theorem kpO_app {α : Type} {e size : Nat} {enc : α -> List Value} {b4 : Nat} {W W1 W2 : World} {B n cap n' c' : Nat} {a a' : Option Addr} {l l' : List α} (h4 : b4 < W.heap.size) (hc : W.cell? ⟨b4, 0, none⟩ = some (.slice a n cap)) (ho : OwnQ e size enc W B a n cap l) (ho2 : OwnQ e size enc W2 B a' n' c' l') (hb1 : Below W.heap.size W W1) (hg : W1.grownBy W2 (Value.slice a n cap).ownBlock)
    (hv : (Value.slice a' n' c').ownBlock = (Value.slice a n cap).ownBlock \/ (Value.slice a' n' c').ownBlock = some W1.heap.size) (hcell : ∃ u, W2.cell? ⟨b4, 0, none⟩ = some u) : KpO (OwB b4) W (W2.setCell ⟨b4, 0, none⟩ (.slice a' n' c')) := by
  have hsz : (W2.setCell ⟨b4, 0, none⟩ (.slice a' n' c')).heap.size = W2.heap.size := by simp [World.setCell]
  have hl1 := hb1.size
  have hl2 := hg.size
  have hnew : (W2.setCell ⟨b4, 0, none⟩ (.slice a' n' c')).cell? ⟨b4, 0, none⟩ = some (.slice a' n' c') := by
    obtain ⟨u, hu⟩ := hcell
    exact World.cell?_setCell_same _ _ _ (by first | exact hu | (rw [hu]; rfl) | simp [hu])
  have hown : ∀ b, OwB b4 (W2.setCell ⟨b4, 0, none⟩ (.slice a' n' c')) b -> b = b4 \/ ∃ y, a' = some y /\ y.block = b := by
    rintro b (rfl | ⟨y, n2, c2, h, e⟩)
    · exact .inl rfl
    · rw [hnew] at h; cases h; exact .inr ⟨y, rfl, e⟩
  refine ⟨by omega, fun b cs t fr hb hA => ?_, fun b hb => ?_, fun _ b hb => ?_⟩
  · have hbl : b < W.heap.size := (Array.getElem?_eq_some_iff.1 hA).1
    have hb4 : b ≠ b4 := fun e => hb (.inl e)
    rw [Below.heap_setCell _ _ _ _ (by exact hb4), hg.block b (by omega) (fun e => ?_), hb1.block b hbl]
    · exact hA
    · cases a with
      | none => cases e
      | some y => exact hb (.inr ⟨y, n, cap, hc, (Option.some.inj e).symm⟩)
  · rcases hown b hb with rfl | ⟨y, rfl, rfl⟩
    · exact .inl (.inl rfl)
    · rcases hv with e | e
      · cases a with
        | none => cases e
        | some z => exact .inl (.inr ⟨z, n, cap, hc, (Option.some.inj e).symm⟩)
      · have := Option.some.inj e; exact .inr (by show W.heap.size <= y.block; omega)
  · rcases hown b hb with rfl | ⟨y, rfl, rfl⟩
    · omega
    · have := (ho2.lt y rfl).2; omega
theorem kpO_put {b4 : Nat} {W : World} {l : Nat} {o : Obj} (hl : l ≠ b4) (h : W.heap[l]? = some o) (hc : o.isCells = false) (o' : Obj) : KpO (OwB b4) W (W.putObj l o') := by
  have hsz : (W.putObj l o').heap.size = W.heap.size := by simp [World.putObj]
  have he : (W.putObj l o').cell? ⟨b4, 0, none⟩ = W.cell? ⟨b4, 0, none⟩ := World.cell?_of_block (World.putObj_heap_other (Ne.symm hl))
  have how : ∀ b, OwB b4 (W.putObj l o') b ↔ OwB b4 W b := fun b => by unfold OwB; rw [he]
  refine ⟨by omega, fun b cs t fr _ hA => ?_, fun b hb => .inl ((how b).1 hb), fun hn b hb => by rw [hsz]; exact hn b ((how b).1 hb)⟩
  have : b ≠ l := fun e => by subst e; rw [h] at hA; cases hA; cases hc
  rw [World.putObj_heap_other this]; exact hA
theorem keepsFrom_app {α : Type} {e size : Nat} {enc : α -> List Value} {b4 B0 : Nat} {W W1 W2 : World} {B n cap : Nat} {a : Option Addr} {l : List α} (h4 : b4 < B0) (ho : OwnQ e size enc W B a n cap l) (hb1 : Below W.heap.size W W1) (hg : W1.grownBy W2 (Value.slice a n cap).ownBlock) (v : Value) : KeepsFrom B0 W (W2.setCell ⟨b4, 0, none⟩ v) := by
  have hsz : (W2.setCell ⟨b4, 0, none⟩ v).heap.size = W2.heap.size := by simp [World.setCell]
  have h1 := hb1.size
  have h2 := hg.size
  refine ⟨by omega, fun k o hk hk1 hc => ?_⟩
  have hkl : k < W.heap.size := (Array.getElem?_eq_some_iff.1 hk1).1
  rw [Below.heap_setCell _ _ _ _ (by show k ≠ b4; omega), hg.block k (by omega) (fun e => ?_), hb1.block k hkl]
  · exact hk1
  · rcases ho.2.2 with ⟨h0, _⟩ | ⟨g, cap', cur, hv, hB, hgc, _⟩
    · cases h0; cases e
    · cases hv
      cases e
      rw [hgc] at hk1; cases hk1; cases hc
end Go.Proofs.YtfdipkhbemgojaaGreatDoor
