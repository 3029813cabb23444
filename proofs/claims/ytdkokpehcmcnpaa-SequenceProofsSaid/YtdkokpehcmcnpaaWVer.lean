/- sequence.Verify. -/
import Derived.Test.YtdkokpehcmcnpaaWOrd
import Derived.Test.YtdkokpehcmcnpaaWEmpty
import Derived.Test.YtdkokpehcmcnpaaWPerm
namespace Go.Proofs.Ytdkokpehcmcnpaa
open Go.RowKit

set_option maxHeartbeats 4000000 in
theorem verify_any (a ai ac : Option Addr) (n cap ni ci nc cc : Nat) (l ind : List Int) (cov : List (List Int)) (w : World) (h : Ints w a n cap l) (hi : Ints w ai ni ci ind) (hv : Intss w ac nc cc cov) :
    Calls Try.prog 37 #[.slice a n cap, .slice ai ni ci, .slice ac nc cc] w fun e w' => e = .returned (.int .i64 (verE l ind cov)) ∧ Below w.heap.size w w' := by
  have H := Lib.hid h.len
  have HI := Lib.hid hi.len
  have HV := Lib.hid hv.len
  have h8 := h.bound
  have h9 := hi.bound
  have h10 := hv.bound
  have D0 := (Below.refl w.heap.size w).alloc (Nat.le_refl _) (.cells #[.slice a n cap] 22)
  have hbl : (w.alloc (.cells #[.slice a n cap] 22)).cell? ⟨w.heap.size, 0, none⟩ = some (.slice a n cap) := by rw [World.cell?_alloc_at _ _ _ _ rfl]; rfl
  by_cases hlong : 1024 < n
  · have E : Hid (verE l ind cov = 4) := verE_long (by rw [← H.out]; exact hlong)
    go_enter Try.func37, Try.ntmps37
    go_wp2
    go_ret
    exact ⟨by rw [E.out]; rfl, D0⟩
  · have HL : Hid (¬ 1024 < l.length) := by show ¬ 1024 < l.length; rw [← H.out]; exact hlong
    have hno : ¬ verOk l ind cov → verE l ind cov = 18 := verE_no HL.out
    have HNO := Lib.hid hno
    clear hno
    by_cases hne : ni = nc
    · subst hne
      have enm : ((ni : Int) != (ni : Int)) = false := by simp
      cases hord : ordB l true ind with
      | false =>
        have F : Hid (∀ w, Ints w a n cap l → Ints w ai ni ci ind → ∀ b, w.cell? ⟨b, 0, none⟩ = some (.slice a n cap) → Calls Try.prog 57 #[.slice ai ni ci, .func (.func 58) #[] #[], .pointer (some ⟨b, 0, none⟩)] w fun e w' => e = .returned (.bool false) ∧ Drew w w') := fun w h1 h2 b hb => by rw [← hord]; exact ordered_lt b a ai n cap ni ci l ind w h1 h2 hb
        have E : Hid (verE l ind cov = 18) := HNO.out (fun hh => by have := hh.2.1; rw [hord] at this; cases this)
        clear hord
        go_enter Try.func37, Try.ntmps37
        go_wp2_with (go_at_call 57; refine (F.out _ (h.alloc _) (hi.alloc _) _ hbl).mono ?_; rintro e w2 ⟨rfl, hd⟩)
        go_ret
        exact ⟨by rw [E.out]; rfl, D0.trans (hd.below _)⟩
      | true =>
        have F : Hid (∀ w, Ints w a n cap l → Ints w ai ni ci ind → ∀ b, w.cell? ⟨b, 0, none⟩ = some (.slice a n cap) → Calls Try.prog 57 #[.slice ai ni ci, .func (.func 58) #[] #[], .pointer (some ⟨b, 0, none⟩)] w fun e w' => e = .returned (.bool true) ∧ Drew w w') := fun w h1 h2 b hb => by rw [← hord]; exact ordered_lt b a ai n cap ni ci l ind w h1 h2 hb
        have HORD := Lib.hid hord
        clear hord
        obtain ⟨i0, ji, jz0, jz1, jz2⟩ := info_parts Try.infoBool
        go_enter Try.func37, Try.ntmps37
        go_wp2_with (first | (go_at_call 57; refine (F.out _ (h.alloc _) (hi.alloc _) _ hbl).mono ?_; rintro e w2 ⟨rfl, hd⟩; obtain ⟨nq, rfl⟩ := hd; have hbl2 : ((w.alloc (.cells #[.slice a n cap] 22)).drewN nq).cell? ⟨w.heap.size, 0, none⟩ = some (.slice a n cap) := hbl) | (at_make; refine wpList_make_full _ rfl _ _ 67 rfl (w.heap.size + 1) 4 i0 (.bool false) 1 Try.underlying67 ji jz0 jz1 .i64 .i64 n n n rfl rfl rfl rfl (by rw [jz2]; omega) (by unfold maxLen; omega) (by simp) ?_; intro w1 hrow hg; have hbl1 : w1.cell? ⟨w.heap.size, 0, none⟩ = some (.slice a n cap) := hg.cell hbl2 (by simp)))
        have hb : Below w.heap.size w w1 := (below_drewN D0 nq).grown hg (by simp) (by simp)
        have ho : OwnB w1 (w.heap.size + 1) n (List.replicate n false) := OwnB.made (by simpa using hrow)
        clear hrow hg hbl hbl2 D0
        go_loopw [9, 34] (fun c i wr => ∃ (k m : Nat) (bs : List Bool), k ≤ ni ∧ i = .int .i64 (k : Int) ∧ c = .int .i64 (m : Int) ∧ Hid (m = (cov.take k).flatten.length) ∧ OwnB wr (w.heap.size + 1) n bs ∧ Hid (SeenF n (cov.take k).flatten bs) ∧ Hid ((cov.take k).flatten.Nodup) ∧
            Hid (∀ j, j < k → ordB l false (cov[j]?.getD []) = true) ∧ Below w.heap.size w wr ∧ wr.cell? ⟨w.heap.size, 0, none⟩ = some (.slice a n cap)) (fun _ i _ => ni - (intOf i).toNat)
        case atStart => exact ⟨0, 0, _, Nat.zero_le _, rfl, rfl, rfl, ho, SeenF.start n, (by show List.Nodup _; simp), (fun j hj => by omega), hb, hbl1⟩
        case round =>
          clear ho hb hbl1 w1
          obtain ⟨k, m, bs, hk, rfl, rfl, hm, ho, hs, hnd, hos, hB, hbx⟩ := hrel
          have hFle : m ≤ n := by
            rw [hm.out]
            have := pigeon l.length _ hnd.out (flat_mem hos.out)
            rw [← H.out] at this; exact this
          by_cases hlt : k < ni
          · obtain ⟨b, off, rfl, hbs, hc⟩ := hv.at_ (by omega)
            obtain ⟨sa, ns, cs, c1, i1⟩ := hc.out k hlt
            have c1' := cell_later hB c1
            have hns := i1.len
            have HNS := Lib.hid hns
            have hb8 := i1.bound
            clear hns c1
            cases hok : ordB l false (cov[k]?.getD []) with
            | false =>
              have G : Hid (Calls Try.prog 57 #[.slice sa ns cs, .func (.func 59) #[] #[], .pointer (some ⟨w.heap.size, 0, none⟩)] wr fun e w' => e = .returned (.bool false) ∧ Drew wr w') := by
                have := ordered_ge w.heap.size a sa n cap ns cs l (cov[k]?.getD []) wr (h.below hB) (i1.below hB) hbx
                rw [hok] at this; exact this
              have E : Hid (verE l ind cov = 18) := HNO.out (not_ord (by rw [← HV.out]; exact hlt) hok)
              clear hok
              go_wp2_with (go_at_call 57; refine G.out.mono ?_; rintro e w2 ⟨rfl, hd⟩)
              go_ret
              exact ⟨by rw [E.out]; rfl, hB.trans (hd.below _)⟩
            | true =>
              have G : Hid (Calls Try.prog 57 #[.slice sa ns cs, .func (.func 59) #[] #[], .pointer (some ⟨w.heap.size, 0, none⟩)] wr fun e w' => e = .returned (.bool true) ∧ Drew wr w') := by
                have := ordered_ge w.heap.size a sa n cap ns cs l (cov[k]?.getD []) wr (h.below hB) (i1.below hB) hbx
                rw [hok] at this; exact this
              have HOK := Lib.hid hok
              clear hok
              go_wp2_with (go_at_call 57; refine G.out.mono ?_; rintro e w2 ⟨rfl, hd⟩)
              obtain ⟨nq2, rfl⟩ := hd
              obtain ⟨w2, hw2⟩ : ∃ w2 : World, w2 = wr.drewN nq2 := ⟨_, rfl⟩
              rw [← hw2]
              have ho2 : OwnB w2 (w.heap.size + 1) n bs := by rw [hw2]; exact ho.drewN nq2
              have hB2 : Below w.heap.size w w2 := by rw [hw2]; exact below_drewN hB nq2
              have hbx2 : w2.cell? ⟨w.heap.size, 0, none⟩ = some (.slice a n cap) := by rw [hw2]; exact hbx
              have hmem : Hid (∀ x ∈ cov[k]?.getD [], 0 ≤ x ∧ x < l.length) := ordB_mem HOK.out
              clear hw2 ho hB hbx c1' G
              obtain ⟨F0, hF0⟩ : ∃ F0, F0 = (cov.take k).flatten := ⟨_, rfl⟩
              have HF0 := Lib.hid hF0
              rw [← hF0] at hs hnd hm
              clear hF0
              obtain ⟨s, hs0⟩ : ∃ s, s = cov[k]?.getD [] := ⟨_, rfl⟩
              have HS0 := Lib.hid hs0
              rw [← hs0] at i1 HNS hmem HOK
              clear hs0
              go_loopw [9, 44] (fun c i wr => ∃ (j : Nat) (bs : List Bool), j ≤ ns ∧ i = .int .i64 (j : Int) ∧ c = .int .i64 ((m + j : Nat) : Int) ∧ OwnB wr (w.heap.size + 1) n bs ∧ Hid (SeenF n (F0 ++ s.take j) bs) ∧ Hid ((F0 ++ s.take j).Nodup) ∧
                  Below w.heap.size w wr ∧ wr.cell? ⟨w.heap.size, 0, none⟩ = some (.slice a n cap)) (fun _ i _ => ns - (intOf i).toNat)
              case atStart => exact ⟨0, bs, Nat.zero_le _, rfl, rfl, ho2, (by have := hs.out; show SeenF _ _ _; simpa using this), (by have := hnd.out; show List.Nodup _; simpa using this), hB2, hbx2⟩
              case round =>
                clear ho2 hB2 hbx2 hs hnd w2
                obtain ⟨j, bs2, hj, rfl, rfl, ho, hs, hnd, hB, hbx⟩ := hrel
                have hlen : (F0 ++ s.take j).length = m + j := by rw [hm.out, List.length_append, List.length_take]; have := HNS.out; omega
                have HLEN := Lib.hid hlen
                clear hlen
                by_cases hjl : j < ns
                · obtain ⟨b3, off3, rfl, -, hc3⟩ := (i1.below hB).at_ (by omega)
                  have c3 := hc3.out j hjl
                  have hjs : j < s.length := by rw [← HNS.out]; exact hjl
                  have hx := hmem.out (s[j]?.getD 0) (by rw [List.getElem?_eq_getElem hjs]; exact List.getElem_mem hjs)
                  have HJS := Lib.hid hjs
                  clear hjs
                  obtain ⟨x, ex⟩ := Int.eq_ofNat_of_zero_le hx.1
                  have hxn : x < n := by have := hx.2; have := H.out; omega
                  rw [ex] at c3
                  have EX := Lib.hid ex
                  clear hx ex
                  have c4 := ho.cell x hxn
                  have f4 := ho.free x
                  cases hbv : bs2[x]?.getD false with
                  | true =>
                    rw [hbv] at c4
                    have E : Hid (verE l ind cov = 18) := by
                      refine HNO.out (fun hh => ?_)
                      have hxm := (hs.out.2 x hxn).1 hbv
                      obtain ⟨R, eR⟩ := flat_split (cov := cov) (k := k) (j := j) (by rw [← HV.out]; exact hlt) (by rw [← HS0.out]; exact HJS.out)
                      rw [← HS0.out, ← HF0.out, EX.out] at eR
                      exact not_once (by rw [← H.out]; exact hxn) hxm eR hh.2.2.2
                    clear hbv
                    go_wp2
                    go_ret
                    exact ⟨by rw [E.out]; rfl, hB⟩
                  | false =>
                    rw [hbv] at c4
                    have hnm : Hid ((x : Int) ∉ F0 ++ s.take j) := fun hm => by
                      have := (hs.out.2 x hxn).2 hm
                      rw [hbv] at this; cases this
                    have ET := Lib.hid (take_step F0 HJS.out)
                    have hcount : m + j ≤ n := by
                      have hr : ∀ y ∈ F0 ++ s.take j, 0 ≤ y ∧ y < l.length := fun y hy => by
                        rcases List.mem_append.1 hy with hy | hy
                        · rw [HF0.out] at hy; exact flat_mem hos.out y hy
                        · exact hmem.out y (List.mem_of_mem_take hy)
                      have := pigeon l.length _ hnd.out hr
                      rw [HLEN.out, ← H.out] at this; exact this
                    clear hbv
                    go_wp2
                    go_roundw
                    case rel =>
                      have hne : (⟨w.heap.size + 1, x, none⟩ : Addr) ≠ ⟨w.heap.size, 0, none⟩ := by simp
                      refine ⟨j + 1, bs2.set x true, by omega, by go_num, by go_num, ho.stored x true, ?_, ?_, hB.setCell (by show w.heap.size ≤ w.heap.size + 1; omega) _, (World.cell?_setCell_other _ _ _ _ hne).trans hbx⟩
                      · rw [ET.out, EX.out]; exact hs.out.step hxn
                      · rw [ET.out, EX.out]; exact nodup_step hnd.out hnm.out
                    case measure => simp [intOf]; omega
                · have e1 : Hid ((cov.take (k + 1)).flatten = F0 ++ s.take j) := by
                    show (cov.take (k + 1)).flatten = F0 ++ s.take j
                    rw [take_flat (by rw [← HV.out]; exact hlt), ← HF0.out, ← HS0.out, List.take_of_length_le (by rw [← HNS.out]; omega)]
                  go_wp2
                  go_roundw
                  case rel =>
                    exact ⟨k + 1, m + j, bs2, by omega, by go_num, rfl, by rw [e1.out, HLEN.out]; rfl, ho, by rw [e1.out]; exact hs.out, by rw [e1.out]; exact hnd.out, (fun t ht => by
                      by_cases e : t = k
                      · rw [e, ← HS0.out]; exact HOK.out
                      · exact hos.out t (by omega)), hB, hbx⟩
                  case measure => simp [intOf]; omega
          · obtain rfl : k = ni := by omega
            have hall : (cov.take k).flatten = cov.flatten := by rw [HV.out, List.take_length]
            have HALL := Lib.hid hall
            have HIFF : Hid (verOk l ind cov ↔ noEmpty cov = true ∧ Once l.length cov.flatten) := verOk_iff (by rw [← HI.out, HV.out]) HORD.out (fun j hj => hos.out j (by rw [HV.out]; exact hj))
            have HONCE : Hid (Once l.length cov.flatten ↔ m = n) := by
              show _ ↔ _
              rw [hm.out]
              rw [once_iff (by rw [← hall]; exact flat_mem hos.out), ← hall, ← H.out]
              exact ⟨fun hh => hh.2, fun hh => ⟨hnd.out, hh⟩⟩
            clear hall
            obtain ⟨c, hc0⟩ : ∃ c, c = m := ⟨m, rfl⟩
            rw [← hc0] at HONCE hFle ⊢
            clear hm hc0
            by_cases hcn : c = n
            · have e0 : ((c : Int) != (n : Int)) = false := by simp [hcn]
              have hon := HONCE.out.2 hcn
              clear hcn
              cases hem : noEmpty cov with
              | true =>
                have E : Hid (verE l ind cov = 0) := verE_yes HL.out (HIFF.out.2 ⟨hem, hon⟩)
                have K : Hid (Calls Try.prog 60 #[.slice ac k cc, .func (.func 61) #[] #[]] wr fun e w' => e = .returned (.bool false) ∧ w' = wr) := by
                  have := contains_empty ac k cc cov wr (hv.below hB)
                  rw [hem] at this; exact this
                clear hem
                go_wp2_with (go_at_call 60; refine K.out.mono ?_; rintro e w2 ⟨rfl, rfl⟩)
                go_ret
                exact ⟨by rw [E.out]; rfl, hB⟩
              | false =>
                have E : Hid (verE l ind cov = 18) := HNO.out (fun hh => by have := (HIFF.out.1 hh).1; rw [hem] at this; cases this)
                have K : Hid (Calls Try.prog 60 #[.slice ac k cc, .func (.func 61) #[] #[]] wr fun e w' => e = .returned (.bool true) ∧ w' = wr) := by
                  have := contains_empty ac k cc cov wr (hv.below hB)
                  rw [hem] at this; exact this
                clear hem
                go_wp2_with (go_at_call 60; refine K.out.mono ?_; rintro e w2 ⟨rfl, rfl⟩)
                go_ret
                exact ⟨by rw [E.out]; rfl, hB⟩
            · have e0 : ((c : Int) != (n : Int)) = true := by simp; omega
              have E : Hid (verE l ind cov = 18) := HNO.out (fun hh => hcn (HONCE.out.1 (HIFF.out.1 hh).2))
              clear hcn
              go_wp2
              go_ret
              exact ⟨by rw [E.out]; rfl, hB⟩
    · have enm : ((ni : Int) != (nc : Int)) = true := by simp; omega
      have E : Hid (verE l ind cov = 18) := HNO.out (fun hh => hne (by rw [HI.out, HV.out]; exact hh.1))
      clear hne
      go_enter Try.func37, Try.ntmps37
      go_wp2
      go_ret
      exact ⟨by rw [E.out]; rfl, D0⟩
end Go.Proofs.Ytdkokpehcmcnpaa
