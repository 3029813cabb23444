/- Joined: CDecR. -/
import Derived.Test.YtlbcmeebcfalpaaGreatDoorR20
import Derived.Test.YtlbcmeebcfalpaaGreatDoorR29
import Derived.Test.YtlbcmeebcfalpaaGreatDoorR22
set_option linter.unusedVariables false
set_option linter.unusedSimpArgs false
set_option maxRecDepth 100000
set_option maxHeartbeats 16000000
namespace Go.Proofs.YtlbcmeebcfalpaaGreatDoor
open Go.RowKit

theorem ext_drop (s : ByteArray) (i : Nat) : (s.extract i s.size).data.toList = s.data.toList.drop i := by
  rw [ext_list, List.take_of_length_le (by rw [List.length_drop, Array.length_toList]; exact Nat.le_refl _)]
theorem ext_size (s : ByteArray) (i : Nat) : (s.extract i s.size).size = s.size - i := by
  rw [show (s.extract i s.size).size = (s.extract i s.size).data.toList.length from (Array.length_toList).symm, ext_drop, List.length_drop, Array.length_toList]; rfl
/-- The reading ends where nothing is left, with no value or with lists open. -/
theorem DSt.stop {s0 s : ByteArray} {W0 w : World} {B n c : Nat} {a : Option Addr} {S : Nat -> Prop} {ll : List (List Vl)} {top : List Vl} (h : DSt s0 W0 B s a n c S ll top w) (hs : s.data.toList = []) (h0 : s0.size <= 1048576) (hA : ¬ (ll = [] /\ top.length = 1)) : decode s0.data.toList = (zeroV, 3) :=
  h.none hA (fun c r e => by rw [hs] at e; cases e) (by rw [hs]; rfl) h0
/-- One value, and something behind it. -/
theorem DSt.more {s0 s : ByteArray} {W0 w : World} {B n c : Nat} {a : Option Addr} {S : Nat -> Prop} {x : Vl} (h : DSt s0 W0 B s a n c S [] [x] w) (h0 : s0.size <= 1048576) : decode s0.data.toList = decFin (some (x.er, s.data.toList)) := by
  have hto := h.to
  rw [decR_step] at hto
  simp only [List.map_cons, List.map_nil, erB, List.reverse_nil, decStep] at hto
  exact decode_of (by rw [Array.length_toList]; exact h0) hto
theorem decode_ref (s : ByteArray) (hs : s.size <= 140737488355328) (w : World) (hE : Env w) : Calls Tryz.prog 30 #[.string s] w (DecPost s w) := by
  have hb1 : Below w.heap.size w (w.alloc (.cells #[.int .i64 0, .int .i64 0, .string ⟨#[]⟩, .slice none 0 0] 24)) := (Below.refl _ _).alloc (Nat.le_refl _) _
  have hh1 : (w.alloc (.cells #[.int .i64 0, .int .i64 0, .string ⟨#[]⟩, .slice none 0 0] 24)).heap[w.heap.size]? = some (.cells #[.int .i64 0, .int .i64 0, .string ⟨#[]⟩, .slice none 0 0] 24 (0, 0)) := World.alloc_heap_new _ _
  have hz1 : (w.alloc (.cells #[.int .i64 0, .int .i64 0, .string ⟨#[]⟩, .slice none 0 0] 24)).heap.size = w.heap.size + 1 := by simp
  have hl : s.data.toList.length = s.size := Array.length_toList
  by_cases hS : 1048576 < s.size
  · have hde : decode s.data.toList = (zeroV, 4) := by rw [decode, if_pos (by omega)]
    have hsI : (1048576 : Int) < (s.size : Int) := by omega
    have HDE := hiq hde
    clear hde hl
    go_enter Tryz.func30, Tryz.ntmps30
    go_wp2_with fail
    obtain ⟨z0, z1, z2, z3, -⟩ := box_cells hh1
    generalize w.alloc (.cells #[.int .i64 0, .int .i64 0, .string ⟨#[]⟩, .slice none 0 0] 24) = W4 at *
    exact bodyPost_ret (v := .tuple #[(mkLeaf 0 0 ⟨#[]⟩).val, .int .i64 4]) (by simp [results, Tryz.results30, go_sem, z0, z1, z2, z3, Vl.val, Vl.cells, Vl.kind, Vl.num, Vl.text, Vl.sl, Vl.addr, Vl.items, Vl.cap]) rfl (dec_fail HDE.out hb1)
  · have ho := OwnVV.lit0 (S := fun _ => False) (w.alloc (.cells #[.int .i64 0, .int .i64 0, .string ⟨#[]⟩, .slice none 0 0] 24)) (w.heap.size + 1) (by omega) (fun _ h => h.elim)
    have d0 : DSt s (w.alloc (.cells #[.int .i64 0, .int .i64 0, .string ⟨#[]⟩, .slice none 0 0] 24)) (w.heap.size + 1) (s.extract 0 s.size) (some ⟨(w.alloc (.cells #[.int .i64 0, .int .i64 0, .string ⟨#[]⟩, .slice none 0 0] 24)).heap.size, 0, none⟩) 1 1 (fun _ => False) [] [] _ :=
      ⟨ho, fun _ h => h.elim, (by rw [ext_drop, List.drop_zero]; rfl), by rw [ext_size]; simp, by rw [ext_size]; simp, (Below.refl _ _).alloc (by omega) _⟩
    have HE := hiq hE
    have HL := hiq hl
    have HZ1 := hiq hz1
    clear hE ho hl hz1
    go_enter Tryz.func30, Tryz.ntmps30
    go_wp2_with fail
    generalize hW1 : w.alloc (.cells #[.int .i64 0, .int .i64 0, .string ⟨#[]⟩, .slice none 0 0] 24) = W1 at *
    clear hW1
    go_loopw [4, 5] (fun o p wr => ∃ (i : Nat) (aj : Option Addr) (nj cj : Nat) (S : Nat -> Prop) (ll : List (List Vl)) (top : List Vl), p = .int .i64 (i : Int) /\ i <= s.size /\ o = .slice aj nj cj /\ DSt s W1 (w.heap.size + 1) (s.extract i s.size) aj nj cj S ll top wr) (fun _ p _ => s.size - (intOf p).toNat)
    case atStart =>
      rw [HZ1.out] at d0
      exact ⟨0, _, 1, 1, _, [], [], rfl, Nat.zero_le _, rfl, d0⟩
    case round =>
      obtain ⟨i, aj, nj, cj, S, ll, top, rfl, hi, rfl, D⟩ := hrel
      have HS0 := hiq (Nat.le_of_not_lt hS)
      obtain ⟨m, rfl, hm⟩ : ∃ m, nj = m + 1 /\ m = ll.length := ⟨ll.length, by have := D.own.len; rw [List.length_append, List.length_singleton] at this; exact this, rfl⟩
      have hcm : m + 1 <= cj := D.own.cap_le
      obtain ⟨g, ak, nk, ck, rfl, hgB, hgl, hfz, hck, hok, hapk, hfk⟩ := D.own.at_ (j := m) (l := top) (by rw [hm]; simp)
      have HD := hiq D
      have hmm := hiq hm
      have HNB := hiq hok.1
      have HOK := hiq hok
      have HAP3 := hiq hapk
      have HFK3 := hiq hfk
      have HFZ := hiq hfz
      have hsz := ext_size s i
      have hbwr := D.below
      have hzr := hbwr.size
      rw [HZ1.out] at hzr
      have hHR : wr.heap[w.heap.size]? = _ := (hbwr.block w.heap.size (by have := HZ1.out; omega)).trans hh1
      have hB0 : Below w.heap.size w wr := hb1.trans (hbwr.mono (by omega))
      have hmb : m <= 1048576 := by have h9 := D.deep; have := HS0.out; omega
      have hnkb : nk <= 1048576 := by have := D.long top (by simp); have := HNB.out; have := HS0.out; omega
      have HHR := hiq hHR
      have HB0 := hiq hB0
      have HBWR := hiq hbwr
      have hwi : IntKind.i64.wrap ((i : Int) + 1) = (i : Int) + 1 := IntWalk.i64_in _ (by have := HS0.out; omega)
      have hm0 : (0 : Int) <= (m : Int) := by omega
      have hm2 : m < m + 1 := by omega
      have hm3 : (m : Int) < (m : Int) + 1 := by omega
      clear d0 D hS hm hok hapk hfk hfz hbwr hHR hB0
      by_cases hi1 : i < s.size
      · have hcj : s.data.toList[i]? = some (s[i]'hi1) := by rw [List.getElem?_eq_getElem (by rw [HL.out]; exact hi1)]; rfl
        have hdr0 := List.drop_eq_getElem_cons (l := s.data.toList) (i := i) (by rw [HL.out]; exact hi1)
        have hdr1 : (s.extract i s.size).data.toList = s[i]'hi1 :: s.data.toList.drop (i + 1) := by rw [ext_drop, hdr0]; rfl
        have hdr2 : (s.extract (i + 1) s.size).data.toList = s.data.toList.drop (i + 1) := ext_drop _ _
        generalize hc : s[i]'hi1 = ch at *
        clear hdr0 hcj
        have h01 : (0 : Int) < (m : Int) + 1 := by omega
        by_cases hA : ll = [] /\ top.length = 1
        · have HDE : Hid (decode s.data.toList = (zeroV, 3)) := by
            obtain ⟨rfl, ht1⟩ := hA
            obtain ⟨x, rfl⟩ := List.length_eq_one_iff.1 ht1
            show _ = _
            rw [HD.out.more HS0.out]
            exact decFin_rest (by rw [hdr1]; simp)
          obtain ⟨rfl, ht1⟩ := hA
          obtain rfl : m = 0 := hmm.out
          obtain rfl : nk = 1 := by rw [HNB.out, ht1]
          obtain ⟨e0, e1, e2, e3, f0⟩ := box_cells HHR.out
          go_wp2_with fail
          have hbF := put4_below (HB0.out) (Nat.le_refl _) (.int .i64 0) (.int .i64 0) (.string ⟨#[]⟩) (.slice none 0 0)
          obtain ⟨z0, z1, z2, z3, -⟩ := box_cells (put4_at (HHR.out) (.int .i64 0) (.int .i64 0) (.string ⟨#[]⟩) (.slice none 0 0))
          change bodyPost _ _ _ _ _ (put4 (wr) w.heap.size (.int .i64 0) (.int .i64 0) (.string ⟨#[]⟩) (.slice none 0 0))
          generalize put4 (wr) w.heap.size (.int .i64 0) (.int .i64 0) (.string ⟨#[]⟩) (.slice none 0 0) = WF at *
          exact bodyPost_ret (v := .tuple #[(mkLeaf 0 0 ⟨#[]⟩).val, .int .i64 3]) (by simp [results, Tryz.results30, go_sem, z0, z1, z2, z3, Vl.val, Vl.cells, Vl.kind, Vl.num, Vl.text, Vl.sl, Vl.addr, Vl.items, Vl.cap]) rfl (dec_fail (HDE.out) hbF)
        · have hgo : ((((m : Int) + 1 == 1) = true /\ wr.cell? ⟨g, 0, none⟩ = some (.slice ak nk ck) /\ ((nk : Int) == 1) = false) \/ ((m : Int) + 1 == 1) = false) := by
            by_cases hm0' : m = 0
            · left
              subst hm0'
              refine ⟨by decide, hck, ?_⟩
              rw [beq_eq_false_iff_ne]
              intro h
              exact hA ⟨List.eq_nil_of_length_eq_zero hmm.out.symm, by rw [<- HNB.out]; omega⟩
            · right
              rw [beq_eq_false_iff_ne]; omega
          have hA' := hiq hA
          have HGO := hiq hgo
          have hbz : Below wr.heap.size wr (wr.alloc (.cells #[.int .i64 0, .int .i64 0, .string ⟨#[]⟩, .slice none 0 0] 24)) := (Below.refl _ _).alloc (Nat.le_refl _) _
          have hzz : (wr.alloc (.cells #[.int .i64 0, .int .i64 0, .string ⟨#[]⟩, .slice none 0 0] 24)).heap.size = wr.heap.size + 1 := by simp
          have hbox := World.alloc_heap_new wr (.cells #[.int .i64 0, .int .i64 0, .string ⟨#[]⟩, .slice none 0 0] 24)
          have h1 := HHR.out
          have hHZ : (wr.alloc (.cells #[.int .i64 0, .int .i64 0, .string ⟨#[]⟩, .slice none 0 0] 24)).heap[w.heap.size]? = _ := (hbz.block w.heap.size (by omega)).trans h1
          have hB0z := HB0.out.trans (hbz.mono (by omega))
          have HHZ := hiq hHZ
          have HB0Z := hiq hB0z
          have HBOX := hiq hbox
          have HZZ := hiq hzz
          have HD1 := hiq hdr1
          have HD2 := hiq hdr2
          have HHI := hiq hi1
          clear hA hgo h1 hHZ hB0z hbox hdr1 hdr2 hzz
          by_cases h108 : ch = 108
          · subst h108
            have hpush : Hid (∀ (a' : Option Addr) (c' : Nat) (w' : World), OwnVV S w' (w.heap.size + 1) a' (m + 1 + 1) c' ((ll ++ [top]) ++ [[]]) -> Below (w.heap.size + 1) W1 w' -> DSt s W1 (w.heap.size + 1) (s.extract (i + 1) s.size) a' (m + 1 + 1) c' S (ll ++ [top]) [] w') := fun a' c' w' o b => HD.out.push hA'.out HD1.out HD2.out o b
            have b5 : Below (w.heap.size + 1) W1 ((wr.alloc (.cells #[.int .i64 0, .int .i64 0, .string ⟨#[]⟩, .slice none 0 0] 24)).alloc (.cells #[.slice none 0 0] 22)) := (HBWR.out.trans (hbz.mono hzr)).alloc (by rw [HZZ.out]; omega) _
            have o5 : OwnVV S ((wr.alloc (.cells #[.int .i64 0, .int .i64 0, .string ⟨#[]⟩, .slice none 0 0] 24)).alloc (.cells #[.slice none 0 0] 22)) (w.heap.size + 1) _ (m + 1) cj (ll ++ [top]) := (HD.out.own.below hbz).below ((Below.refl _ _).alloc (Nat.le_refl _) _)
            have c5 : ((wr.alloc (.cells #[.int .i64 0, .int .i64 0, .string ⟨#[]⟩, .slice none 0 0] 24)).alloc (.cells #[.slice none 0 0] 22)).cell? ⟨(wr.alloc (.cells #[.int .i64 0, .int .i64 0, .string ⟨#[]⟩, .slice none 0 0] 24)).heap.size, 0, none⟩ = some (.slice none 0 0) := cell_lit1 _ _ _ rfl
            have z5 := b5.size
            rw [HZ1.out] at z5
            rw [HZZ.out] at c5
            clear hbz
            rcases HGO.out with ⟨d1, hck0, dnk⟩ | d1
            all_goals
              go_wp2_with (at_builtin; refine wpList_push rfl (.tmp 35) (.tmp 36) rfl rfl rfl o5 c5 (by omega) z5 b5 ?_; intro a6 c6 w6 o6 b6 g6)
              go_roundw
              case rel => exact ⟨i + 1, _, _, _, _, _, _, rfl, HHI.out, rfl, hpush.out _ _ _ o6 b6⟩
              case measure => have := HHI.out; simp [intOf]; omega
          · have b108 : ((ch.toNat : Int) == 108) = false := by
              rw [beq_eq_false_iff_ne]; intro h; exact h108 (UInt8.toNat_inj.1 (by have : (108 : UInt8).toNat = 108 := rfl; omega))
            by_cases h101 : ch = 101
            · subst h101
              by_cases hm0' : m = 0
              · subst hm0'
                have HDE : Hid (decode s.data.toList = (zeroV, 3)) := by
                  have hll : ll = [] := List.eq_nil_of_length_eq_zero hmm.out.symm
                  refine HD.out.none hA'.out (fun c r e => ?_) ?_ HS0.out
                  · rw [HD1.out] at e; cases e; exact ⟨by decide, fun _ => hll⟩
                  · rw [HD1.out]; rfl
                obtain ⟨e0, e1, e2, e3, f0⟩ := box_cells HHZ.out
                rcases HGO.out with ⟨d1, hck0, dnk⟩ | d1
                · go_wp2_with fail
                  have hbF := put4_below (HB0Z.out) (Nat.le_refl _) (.int .i64 0) (.int .i64 0) (.string ⟨#[]⟩) (.slice none 0 0)
                  obtain ⟨z0, z1, z2, z3, -⟩ := box_cells (put4_at (HHZ.out) (.int .i64 0) (.int .i64 0) (.string ⟨#[]⟩) (.slice none 0 0))
                  change bodyPost _ _ _ _ _ (put4 (wr.alloc (.cells #[.int .i64 0, .int .i64 0, .string ⟨#[]⟩, .slice none 0 0] 24)) w.heap.size (.int .i64 0) (.int .i64 0) (.string ⟨#[]⟩) (.slice none 0 0))
                  generalize put4 (wr.alloc (.cells #[.int .i64 0, .int .i64 0, .string ⟨#[]⟩, .slice none 0 0] 24)) w.heap.size (.int .i64 0) (.int .i64 0) (.string ⟨#[]⟩) (.slice none 0 0) = WF at *
                  exact bodyPost_ret (v := .tuple #[(mkLeaf 0 0 ⟨#[]⟩).val, .int .i64 3]) (by simp [results, Tryz.results30, go_sem, z0, z1, z2, z3, Vl.val, Vl.cells, Vl.kind, Vl.num, Vl.text, Vl.sl, Vl.addr, Vl.items, Vl.cap]) rfl (dec_fail (HDE.out) hbF)
                · cases d1
              · obtain ⟨n2, rfl⟩ : ∃ n2, m = n2 + 1 := ⟨m - 1, by omega⟩
                obtain ⟨ll', b, rfl⟩ : ∃ ll' b, ll = ll' ++ [b] := by
                  rcases List.eq_nil_or_concat ll with e | ⟨l1, b1, e⟩
                  · have := hmm.out; rw [e] at this; cases this
                  · exact ⟨l1, b1, by rw [e, List.concat_eq_append]⟩
                have hmm2 : Hid (n2 = ll'.length) := by
                  have := hmm.out
                  rw [List.length_append, List.length_singleton] at this
                  show _ = _; omega
                have d1 : (((n2 + 1 : Nat) : Int) + 1 == 1) = false := by rw [beq_eq_false_iff_ne]; omega
                have d2 : ((n2 : Int) + 1 + 1 == 1) = false := by rw [beq_eq_false_iff_ne]; omega
                have hs2 : IntKind.i64.wrap ((n2 : Int) + 1 + 1 - 1) = (n2 : Int) + 1 := by rw [IntWalk.i64_in _ (by omega)]; omega
                have hs3 : IntKind.i64.wrap ((n2 : Int) + 1) = (n2 : Int) + 1 := IntWalk.i64_in _ (by omega)
                have hs4 : IntKind.i64.wrap ((n2 : Int) + 1 - 1) = (n2 : Int) := by rw [IntWalk.i64_in _ (by omega)]; omega
                have hs5 : IntKind.i64.wrap (n2 : Int) = (n2 : Int) := IntWalk.i64_in _ (by omega)
                have ht1 : ((n2 : Int) + 1).toNat = n2 + 1 := by omega
                have hi3 : (0 : Int) <= (n2 : Int) + 1 := by omega
                have hi4 : (n2 : Int) + 1 < (n2 : Int) + 1 + 1 := by omega
                have hi5 : (n2 : Int) < (n2 : Int) + 1 := by omega
                have hi6 : (0 : Int) <= (n2 : Int) := by omega
                have hc1 : (n2 : Int) + 1 <= (cj : Int) := by omega
                have hc2 : n2 + 1 <= cj := by omega
                have hzz := HZZ.out
                have hvals := (HOK.out.below hbz).vals (S' := fun x => S x \/ (Value.slice ak nk ck).ownBlock = some x) (by omega) (fun _ h => .inl h) (fun x hx => .inr (ownBlock_some hx))
                have hak0 : ak = none -> nk = 0 /\ ck = 0 := fun e => by
                  rcases HOK.out.2.1.2 with ⟨hv, h0⟩ | ⟨g9, cap9, cur9, hv, _⟩
                  · cases hv; exact ⟨rfl, rfl⟩
                  · cases hv; cases e
                have FL := list_ref _ ak nk ck top (wr.alloc (.cells #[.int .i64 0, .int .i64 0, .string ⟨#[]⟩, .slice none 0 0] 24)) hvals hak0
                have HFL : Hid (Calls Tryz.prog 52 #[.slice ak nk ck] (wr.alloc (.cells #[.int .i64 0, .int .i64 0, .string ⟨#[]⟩, .slice none 0 0] 24)) fun e w' => ∃ (a' : Option Addr) (c' : Nat), e = .returned (.agg #[.int .i64 3, .int .i64 0, .string ⟨#[]⟩, .slice a' top.length c']) /\ OwnV (fun x => S x \/ (Value.slice ak nk ck).ownBlock = some x) w' (wr.alloc (.cells #[.int .i64 0, .int .i64 0, .string ⟨#[]⟩, .slice none 0 0] 24)).heap.size a' nk c' top /\ Below (wr.alloc (.cells #[.int .i64 0, .int .i64 0, .string ⟨#[]⟩, .slice none 0 0] 24)).heap.size (wr.alloc (.cells #[.int .i64 0, .int .i64 0, .string ⟨#[]⟩, .slice none 0 0] 24)) w') := FL
                have hck1 : (wr.alloc (.cells #[.int .i64 0, .int .i64 0, .string ⟨#[]⟩, .slice none 0 0] 24)).cell? ⟨g, n2 + 1, none⟩ = some (.slice ak nk ck) := clq hbz hck
                clear hvals hak0 FL HGO
                go_wp2_with fail
                refine HFL.out.mono ?_
                rintro e w2 ⟨al, cl, rfl, o2, b2⟩
                have hbr2 : Below wr.heap.size wr w2 := hbz.trans (b2.mono (by omega))
                have o2S : OwnV S w2 (wr.alloc (.cells #[.int .i64 0, .int .i64 0, .string ⟨#[]⟩, .slice none 0 0] 24)).heap.size al nk cl top := ⟨o2.1, o2.2.1, fun u hu => (HOK.out.2.2 u hu).below hbr2⟩
                have hv2 := o2S.vals (S' := fun x => S x \/ (Value.slice al nk cl).ownBlock = some x) (by omega) (fun _ h => .inl h) (fun x hx => .inr (ownBlock_some hx))
                rw [HNB.out] at hv2
                have hlb := o2S.lt
                have hsub := HD.out.own.sub
                have hnS : ¬ (S wr.heap.size \/ (Value.slice al nk cl).ownBlock = some wr.heap.size) := by
                  rintro (h | h)
                  · exact absurd (hsub _ h) (Nat.lt_irrefl _)
                  · have := (hlb _ h).1; omega
                have hbx2 := (b2.block wr.heap.size (by omega)).trans HBOX.out
                obtain ⟨x0, x1, x2, x3, xf⟩ := box_cells hbx2
                have hb4 := put4_below hbr2 (Nat.le_refl _) (.int .i64 3) (.int .i64 0) (.string ⟨#[]⟩) (.slice al top.length cl)
                obtain ⟨q0, q1, q2, q3, -⟩ := box_cells (put4_at hbx2 (.int .i64 3) (.int .i64 0) (.string ⟨#[]⟩) (.slice al top.length cl))
                have hr4 : Rd (fun x => S x \/ (Value.slice al nk cl).ownBlock = some x) (put4 w2 wr.heap.size (.int .i64 3) (.int .i64 0) (.string ⟨#[]⟩) (.slice al top.length cl)) (mkList al cl top) := by
                  have h9 : Rd (fun x => S x \/ (Value.slice al nk cl).ownBlock = some x) w2 (mkList al cl top) := (rd_list hv2).mono (fun x hx _ => by cases al <;> exact hx)
                  exact h9.keep (put4_keep hnS _ _ _ _)
                have hlow2 : Hid (∀ x, (S x \/ (Value.slice al nk cl).ownBlock = some x) -> w.heap.size + 1 <= x) := fun x hx => by
                  rcases hx with h | h
                  · exact HD.out.low x h
                  · have := hlb x h; omega
                have hz4 := put4_size w2 wr.heap.size (.int .i64 3) (.int .i64 0) (.string ⟨#[]⟩) (.slice al top.length cl)
                have hO4 := (HD.out.own.pop (m := n2 + 1) rfl rfl).more (S' := fun x => S x \/ (Value.slice al nk cl).ownBlock = some x) (w' := put4 w2 wr.heap.size (.int .i64 3) (.int .i64 0) (.string ⟨#[]⟩) (.slice al top.length cl)) (fun _ h => .inl h) (fun x hx => by
                  rcases hx with h | h
                  · exact .inl h
                  · have := hlb x h; exact .inr ⟨by omega, by omega⟩) hb4
                obtain ⟨g', ab, nb, cb, hgg, -, hgl3, hfz3, qc, hok3, hap3, hfk3⟩ := hO4.at_ (j := n2) (l := b) (by rw [show n2 = ll'.length from hmm2.out]; simp)
                cases hgg
                have hab : Hid (∀ q, (Value.slice ab nb cb).ownBlock = some q -> q < wr.heap.size) := by
                  obtain ⟨g9, a9, n9, c9, e9, -, hl9, -, hc9, hok9, -, -⟩ := HD.out.own.at_ (j := n2) (l := b) (by rw [show n2 = ll'.length from hmm2.out]; simp)
                  cases e9
                  have h9 := clq hb4 hc9
                  rw [qc] at h9
                  cases h9
                  exact fun q hq => (hok9.lt q hq).2
                have hnbb : nb <= 1048576 := by have := HD.out.long b (by simp); have := hok3.1; have := HS0.out; omega
                have hb14 := HBWR.out.trans (hb4.mono hzr)
                have hfin : Hid (∀ (c' : Nat) (w' : World), OwnVV (fun x => S x \/ (Value.slice al nk cl).ownBlock = some x) w' (w.heap.size + 1) (some ⟨g, 0, none⟩) (n2 + 1) c' (ll' ++ [b ++ [mkList al cl top]]) -> Below (w.heap.size + 1) W1 w' -> DSt s W1 (w.heap.size + 1) (s.extract (i + 1) s.size) (some ⟨g, 0, none⟩) (n2 + 1) c' (fun x => S x \/ (Value.slice al nk cl).ownBlock = some x) ll' (b ++ [mkList al cl top]) w') := fun c' w' ho hb => HD.out.list HD1.out HD2.out ho hlow2.out hb
                have HO4 := hiq hO4
                have HOK4 := hiq hok3
                have HR4 := hiq hr4
                have HQF := hiq hfz3
                have HNB := hiq hok3.1
                have HAP3 := hiq hap3
                have HFK3 := hiq hfk3
                clear hO4 hok3 hr4 hfz3 hap3 hfk3 hlb hv2 o2S o2 hnS hbx2 b2 hbr2 hck hck1 hbz
                go_wp2_with fail
                change Code.wp _ _ _ _ (put4 w2 wr.heap.size (.int .i64 3) (.int .i64 0) (.string ⟨#[]⟩) (.slice al top.length cl))
                generalize put4 w2 wr.heap.size (.int .i64 3) (.int .i64 0) (.string ⟨#[]⟩) (.slice al top.length cl) = W3 at *
                go_wp2_with fail
                go_region
                · rename_i K hK
                  refine hK _ _ ?_
                  clear hK K
                  have bq : Below W3.heap.size W3 (W3.alloc (.cells #[.bool false] 4)).drew := ((Below.refl _ _).alloc (Nat.le_refl _) _).drew
                  have hO5 := HO4.out.below bq
                  have hzq := bq.size
                  have hb15 := hb14.trans (bq.mono (by have := hb14.size; have := HZ1.out; omega))
                  have c0 := clq bq q0
                  have c1 := clq bq q1
                  have c2 := clq bq q2
                  have c3 := clq bq q3
                  have cc := clq bq qc
                  have fc : (W3.alloc (.cells #[.bool false] 4)).drew.frozen? ⟨g, n2, none⟩ = false := (bq.frozen (p := ⟨g, n2, none⟩) (World.block_lt_of_cell? _ _ qc)).trans (HQF.out n2)
                  have ok5 := HOK4.out.below bq
                  have hr5 := HR4.out.below bq
                  clear HO4 HOK4 HR4 HQF q0 q1 q2 q3 qc bq hzq hb14
                  generalize (W3.alloc (.cells #[.bool false] 4)).drew = W4 at *
                  have HO5 := hiq hO5
                  have HOK5 := hiq ok5
                  have HR5 := hiq hr5
                  clear hO5 ok5 hr5
                  go_wp2_with fail
                  obtain ⟨X, Wf, hX, hS1, hS2⟩ := family (fun W => W.cell? ⟨g, n2, none⟩ = some (.slice ab nb cb) /\ W.cell? ⟨wr.heap.size, 0, none⟩ = some (.int .i64 3) /\ W.cell? ⟨wr.heap.size, 1, none⟩ = some (.int .i64 0) /\ W.cell? ⟨wr.heap.size, 2, none⟩ = some (.string ⟨#[]⟩) /\ W.cell? ⟨wr.heap.size, 3, none⟩ = some (.slice al top.length cl)) W4.drew ⟨cc, c0, c1, c2, c3⟩
                  have k0 : ∀ x, (Wf x).cell? ⟨g, n2, none⟩ = some (.slice ab nb cb) := fun x => (hS1 x).1
                  have k1 : ∀ x, (Wf x).cell? ⟨wr.heap.size, 0, none⟩ = some (.int .i64 3) := fun x => (hS1 x).2.1
                  have k2 : ∀ x, (Wf x).cell? ⟨wr.heap.size, 1, none⟩ = some (.int .i64 0) := fun x => (hS1 x).2.2.1
                  have k3 : ∀ x, (Wf x).cell? ⟨wr.heap.size, 2, none⟩ = some (.string ⟨#[]⟩) := fun x => (hS1 x).2.2.2.1
                  have k4 : ∀ x, (Wf x).cell? ⟨wr.heap.size, 3, none⟩ = some (.slice al top.length cl) := fun x => (hS1 x).2.2.2.2
                  have HS2 := hiq hS2
                  clear hS1 hS2
                  refine wp_region_reads (Wf := Wf) 13 [0, 1, 2, 3, 4, 5, 6, 7, 8, 9, 10] [11, 12] (by kernel_rfl) (by kernel_rfl) (fun _ _ d _ _ h => by cases d <;> exact h) (HS2.out _ ⟨cc, c0, c1, c2, c3⟩) ?_
                  simp only [pickOps, List.filterMap_cons, List.filterMap_nil, List.getElem?_cons_zero, List.getElem?_cons_succ]
                  repeat (refine wpReads_step (fun K hK => ?_); unfold rOp; go_simp; (refine hK _ ?_; clear hK K))
                  have hb4 : Below W4.heap.size W4 (W4.drew.alloc (.cells #[.int .i64 3, .int .i64 0, .string ⟨#[]⟩, .slice al top.length cl] 24)) := (Below.refl _ _).drew.alloc (Nat.le_refl _) _
                  have hz4 := hb15.size
                  rw [HZ1.out] at hz4
                  have hb16 := hb15.trans (hb4.mono hz4)
                  have o6 := HOK5.out.below hb4
                  have va6 : VAt (W4.drew.alloc (.cells #[.int .i64 3, .int .i64 0, .string ⟨#[]⟩, .slice al top.length cl] 24)) W4.heap.size 0 (mkList al cl top) := by
                    obtain ⟨y0, y1, y2, y3, -⟩ := box_cells (World.alloc_heap_new W4.drew (.cells #[.int .i64 3, .int .i64 0, .string ⟨#[]⟩, .slice al top.length cl] 24))
                    exact ⟨y0, y1, y2, y3⟩
                  have rd6 : Rd (fun x => S x \/ (Value.slice al nk cl).ownBlock = some x) (W4.drew.alloc (.cells #[.int .i64 3, .int .i64 0, .string ⟨#[]⟩, .slice al top.length cl] 24)) (mkList al cl top) := HR5.out.below hb4
                  have q0 := clq hb4 cc
                  have q1 := clq hb4 c0
                  have q2 := clq hb4 c1
                  have q3 := clq hb4 c2
                  have q4 := clq hb4 c3
                  have fq : (W4.drew.alloc (.cells #[.int .i64 3, .int .i64 0, .string ⟨#[]⟩, .slice al top.length cl] 24)).frozen? ⟨g, n2, none⟩ = false := (hb4.frozen (p := ⟨g, n2, none⟩) (World.block_lt_of_cell? _ _ cc)).trans fc
                  have hgB4 := hb16.size
                  rw [HZ1.out] at hgB4
                  clear k0 k1 k2 k3 k4
                  refine wpReads_nil (wpActs_cons ?_)
                  go_wp2_with fail
                  refine ⟨HS2.out _ ⟨q0, q1, q2, q3, q4⟩, wpActs_cons ?_⟩
                  go_wp2_with (at_builtin; refine wpList_app1 (u := mkList al cl top) rfl (.tmp 104) (.tmp 106) rfl rfl rfl o6 va6 rd6 (by omega) hgB4 hb16 HFK3.out ?_; intro a5 c5 w5 o5 b5 g5 h5)
                  have neG : some g ≠ (Value.slice ab nb cb).ownBlock := HAP3.out.symm.own ⟨g, 0, none⟩ rfl
                  have neB : some wr.heap.size ≠ (Value.slice ab nb cb).ownBlock := fun e => by have := hab.out _ e.symm; omega
                  have p0 := g5.cell q0 neG
                  have p1 := g5.cell q1 neB
                  have p2 := g5.cell q2 neB
                  have p3 := g5.cell q3 neB
                  have p4 := g5.cell q4 neB
                  have fp : w5.frozen? ⟨g, n2, none⟩ = false := by
                    rw [World.frozen?_of_block (g5.block g (World.block_lt_of_cell? _ _ q0) neG)]
                    exact fq
                  refine ⟨HS2.out _ ⟨p0, p1, p2, p3, p4⟩, wpActs_nil ?_⟩
                  have hO6 := row_app (ll := ll') (top := b) HO5.out (by rw [<- hmm2.out]; exact cc) hb4 g5 o5 h5
                  rw [<- hmm2.out] at hO6
                  have hfi := hfin.out _ _ hO6 (b5.setCell (p := ⟨g, n2, none⟩) (by omega) _)
                  have HFIN := hiq hfi
                  clear hfi hO6 o5 o6 va6 rd6 q0 q1 q2 q3 q4 c0 c1 c2 c3 cc fq fc
                  go_wp2_with fail
                  go_roundw
                  case rel => exact ⟨i + 1, _, _, _, _, _, _, rfl, HHI.out, rfl, HFIN.out⟩
                  case measure => have := HHI.out; simp [intOf]; omega
                · rename_i K hK
                  refine hK _ _ ?_
                  clear hK K
                  have bq : Below W3.heap.size W3 (W3.alloc (.cells #[.bool true] 4)).drew := ((Below.refl _ _).alloc (Nat.le_refl _) _).drew
                  have hO5 := HO4.out.below bq
                  have hzq := bq.size
                  have hb15 := hb14.trans (bq.mono (by have := hb14.size; have := HZ1.out; omega))
                  have c0 := clq bq q0
                  have c1 := clq bq q1
                  have c2 := clq bq q2
                  have c3 := clq bq q3
                  have cc := clq bq qc
                  have fc : (W3.alloc (.cells #[.bool true] 4)).drew.frozen? ⟨g, n2, none⟩ = false := (bq.frozen (p := ⟨g, n2, none⟩) (World.block_lt_of_cell? _ _ qc)).trans (HQF.out n2)
                  have ok5 := HOK4.out.below bq
                  have hr5 := HR4.out.below bq
                  clear HO4 HOK4 HR4 HQF q0 q1 q2 q3 qc bq hzq hb14
                  generalize (W3.alloc (.cells #[.bool true] 4)).drew = W4 at *
                  have HO5 := hiq hO5
                  have HOK5 := hiq ok5
                  have HR5 := hiq hr5
                  clear hO5 ok5 hr5
                  go_wp2_with fail
                  obtain ⟨X, Wf, hX, hS1, hS2⟩ := family (fun W => W.cell? ⟨g, n2, none⟩ = some (.slice ab nb cb) /\ W.cell? ⟨wr.heap.size, 0, none⟩ = some (.int .i64 3) /\ W.cell? ⟨wr.heap.size, 1, none⟩ = some (.int .i64 0) /\ W.cell? ⟨wr.heap.size, 2, none⟩ = some (.string ⟨#[]⟩) /\ W.cell? ⟨wr.heap.size, 3, none⟩ = some (.slice al top.length cl)) W4.drew ⟨cc, c0, c1, c2, c3⟩
                  have k0 : ∀ x, (Wf x).cell? ⟨g, n2, none⟩ = some (.slice ab nb cb) := fun x => (hS1 x).1
                  have k1 : ∀ x, (Wf x).cell? ⟨wr.heap.size, 0, none⟩ = some (.int .i64 3) := fun x => (hS1 x).2.1
                  have k2 : ∀ x, (Wf x).cell? ⟨wr.heap.size, 1, none⟩ = some (.int .i64 0) := fun x => (hS1 x).2.2.1
                  have k3 : ∀ x, (Wf x).cell? ⟨wr.heap.size, 2, none⟩ = some (.string ⟨#[]⟩) := fun x => (hS1 x).2.2.2.1
                  have k4 : ∀ x, (Wf x).cell? ⟨wr.heap.size, 3, none⟩ = some (.slice al top.length cl) := fun x => (hS1 x).2.2.2.2
                  have HS2 := hiq hS2
                  clear hS1 hS2
                  refine wp_region_reads (Wf := Wf) 14 [0, 1, 2, 3, 4, 5, 6, 7, 8, 9, 10, 11] [12, 13] (by kernel_rfl) (by kernel_rfl) (fun _ _ d _ _ h => by cases d <;> exact h) (HS2.out _ ⟨cc, c0, c1, c2, c3⟩) ?_
                  simp only [pickOps, List.filterMap_cons, List.filterMap_nil, List.getElem?_cons_zero, List.getElem?_cons_succ]
                  repeat (refine wpReads_step (fun K hK => ?_); unfold rOp; go_simp; (refine hK _ ?_; clear hK K))
                  have hb4 : Below W4.heap.size W4 (W4.drew.alloc (.cells #[.int .i64 0, .int .i64 0, .string ⟨#[]⟩, .slice none 0 0] 24)) := (Below.refl _ _).drew.alloc (Nat.le_refl _) _
                  have hz4 := hb15.size
                  rw [HZ1.out] at hz4
                  have hb16 := hb15.trans (hb4.mono hz4)
                  have o6 := HOK5.out.below hb4
                  have va6 : VAt (W4.drew.alloc (.cells #[.int .i64 0, .int .i64 0, .string ⟨#[]⟩, .slice none 0 0] 24)) W4.heap.size 0 (mkLeaf 0 0 ⟨#[]⟩) := by
                    obtain ⟨y0, y1, y2, y3, -⟩ := box_cells (World.alloc_heap_new W4.drew (.cells #[.int .i64 0, .int .i64 0, .string ⟨#[]⟩, .slice none 0 0] 24))
                    exact ⟨y0, y1, y2, y3⟩
                  have rd6 : Rd (fun x => S x \/ (Value.slice al nk cl).ownBlock = some x) (W4.drew.alloc (.cells #[.int .i64 0, .int .i64 0, .string ⟨#[]⟩, .slice none 0 0] 24)) (mkLeaf 0 0 ⟨#[]⟩) := rd_zero _ _
                  have q0 := clq hb4 cc
                  have q1 := clq hb4 c0
                  have q2 := clq hb4 c1
                  have q3 := clq hb4 c2
                  have q4 := clq hb4 c3
                  have fq : (W4.drew.alloc (.cells #[.int .i64 0, .int .i64 0, .string ⟨#[]⟩, .slice none 0 0] 24)).frozen? ⟨g, n2, none⟩ = false := (hb4.frozen (p := ⟨g, n2, none⟩) (World.block_lt_of_cell? _ _ cc)).trans fc
                  have hgB4 := hb16.size
                  rw [HZ1.out] at hgB4
                  clear k0 k1 k2 k3 k4
                  refine wpReads_nil (wpActs_cons ?_)
                  go_wp2_with fail
                  refine ⟨HS2.out _ ⟨q0, q1, q2, q3, q4⟩, wpActs_cons ?_⟩
                  go_wp2_with (at_builtin; refine wpList_app1 (u := mkLeaf 0 0 ⟨#[]⟩) rfl (.tmp 88) (.tmp 91) rfl rfl rfl o6 va6 rd6 (by omega) hgB4 hb16 HFK3.out ?_; intro a5 c5 w5 o5 b5 g5 h5)
                  have neG : some g ≠ (Value.slice ab nb cb).ownBlock := HAP3.out.symm.own ⟨g, 0, none⟩ rfl
                  have neB : some wr.heap.size ≠ (Value.slice ab nb cb).ownBlock := fun e => by have := hab.out _ e.symm; omega
                  have p0 := g5.cell q0 neG
                  have p1 := g5.cell q1 neB
                  have p2 := g5.cell q2 neB
                  have p3 := g5.cell q3 neB
                  have p4 := g5.cell q4 neB
                  have fp : w5.frozen? ⟨g, n2, none⟩ = false := by
                    rw [World.frozen?_of_block (g5.block g (World.block_lt_of_cell? _ _ q0) neG)]
                    exact fq
                  refine ⟨HS2.out _ ⟨p0, p1, p2, p3, p4⟩, wpActs_nil ?_⟩
                  obtain ⟨r5, rfl, hB5, hne5, hfz5, hcl5, hO6⟩ := row_put (ll := ll') (top := b) (v := mkList al cl top) HO5.out (by rw [<- hmm2.out]; exact cc) hb4 g5 o5 h5 HR5.out HAP3.out HFK3.out HNB.out
                  rw [<- hmm2.out] at hO6
                  have hb17 := put4o_below b5 hB5 (nb * 4) ((.int .i64 3)) ((.int .i64 0)) ((.string ⟨#[]⟩)) ((.slice al top.length cl))
                  have hfi := hfin.out _ _ hO6 (hb17.setCell (p := ⟨g, n2, none⟩) (by omega) _)
                  have hsw5 := put4o_swap w5 hne5 (nb * 4) n2 ((.int .i64 3)) ((.int .i64 0)) ((.string ⟨#[]⟩)) ((.slice al top.length cl)) (.slice (some ⟨r5, 0, none⟩) (nb + 1) c5)
                  obtain ⟨u0, l0⟩ := hcl5 0 (by omega)
                  obtain ⟨u1, l1⟩ := hcl5 1 (by omega)
                  obtain ⟨u2, l2⟩ := hcl5 2 (by omega)
                  obtain ⟨u3', l3⟩ := hcl5 3 (by omega)
                  rw [Nat.add_zero] at l0
                  have HFIN := hiq hfi
                  have HSW5 := hiq hsw5
                  clear hfi hsw5 hO6 hb17 o5 o6 va6 rd6 q0 q1 q2 q3 q4 c0 c1 c2 c3 cc fq fc
                  have ho6 := setCell_past (w := w5) (b := g) (b' := r5) (j := n2) (u := .slice (some ⟨r5, 0, none⟩) (nb + 1) c5) hne5
                  have m0 := (cell_past (j := nb * 4) ho6).trans l0
                  have m1 := (cell_past (j := nb * 4 + 1) ho6).trans l1
                  have m2 := (cell_past (j := nb * 4 + 2) ho6).trans l2
                  have m3 := (cell_past (j := nb * 4 + 3) ho6).trans l3
                  have f6 := fun j => (World.frozen?_of_block (a := ⟨r5, j, none⟩) ho6).trans (hfz5 j)
                  have hn3 : (nb : Int) < (nb : Int) + 1 := by omega
                  have hn4 : nb < nb + 1 := by omega
                  clear ho6 hfz5 l0 l1 l2 l3
                  go_wp2_with fail
                  have hd : DSt _ _ _ _ _ _ _ _ _ _ ((put4o w5 r5 (nb * 4) ((.int .i64 3)) ((.int .i64 0)) ((.string ⟨#[]⟩)) ((.slice al top.length cl))).setCell ⟨g, n2, none⟩ (.slice (some ⟨r5, 0, none⟩) (nb + 1) c5)) := HFIN.out
                  rw [<- HSW5.out] at hd
                  go_roundw
                  case rel => exact ⟨i + 1, _, _, _, _, _, _, rfl, HHI.out, rfl, hd⟩
                  case measure => have := HHI.out; simp [intOf]; omega
            · have b101 : ((ch.toNat : Int) == 101) = false := by
                rw [beq_eq_false_iff_ne]; intro h; exact h101 (UInt8.toNat_inj.1 (by have : (101 : UInt8).toNat = 101 := rfl; omega))
              have hleaf : Hid (∀ c r, (s.extract i s.size).data.toList = c :: r -> c ≠ 108 /\ (c = 101 -> ll = [])) := fun c r e => by
                rw [HD1.out] at e; cases e; exact ⟨h108, fun h => absurd h h101⟩
              have hsz2 := hsz
              have IT := item_ref (s.extract i s.size) (by have := HS0.out; omega) (by have := HHI.out; omega) (wr.alloc (.cells #[.int .i64 0, .int .i64 0, .string ⟨#[]⟩, .slice none 0 0] 24)) (HE.out.below HB0Z.out)
              have HIT := hiq IT
              have hpi : (i : Int) <= (s.size : Int) := by omega
              have hpn : i <= s.size := by omega
              clear IT h108 h101
              rcases HGO.out with ⟨d1, hck0, dnk⟩ | d1
              all_goals
                go_wp2_with fail
                refine HIT.out.mono ?_
                rintro e w2 ⟨k, n, t, mm, ok, he, hk, hn, ht, hmle, hres, hb2⟩
                change e = .returned (.tuple #[.agg #[.int .i64 k, .int .i64 n, .string t, .slice none 0 0], .int .i64 (mm : Int), .bool ok]) at he
                subst he
                rw [hsz] at hmle
                have hb3 : Below (wr.alloc (.cells #[.int .i64 0, .int .i64 0, .string ⟨#[]⟩, .slice none 0 0] 24)).heap.size (wr.alloc (.cells #[.int .i64 0, .int .i64 0, .string ⟨#[]⟩, .slice none 0 0] 24)) (w2.alloc (.cells #[.int .i64 k, .int .i64 n, .string t, .slice none 0 0] 24)) := hb2.alloc hb2.size _
                have hz3 := HZZ.out
                have hbx3 := (hb3.block wr.heap.size (by omega)).trans HBOX.out
                have hh3 := (hb3.block w.heap.size (by omega)).trans HHZ.out
                have hbA := HB0Z.out.trans (hb3.mono (by omega))
                have hb13 := hbz.trans (hb3.mono (by omega))
                obtain ⟨v0, v1, v2, v3, -⟩ := box_cells (World.alloc_heap_new w2 (.cells #[.int .i64 k, .int .i64 n, .string t, .slice none 0 0] 24))
                rcases hres with ⟨rfl, hp⟩ | ⟨rfl, hp⟩
                · have hlt := scalP_lt hp
                  rw [ext_drop, List.drop_drop] at hp
                  rw [ext_drop] at hlt
                  rw [List.length_drop, List.length_drop, HL.out] at hlt
                  have hm1 : 1 <= mm := by have := HHI.out; omega
                  have hwm : IntKind.i64.wrap ((i : Int) + (mm : Int)) = (i : Int) + (mm : Int) := IntWalk.i64_in _ (by have := HS0.out; omega)
                  have HNXF := hiq (show i + mm <= s.size by omega)
                  have HMM1 := hiq hm1
                  obtain ⟨x0, x1, x2, x3, xf⟩ := box_cells hbx3
                  have hb4 := put4_below hb13 (Nat.le_refl _) (.int .i64 k) (.int .i64 n) (.string t) (.slice none 0 0)
                  obtain ⟨q0, q1, q2, q3, -⟩ := box_cells (put4_at hbx3 (.int .i64 k) (.int .i64 n) (.string t) (.slice none 0 0))
                  have hO4 := HD.out.own.below hb4
                  have ok4 := HOK.out.below hb4
                  have hr4 : Rd S (put4 (w2.alloc (.cells #[.int .i64 k, .int .i64 n, .string t, .slice none 0 0] 24)) wr.heap.size (.int .i64 k) (.int .i64 n) (.string t) (.slice none 0 0)) (mkLeaf k n t) := rd_iff.2 ⟨hk, hn, (by show t.size <= _; omega), Vals.nil S _⟩
                  have qc := clq hb4 hck
                  have hqf : ∀ j, (put4 (w2.alloc (.cells #[.int .i64 k, .int .i64 n, .string t, .slice none 0 0] 24)) wr.heap.size (.int .i64 k) (.int .i64 n) (.string t) (.slice none 0 0)).frozen? ⟨g, j, none⟩ = false := fun j => (hb4.frozen (p := ⟨g, j, none⟩) hgl).trans (HFZ.out j)
                  have hb14 := HBWR.out.trans (hb4.mono hzr)
                  have hab : Hid (∀ q, (Value.slice ak nk ck).ownBlock = some q -> q < wr.heap.size) := fun q hq => (HOK.out.lt q hq).2
                  have hfin : Hid (∀ (c' : Nat) (w' : World), OwnVV S w' (w.heap.size + 1) (some ⟨g, 0, none⟩) (m + 1) c' (ll ++ [top ++ [mkLeaf k n t]]) -> Below (w.heap.size + 1) W1 w' -> DSt s W1 (w.heap.size + 1) (s.extract (i + mm) s.size) (some ⟨g, 0, none⟩) (m + 1) c' S ll (top ++ [mkLeaf k n t]) w') := fun c' w' ho hb => HD.out.leaf hA'.out hleaf.out (by rw [ext_drop s i, ext_drop s (i + mm)]; exact hp) ho hb
                  have hs2 : IntKind.i64.wrap ((m : Int) + 1 - 1) = (m : Int) := by rw [IntWalk.i64_in _ (by omega)]; omega
                  have hs3 : IntKind.i64.wrap (m : Int) = (m : Int) := IntWalk.i64_in _ (by omega)
                  have HO4 := hiq hO4
                  have HOK4 := hiq ok4
                  have HR4 := hiq hr4
                  have HQF := hiq hqf
                  clear hO4 ok4 hr4 hqf hp hb13 hbA hh3 hbx3 hb3 hb2 hleaf hlt
                  go_wp2_with fail
                  change Code.wp _ _ _ _ (put4 (w2.alloc (.cells #[.int .i64 k, .int .i64 n, .string t, .slice none 0 0] 24)) wr.heap.size (.int .i64 k) (.int .i64 n) (.string t) (.slice none 0 0))
                  generalize put4 (w2.alloc (.cells #[.int .i64 k, .int .i64 n, .string t, .slice none 0 0] 24)) wr.heap.size (.int .i64 k) (.int .i64 n) (.string t) (.slice none 0 0) = W3 at *
                  go_wp2_with fail
                  go_region
                  · rename_i K hK
                    refine hK _ _ ?_
                    clear hK K
                    have bq : Below W3.heap.size W3 (W3.alloc (.cells #[.bool false] 4)).drew := ((Below.refl _ _).alloc (Nat.le_refl _) _).drew
                    have hO5 := HO4.out.below bq
                    have hzq := bq.size
                    have hb15 := hb14.trans (bq.mono (by have := hb14.size; have := HZ1.out; omega))
                    have c0 := clq bq q0
                    have c1 := clq bq q1
                    have c2 := clq bq q2
                    have c3 := clq bq q3
                    have cc := clq bq qc
                    have fc : (W3.alloc (.cells #[.bool false] 4)).drew.frozen? ⟨g, m, none⟩ = false := (bq.frozen (p := ⟨g, m, none⟩) (World.block_lt_of_cell? _ _ qc)).trans (HQF.out m)
                    have ok5 := HOK4.out.below bq
                    have hr5 := HR4.out.below bq
                    clear HO4 HOK4 HR4 HQF q0 q1 q2 q3 qc bq hzq hb14
                    generalize (W3.alloc (.cells #[.bool false] 4)).drew = W4 at *
                    have HO5 := hiq hO5
                    have HOK5 := hiq ok5
                    have HR5 := hiq hr5
                    clear hO5 ok5 hr5
                    go_wp2_with fail
                    obtain ⟨X, Wf, hX, hS1, hS2⟩ := family (fun W => W.cell? ⟨g, m, none⟩ = some (.slice ak nk ck) /\ W.cell? ⟨wr.heap.size, 0, none⟩ = some (.int .i64 k) /\ W.cell? ⟨wr.heap.size, 1, none⟩ = some (.int .i64 n) /\ W.cell? ⟨wr.heap.size, 2, none⟩ = some (.string t) /\ W.cell? ⟨wr.heap.size, 3, none⟩ = some (.slice none 0 0)) W4.drew ⟨cc, c0, c1, c2, c3⟩
                    have k0 : ∀ x, (Wf x).cell? ⟨g, m, none⟩ = some (.slice ak nk ck) := fun x => (hS1 x).1
                    have k1 : ∀ x, (Wf x).cell? ⟨wr.heap.size, 0, none⟩ = some (.int .i64 k) := fun x => (hS1 x).2.1
                    have k2 : ∀ x, (Wf x).cell? ⟨wr.heap.size, 1, none⟩ = some (.int .i64 n) := fun x => (hS1 x).2.2.1
                    have k3 : ∀ x, (Wf x).cell? ⟨wr.heap.size, 2, none⟩ = some (.string t) := fun x => (hS1 x).2.2.2.1
                    have k4 : ∀ x, (Wf x).cell? ⟨wr.heap.size, 3, none⟩ = some (.slice none 0 0) := fun x => (hS1 x).2.2.2.2
                    have HS2 := hiq hS2
                    clear hS1 hS2
                    refine wp_region_reads (Wf := Wf) 13 [0, 1, 2, 3, 4, 5, 6, 7, 8, 9, 10] [11, 12] (by kernel_rfl) (by kernel_rfl) (fun _ _ d _ _ h => by cases d <;> exact h) (HS2.out _ ⟨cc, c0, c1, c2, c3⟩) ?_
                    simp only [pickOps, List.filterMap_cons, List.filterMap_nil, List.getElem?_cons_zero, List.getElem?_cons_succ]
                    repeat (refine wpReads_step (fun K hK => ?_); unfold rOp; go_simp; (refine hK _ ?_; clear hK K))
                    have hb4 : Below W4.heap.size W4 (W4.drew.alloc (.cells #[.int .i64 k, .int .i64 n, .string t, .slice none 0 0] 24)) := (Below.refl _ _).drew.alloc (Nat.le_refl _) _
                    have hz4 := hb15.size
                    rw [HZ1.out] at hz4
                    have hb16 := hb15.trans (hb4.mono hz4)
                    have o6 := HOK5.out.below hb4
                    have va6 : VAt (W4.drew.alloc (.cells #[.int .i64 k, .int .i64 n, .string t, .slice none 0 0] 24)) W4.heap.size 0 (mkLeaf k n t) := by
                      obtain ⟨y0, y1, y2, y3, -⟩ := box_cells (World.alloc_heap_new W4.drew (.cells #[.int .i64 k, .int .i64 n, .string t, .slice none 0 0] 24))
                      exact ⟨y0, y1, y2, y3⟩
                    have rd6 : Rd (S) (W4.drew.alloc (.cells #[.int .i64 k, .int .i64 n, .string t, .slice none 0 0] 24)) (mkLeaf k n t) := HR5.out.below hb4
                    have q0 := clq hb4 cc
                    have q1 := clq hb4 c0
                    have q2 := clq hb4 c1
                    have q3 := clq hb4 c2
                    have q4 := clq hb4 c3
                    have fq : (W4.drew.alloc (.cells #[.int .i64 k, .int .i64 n, .string t, .slice none 0 0] 24)).frozen? ⟨g, m, none⟩ = false := (hb4.frozen (p := ⟨g, m, none⟩) (World.block_lt_of_cell? _ _ cc)).trans fc
                    have hgB4 := hb16.size
                    rw [HZ1.out] at hgB4
                    clear k0 k1 k2 k3 k4
                    refine wpReads_nil (wpActs_cons ?_)
                    go_wp2_with fail
                    refine ⟨HS2.out _ ⟨q0, q1, q2, q3, q4⟩, wpActs_cons ?_⟩
                    go_wp2_with (at_builtin; refine wpList_app1 (u := mkLeaf k n t) rfl (.tmp 104) (.tmp 106) rfl rfl rfl o6 va6 rd6 (by omega) hgB4 hb16 HFK3.out ?_; intro a5 c5 w5 o5 b5 g5 h5)
                    have neG : some g ≠ (Value.slice ak nk ck).ownBlock := HAP3.out.symm.own ⟨g, 0, none⟩ rfl
                    have neB : some wr.heap.size ≠ (Value.slice ak nk ck).ownBlock := fun e => by have := hab.out _ e.symm; omega
                    have p0 := g5.cell q0 neG
                    have p1 := g5.cell q1 neB
                    have p2 := g5.cell q2 neB
                    have p3 := g5.cell q3 neB
                    have p4 := g5.cell q4 neB
                    have fp : w5.frozen? ⟨g, m, none⟩ = false := by
                      rw [World.frozen?_of_block (g5.block g (World.block_lt_of_cell? _ _ q0) neG)]
                      exact fq
                    refine ⟨HS2.out _ ⟨p0, p1, p2, p3, p4⟩, wpActs_nil ?_⟩
                    have hO6 := row_app (ll := ll) (top := top) HO5.out (by rw [<- hmm.out]; exact cc) hb4 g5 o5 h5
                    rw [<- hmm.out] at hO6
                    have hfi := hfin.out _ _ hO6 (b5.setCell (p := ⟨g, m, none⟩) (by omega) _)
                    have HFIN := hiq hfi
                    clear hfi hO6 o5 o6 va6 rd6 q0 q1 q2 q3 q4 c0 c1 c2 c3 cc fq fc
                    go_wp2_with fail
                    go_roundw
                    case rel => exact ⟨i + mm, _, _, _, _, _, _, rfl, HNXF.out, rfl, HFIN.out⟩
                    case measure => have := HMM1.out; have := HNXF.out; simp [intOf]; omega
                  · rename_i K hK
                    refine hK _ _ ?_
                    clear hK K
                    have bq : Below W3.heap.size W3 (W3.alloc (.cells #[.bool true] 4)).drew := ((Below.refl _ _).alloc (Nat.le_refl _) _).drew
                    have hO5 := HO4.out.below bq
                    have hzq := bq.size
                    have hb15 := hb14.trans (bq.mono (by have := hb14.size; have := HZ1.out; omega))
                    have c0 := clq bq q0
                    have c1 := clq bq q1
                    have c2 := clq bq q2
                    have c3 := clq bq q3
                    have cc := clq bq qc
                    have fc : (W3.alloc (.cells #[.bool true] 4)).drew.frozen? ⟨g, m, none⟩ = false := (bq.frozen (p := ⟨g, m, none⟩) (World.block_lt_of_cell? _ _ qc)).trans (HQF.out m)
                    have ok5 := HOK4.out.below bq
                    have hr5 := HR4.out.below bq
                    clear HO4 HOK4 HR4 HQF q0 q1 q2 q3 qc bq hzq hb14
                    generalize (W3.alloc (.cells #[.bool true] 4)).drew = W4 at *
                    have HO5 := hiq hO5
                    have HOK5 := hiq ok5
                    have HR5 := hiq hr5
                    clear hO5 ok5 hr5
                    go_wp2_with fail
                    obtain ⟨X, Wf, hX, hS1, hS2⟩ := family (fun W => W.cell? ⟨g, m, none⟩ = some (.slice ak nk ck) /\ W.cell? ⟨wr.heap.size, 0, none⟩ = some (.int .i64 k) /\ W.cell? ⟨wr.heap.size, 1, none⟩ = some (.int .i64 n) /\ W.cell? ⟨wr.heap.size, 2, none⟩ = some (.string t) /\ W.cell? ⟨wr.heap.size, 3, none⟩ = some (.slice none 0 0)) W4.drew ⟨cc, c0, c1, c2, c3⟩
                    have k0 : ∀ x, (Wf x).cell? ⟨g, m, none⟩ = some (.slice ak nk ck) := fun x => (hS1 x).1
                    have k1 : ∀ x, (Wf x).cell? ⟨wr.heap.size, 0, none⟩ = some (.int .i64 k) := fun x => (hS1 x).2.1
                    have k2 : ∀ x, (Wf x).cell? ⟨wr.heap.size, 1, none⟩ = some (.int .i64 n) := fun x => (hS1 x).2.2.1
                    have k3 : ∀ x, (Wf x).cell? ⟨wr.heap.size, 2, none⟩ = some (.string t) := fun x => (hS1 x).2.2.2.1
                    have k4 : ∀ x, (Wf x).cell? ⟨wr.heap.size, 3, none⟩ = some (.slice none 0 0) := fun x => (hS1 x).2.2.2.2
                    have HS2 := hiq hS2
                    clear hS1 hS2
                    refine wp_region_reads (Wf := Wf) 14 [0, 1, 2, 3, 4, 5, 6, 7, 8, 9, 10, 11] [12, 13] (by kernel_rfl) (by kernel_rfl) (fun _ _ d _ _ h => by cases d <;> exact h) (HS2.out _ ⟨cc, c0, c1, c2, c3⟩) ?_
                    simp only [pickOps, List.filterMap_cons, List.filterMap_nil, List.getElem?_cons_zero, List.getElem?_cons_succ]
                    repeat (refine wpReads_step (fun K hK => ?_); unfold rOp; go_simp; (refine hK _ ?_; clear hK K))
                    have hb4 : Below W4.heap.size W4 (W4.drew.alloc (.cells #[.int .i64 0, .int .i64 0, .string ⟨#[]⟩, .slice none 0 0] 24)) := (Below.refl _ _).drew.alloc (Nat.le_refl _) _
                    have hz4 := hb15.size
                    rw [HZ1.out] at hz4
                    have hb16 := hb15.trans (hb4.mono hz4)
                    have o6 := HOK5.out.below hb4
                    have va6 : VAt (W4.drew.alloc (.cells #[.int .i64 0, .int .i64 0, .string ⟨#[]⟩, .slice none 0 0] 24)) W4.heap.size 0 (mkLeaf 0 0 ⟨#[]⟩) := by
                      obtain ⟨y0, y1, y2, y3, -⟩ := box_cells (World.alloc_heap_new W4.drew (.cells #[.int .i64 0, .int .i64 0, .string ⟨#[]⟩, .slice none 0 0] 24))
                      exact ⟨y0, y1, y2, y3⟩
                    have rd6 : Rd (S) (W4.drew.alloc (.cells #[.int .i64 0, .int .i64 0, .string ⟨#[]⟩, .slice none 0 0] 24)) (mkLeaf 0 0 ⟨#[]⟩) := rd_zero _ _
                    have q0 := clq hb4 cc
                    have q1 := clq hb4 c0
                    have q2 := clq hb4 c1
                    have q3 := clq hb4 c2
                    have q4 := clq hb4 c3
                    have fq : (W4.drew.alloc (.cells #[.int .i64 0, .int .i64 0, .string ⟨#[]⟩, .slice none 0 0] 24)).frozen? ⟨g, m, none⟩ = false := (hb4.frozen (p := ⟨g, m, none⟩) (World.block_lt_of_cell? _ _ cc)).trans fc
                    have hgB4 := hb16.size
                    rw [HZ1.out] at hgB4
                    clear k0 k1 k2 k3 k4
                    refine wpReads_nil (wpActs_cons ?_)
                    go_wp2_with fail
                    refine ⟨HS2.out _ ⟨q0, q1, q2, q3, q4⟩, wpActs_cons ?_⟩
                    go_wp2_with (at_builtin; refine wpList_app1 (u := mkLeaf 0 0 ⟨#[]⟩) rfl (.tmp 88) (.tmp 91) rfl rfl rfl o6 va6 rd6 (by omega) hgB4 hb16 HFK3.out ?_; intro a5 c5 w5 o5 b5 g5 h5)
                    have neG : some g ≠ (Value.slice ak nk ck).ownBlock := HAP3.out.symm.own ⟨g, 0, none⟩ rfl
                    have neB : some wr.heap.size ≠ (Value.slice ak nk ck).ownBlock := fun e => by have := hab.out _ e.symm; omega
                    have p0 := g5.cell q0 neG
                    have p1 := g5.cell q1 neB
                    have p2 := g5.cell q2 neB
                    have p3 := g5.cell q3 neB
                    have p4 := g5.cell q4 neB
                    have fp : w5.frozen? ⟨g, m, none⟩ = false := by
                      rw [World.frozen?_of_block (g5.block g (World.block_lt_of_cell? _ _ q0) neG)]
                      exact fq
                    refine ⟨HS2.out _ ⟨p0, p1, p2, p3, p4⟩, wpActs_nil ?_⟩
                    obtain ⟨r5, rfl, hB5, hne5, hfz5, hcl5, hO6⟩ := row_put (ll := ll) (top := top) (v := mkLeaf k n t) HO5.out (by rw [<- hmm.out]; exact cc) hb4 g5 o5 h5 HR5.out HAP3.out HFK3.out HNB.out
                    rw [<- hmm.out] at hO6
                    have hb17 := put4o_below b5 hB5 (nk * 4) ((.int .i64 k)) ((.int .i64 n)) ((.string t)) ((.slice none 0 0))
                    have hfi := hfin.out _ _ hO6 (hb17.setCell (p := ⟨g, m, none⟩) (by omega) _)
                    have hsw5 := put4o_swap w5 hne5 (nk * 4) m ((.int .i64 k)) ((.int .i64 n)) ((.string t)) ((.slice none 0 0)) (.slice (some ⟨r5, 0, none⟩) (nk + 1) c5)
                    obtain ⟨u0, l0⟩ := hcl5 0 (by omega)
                    obtain ⟨u1, l1⟩ := hcl5 1 (by omega)
                    obtain ⟨u2, l2⟩ := hcl5 2 (by omega)
                    obtain ⟨u3', l3⟩ := hcl5 3 (by omega)
                    rw [Nat.add_zero] at l0
                    have HFIN := hiq hfi
                    have HSW5 := hiq hsw5
                    clear hfi hsw5 hO6 hb17 o5 o6 va6 rd6 q0 q1 q2 q3 q4 c0 c1 c2 c3 cc fq fc
                    have ho6 := setCell_past (w := w5) (b := g) (b' := r5) (j := m) (u := .slice (some ⟨r5, 0, none⟩) (nk + 1) c5) hne5
                    have m0 := (cell_past (j := nk * 4) ho6).trans l0
                    have m1 := (cell_past (j := nk * 4 + 1) ho6).trans l1
                    have m2 := (cell_past (j := nk * 4 + 2) ho6).trans l2
                    have m3 := (cell_past (j := nk * 4 + 3) ho6).trans l3
                    have f6 := fun j => (World.frozen?_of_block (a := ⟨r5, j, none⟩) ho6).trans (hfz5 j)
                    have hn3 : (nk : Int) < (nk : Int) + 1 := by omega
                    have hn4 : nk < nk + 1 := by omega
                    clear ho6 hfz5 l0 l1 l2 l3
                    go_wp2_with fail
                    have hd : DSt _ _ _ _ _ _ _ _ _ _ ((put4o w5 r5 (nk * 4) ((.int .i64 k)) ((.int .i64 n)) ((.string t)) ((.slice none 0 0))).setCell ⟨g, m, none⟩ (.slice (some ⟨r5, 0, none⟩) (nk + 1) c5)) := HFIN.out
                    rw [<- HSW5.out] at hd
                    go_roundw
                    case rel => exact ⟨i + mm, _, _, _, _, _, _, rfl, HNXF.out, rfl, hd⟩
                    case measure => have := HMM1.out; have := HNXF.out; simp [intOf]; omega
                · have HDE : Hid (decode s.data.toList = (zeroV, 3)) := HD.out.none hA'.out hleaf.out hp HS0.out
                  obtain ⟨e0, e1, e2, e3, f0⟩ := box_cells hh3
                  have HH3 := hiq hh3
                  have HBA := hiq hbA
                  clear hp hb13 hbA hh3 hbx3 hb3 hb2 hleaf
                  go_wp2_with fail
                  have hbF := put4_below (HBA.out) (Nat.le_refl _) (.int .i64 0) (.int .i64 0) (.string ⟨#[]⟩) (.slice none 0 0)
                  obtain ⟨z0, z1, z2, z3, -⟩ := box_cells (put4_at (HH3.out) (.int .i64 0) (.int .i64 0) (.string ⟨#[]⟩) (.slice none 0 0))
                  change bodyPost _ _ _ _ _ (put4 (w2.alloc (.cells #[.int .i64 k, .int .i64 n, .string t, .slice none 0 0] 24)) w.heap.size (.int .i64 0) (.int .i64 0) (.string ⟨#[]⟩) (.slice none 0 0))
                  generalize put4 (w2.alloc (.cells #[.int .i64 k, .int .i64 n, .string t, .slice none 0 0] 24)) w.heap.size (.int .i64 0) (.int .i64 0) (.string ⟨#[]⟩) (.slice none 0 0) = WF at *
                  exact bodyPost_ret (v := .tuple #[(mkLeaf 0 0 ⟨#[]⟩).val, .int .i64 3]) (by simp [results, Tryz.results30, go_sem, z0, z1, z2, z3, Vl.val, Vl.cells, Vl.kind, Vl.num, Vl.text, Vl.sl, Vl.addr, Vl.items, Vl.cap]) rfl (dec_fail (HDE.out) hbF)
      · obtain rfl : i = s.size := by omega
        have hsn : (s.extract s.size s.size).data.toList = [] := by rw [ext_drop, List.drop_of_length_le (by rw [Array.length_toList]; exact Nat.le_refl _)]
        by_cases hA : ll = [] /\ top.length = 1
        · obtain ⟨rfl, ht1⟩ := hA
          obtain ⟨x, rfl⟩ := List.length_eq_one_iff.1 ht1
          obtain rfl : m = 0 := hmm.out
          obtain rfl : nk = 1 := HNB.out
          have hok := HOK.out
          have hvx := hok.vals (S' := fun b => w.heap.size + 1 <= b) (by omega) (fun b hb => HD.out.low b hb) (fun y hy => (hok.lt y.block (ownBlock_some hy)).1)
          obtain ⟨x', bx, offx, hx', -, rfl, hSx, hbx, ⟨c0, c1, c2, c3⟩, hrx⟩ := hvx.get (j := 0) (by omega)
          obtain rfl : x = x' := by simpa using hx'
          rw [Nat.zero_mul, Nat.add_zero] at c0 c1 c2 c3
          have HDEC : Hid (decode s.data.toList = decFin (some (x.er, []))) := by
            have := HD.out.more HS0.out
            rw [hsn] at this
            exact this
          rw [decFin_nil] at HDEC
          have CK := check_ref _ x wr hrx
          have HRX := hiq hrx
          generalize hCV : chkV x.er = CV at *
          generalize hXE : x.er = XE at *
          have HXE := hiq hXE
          obtain ⟨k, nn, t, a, c, l⟩ := x
          dsimp only [Vl.val, Vl.cells, Vl.kind, Vl.num, Vl.text, Vl.sl, Vl.addr, Vl.items, Vl.cap] at c0 c1 c2 c3 CK
          have HCK := hiq CK
          have hlr : w.heap.size < wr.heap.size := by omega
          clear CK ht1 hok hx' hvx hrx hXE hCV hsn
          go_wp2_with fail
          refine HCK.out.mono ?_
          rintro e W3 ⟨rfl, hb3⟩
          have hh3 : W3.heap[w.heap.size]? = _ := (hb3.block w.heap.size hlr).trans HHR.out
          obtain ⟨g0, g1, g2, g3, f3⟩ := box_cells hh3
          have HH3 := hiq hh3
          have hbA := HB0.out.trans (hb3.mono (Nat.le_of_lt hlr))
          by_cases hcv : CV = 0
          · subst hcv
            have y0 := clq hb3 c0
            have y1 := clq hb3 c1
            have y2 := clq hb3 c2
            have y3 := clq hb3 c3
            have yk := clq hb3 hck
            have hr3 := HRX.out.below hb3
            clear hb3 hh3 HCK c0 c1 c2 c3 hlr hck
            go_wp2_with fail
            have hb4 := put4_below hbA (Nat.le_refl _) (.int .i64 k) (.int .i64 nn) (.string t) (.slice a l.length c)
            have hr4 := hr3.keep (put4_keep (W := W3) (b := w.heap.size) (by simp) (.int .i64 k) (.int .i64 nn) (.string t) (.slice a l.length c))
            obtain ⟨z0, z1, z2, z3, -⟩ := box_cells (put4_at HH3.out (.int .i64 k) (.int .i64 nn) (.string t) (.slice a l.length c))
            change bodyPost _ _ _ _ _ (put4 W3 w.heap.size (.int .i64 k) (.int .i64 nn) (.string t) (.slice a l.length c))
            generalize put4 W3 w.heap.size (.int .i64 k) (.int .i64 nn) (.string t) (.slice a l.length c) = W4 at *
            exact bodyPost_ret (v := .tuple #[(Vl.mk k nn t a c l).val, .int .i64 0]) (by simp [results, Tryz.results30, go_sem, z0, z1, z2, z3, Vl.val, Vl.cells, Vl.kind, Vl.num, Vl.text, Vl.sl, Vl.addr, Vl.items, Vl.cap]) rfl ⟨fun b => w.heap.size + 1 <= b /\ b < W4.heap.size, .mk k nn t a c l, by rw [HDEC.out, if_pos trivial], by rw [HDEC.out, if_pos trivial]; exact HXE.out, hr4.mono (fun b hb hlt => ⟨hb, hlt⟩), fun b hb => ⟨by omega, hb.2⟩, hb4⟩
          · have dcv : ((CV : Int) != 0) = true := by simp [hcv]
            clear hb3 hh3 HCK c0 c1 c2 c3 hlr hck
            go_wp2_with fail
            have hbF := put4_below (hbA) (Nat.le_refl _) (.int .i64 0) (.int .i64 0) (.string ⟨#[]⟩) (.slice none 0 0)
            obtain ⟨z0, z1, z2, z3, -⟩ := box_cells (put4_at (HH3.out) (.int .i64 0) (.int .i64 0) (.string ⟨#[]⟩) (.slice none 0 0))
            change bodyPost _ _ _ _ _ (put4 (W3) w.heap.size (.int .i64 0) (.int .i64 0) (.string ⟨#[]⟩) (.slice none 0 0))
            generalize put4 (W3) w.heap.size (.int .i64 0) (.int .i64 0) (.string ⟨#[]⟩) (.slice none 0 0) = WF at *
            exact bodyPost_ret (v := .tuple #[(mkLeaf 0 0 ⟨#[]⟩).val, .int .i64 4]) (by simp [results, Tryz.results30, go_sem, z0, z1, z2, z3, Vl.val, Vl.cells, Vl.kind, Vl.num, Vl.text, Vl.sl, Vl.addr, Vl.items, Vl.cap]) rfl (dec_fail (by rw [HDEC.out, if_neg hcv]) hbF)
        · have HDE : Hid (decode s.data.toList = (zeroV, 3)) := HD.out.stop hsn HS0.out hA
          obtain ⟨e0, e1, e2, e3, f0⟩ := box_cells HHR.out
          cases m with
          | zero =>
            have hnk1 : ((nk : Int) != 1) = true := by
              rw [bne_iff_ne]
              intro h
              exact hA ⟨List.eq_nil_of_length_eq_zero hmm.out.symm, by rw [<- HNB.out]; omega⟩
            go_wp2_with fail
            have hbF := put4_below (HB0.out) (Nat.le_refl _) (.int .i64 0) (.int .i64 0) (.string ⟨#[]⟩) (.slice none 0 0)
            obtain ⟨z0, z1, z2, z3, -⟩ := box_cells (put4_at (HHR.out) (.int .i64 0) (.int .i64 0) (.string ⟨#[]⟩) (.slice none 0 0))
            change bodyPost _ _ _ _ _ (put4 (wr) w.heap.size (.int .i64 0) (.int .i64 0) (.string ⟨#[]⟩) (.slice none 0 0))
            generalize put4 (wr) w.heap.size (.int .i64 0) (.int .i64 0) (.string ⟨#[]⟩) (.slice none 0 0) = WF at *
            exact bodyPost_ret (v := .tuple #[(mkLeaf 0 0 ⟨#[]⟩).val, .int .i64 3]) (by simp [results, Tryz.results30, go_sem, z0, z1, z2, z3, Vl.val, Vl.cells, Vl.kind, Vl.num, Vl.text, Vl.sl, Vl.addr, Vl.items, Vl.cap]) rfl (dec_fail (HDE.out) hbF)
          | succ m =>
            have hmn : ((m : Int) + 1 + 1 != 1) = true := by rw [bne_iff_ne]; omega
            go_wp2_with fail
            have hbF := put4_below (HB0.out) (Nat.le_refl _) (.int .i64 0) (.int .i64 0) (.string ⟨#[]⟩) (.slice none 0 0)
            obtain ⟨z0, z1, z2, z3, -⟩ := box_cells (put4_at (HHR.out) (.int .i64 0) (.int .i64 0) (.string ⟨#[]⟩) (.slice none 0 0))
            change bodyPost _ _ _ _ _ (put4 (wr) w.heap.size (.int .i64 0) (.int .i64 0) (.string ⟨#[]⟩) (.slice none 0 0))
            generalize put4 (wr) w.heap.size (.int .i64 0) (.int .i64 0) (.string ⟨#[]⟩) (.slice none 0 0) = WF at *
            exact bodyPost_ret (v := .tuple #[(mkLeaf 0 0 ⟨#[]⟩).val, .int .i64 3]) (by simp [results, Tryz.results30, go_sem, z0, z1, z2, z3, Vl.val, Vl.cells, Vl.kind, Vl.num, Vl.text, Vl.sl, Vl.addr, Vl.items, Vl.cap]) rfl (dec_fail (HDE.out) hbF)
end Go.Proofs.YtlbcmeebcfalpaaGreatDoor
