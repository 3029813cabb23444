/- Joined: IVsm, ITo1, ITl, ITlA, ITlB. -/
import Derived.Test.YtlbcmeebcfalpaaGreatDoorR03
import Derived.Test.YtlbcmeebcfalpaaGreatDoorR12
import Derived.Test.YtlbcmeebcfalpaaGreatDoorR07
import Derived.Test.YtlbcmeebcfalpaaGreatDoorR06
import Derived.Test.YtlbcmeebcfalpaaGreatDoorR10
set_option linter.unusedVariables false
set_option linter.unusedSimpArgs false
set_option maxRecDepth 100000
set_option maxHeartbeats 16000000
namespace Go.Proofs.YtlbcmeebcfalpaaGreatDoor
open Go.RowKit

mutual
/-- Every list of items has at most 70000. -/
def SmV : V -> Prop
  | .mk _ _ _ l => l.length <= 70000 /\ SmVL l
def SmVL : List V -> Prop
  | [] => True
  | v :: r => SmV v /\ SmVL r
end
theorem smVL_iff : ∀ l : List V, SmVL l ↔ ∀ u ∈ l, SmV u
  | [] => by simp [SmVL]
  | v :: r => by rw [SmVL, smVL_iff r]; simp
theorem smV_iff {v : V} : SmV v ↔ v.items.length <= 70000 /\ ∀ u ∈ v.items, SmV u := by
  cases v with | mk k n t l => rw [SmV, smVL_iff]; rfl
theorem smV_cnt (v : V) : ∀ n k, cntD n v = some k -> k <= 65536 -> allV v = 0 -> SmV v := by
  induction v using V.ind with
  | h v ih =>
    intro n k h hk ha
    obtain ⟨hs, hi⟩ := allV_items ha
    obtain ⟨hkd, -, -, h3, h1, h2⟩ := singV_ok hs
    by_cases h3' : v.kind = 3
    · cases n with
      | zero => cases h
      | succ n =>
        unfold cntD at h
        rw [if_pos h3'] at h
        obtain ⟨e1, e2⟩ := cnt_fold v.items 1 k h
        refine smV_iff.2 ⟨by omega, fun u hu => ?_⟩
        obtain ⟨j, hj, hjk⟩ := e2 u hu
        exact ih u hu n j hj (by omega) (hi u hu)
    · refine smV_iff.2 ?_
      rw [h3 h3']
      exact ⟨by simp, fun u hu => by cases hu⟩
theorem smV_chk {v : V} (h : chkV v = 0) : SmV v := by
  obtain ⟨k, h1, h2⟩ := chkV_cnt h
  exact smV_cnt v 64 k h1 h2 (chkV_all h)
theorem walk_sm : ∀ (N : Nat) (v : Vl), SizeOf.sizeOf v <= N -> ∀ (S : Nat -> Prop) (w : World) (most : Int), Rd S w v -> 0 <= most -> most <= 4000 -> Calls Tryz.prog 48 #[v.val, .int .i64 most] w fun e w' => ∃ (n : Int) (g : Bool), e = .returned (.tuple #[.int .i64 n, .bool g]) /\ 1 <= n /\ n <= most + 1 /\ (n <= most -> SmV v.er) /\ Below w.heap.size w w' := by
  intro N
  induction N with
  | zero => intro v h; have : 0 < SizeOf.sizeOf v := by { cases v; simp; omega }; omega
  | succ N IHN =>
  rintro ⟨k, nn, t, a, c, l⟩ hsz S w most hr h0 h1
  have hb1 : Below w.heap.size w (w.alloc (.cells #[.int .i64 k, .int .i64 nn, .string t, .slice a l.length c] 24)) := (Below.refl _ _).alloc (Nat.le_refl _) _
  have hv0 := World.alloc_heap_new w (.cells #[.int .i64 k, .int .i64 nn, .string t, .slice a l.length c] 24)
  have hr0 := hr.below hb1
  have hs1 : (w.alloc (.cells #[.int .i64 k, .int .i64 nn, .string t, .slice a l.length c] 24)).heap.size = w.heap.size + 1 := by simp
  have hvals := (rd_iff.1 hr0).2.2.2
  have htx := (rd_iff.1 hr0).2.2.1
  have IH : Hid (∀ (u : Vl), u ∈ l -> ∀ (w : World) (most : Int), Rd S w u -> 0 <= most -> most <= 4000 -> Calls Tryz.prog 48 #[u.val, .int .i64 most] w fun e w' => ∃ (n : Int) (g : Bool), e = .returned (.tuple #[.int .i64 n, .bool g]) /\ 1 <= n /\ n <= most + 1 /\ (n <= most -> SmV u.er) /\ Below w.heap.size w w') := fun u hu w most hr h0 h1 =>
    IHN u (by have := List.sizeOf_lt_of_mem hu; simp at hsz; omega) S w most hr h0 h1
  have HV := hiq hvals
  have HB := hiq hb1
  have HC := hiq hv0
  have HS1 := hiq hs1
  have hlen : l.length * 56 <= 140737488355328 := hvals.2.2.1
  have x2 := cell_box hv0 2 rfl
  clear hr hr0 hvals hb1 hv0 hs1 IHN hsz
  change Calls _ _ #[.agg #[.int .i64 k, .int .i64 nn, .string t, .slice a l.length c], .int .i64 most] _ _
  go_enter Tryz.func48, Tryz.ntmps48
  go_wp2_with fail
  have x2d : ((w.alloc (.cells #[.int .i64 k, .int .i64 nn, .string t, .slice a l.length c] 24))).drew.cell? ⟨w.heap.size, 2, none⟩ = some (.string t) := x2
  go_region
  have hd : Below ((w.alloc (.cells #[.int .i64 k, .int .i64 nn, .string t, .slice a l.length c] 24))).heap.size (w.alloc (.cells #[.int .i64 k, .int .i64 nn, .string t, .slice a l.length c] 24)) ((w.alloc (.cells #[.int .i64 k, .int .i64 nn, .string t, .slice a l.length c] 24))).drew := (Below.refl _ _).drew
  have HD := hiq hd
  clear x2 x2d hd
  go_wp2_with fail
  generalize ((w.alloc (.cells #[.int .i64 k, .int .i64 nn, .string t, .slice a l.length c] 24))).drew = W1 at *
  generalize (w.alloc (.cells #[.int .i64 k, .int .i64 nn, .string t, .slice a l.length c] 24)) = W0 at *
  go_loopw [6, 7, 8] (fun n g i wr => ∃ (j : Nat) (m : Int) (b : Bool), n = .int .i64 m /\ g = .bool b /\ i = .int .i64 (j : Int) /\ j <= l.length /\ 1 <= m /\ m <= most + 1 /\ Hid (m <= most -> (j : Int) + 1 <= m /\ ∀ u ∈ l.take j, SmV u.er) /\ Below W0.heap.size W0 wr) (fun _ _ i _ => l.length - (intOf i).toNat)
  case atStart => exact ⟨0, 1, _, rfl, rfl, rfl, Nat.zero_le _, by omega, by omega, (fun _ => ⟨by omega, fun u hu => by simp at hu⟩), HD.out⟩
  case round =>
    obtain ⟨j, m, b, rfl, rfl, rfl, hj, hm1, hm2, hsm, hb⟩ := hrel
    have hv := (hb.block w.heap.size (by have := HS1.out; omega)).trans HC.out
    have x3 := cell_box hv 3 rfl
    by_cases hjn : j < l.length /\ m <= most
    · obtain ⟨hjn, hmm⟩ := hjn
      obtain ⟨u, bb, off, hu, hmem, rfl, hSb, hbl, ⟨y0, y1, y2, y3⟩, hru⟩ := (HV.out.below hb).get hjn
      have hnx : Hid (∀ m2 : Int, m + m2 <= most -> (m2 <= most - m -> SmV u.er) -> 1 <= m2 -> ((j + 1 : Nat) : Int) + 1 <= m + m2 /\ ∀ x ∈ l.take (j + 1), SmV x.er) := fun m2 h1 h2 h3 => by
        obtain ⟨e1, e2⟩ := hsm.out hmm
        refine ⟨by omega, fun x hx => ?_⟩
        rw [List.take_add_one, show l[j]? = some u from hu] at hx
        rcases List.mem_append.1 hx with hx | hx
        · exact e2 x hx
        · obtain rfl : x = u := by simpa using hx
          exact h2 (by omega)
      obtain ⟨k', nn', t', a', c', l'⟩ := u
      dsimp only [Vl.kind, Vl.num, Vl.text, Vl.sl, Vl.addr, Vl.items, Vl.cap] at y0 y1 y2 y3
      have HM := hiq (IH.out _ hmem wr (most - m) hru (by omega) (by omega))
      dsimp only [Vl.val, Vl.cells, Vl.kind, Vl.num, Vl.text, Vl.sl, Vl.addr, Vl.items, Vl.cap] at HM
      have HBW := hiq hb
      clear hb hru hmem hu hv hSb
      go_wp2_with fail
      refine HM.out.mono ?_
      rintro e w2 ⟨m2, g2, rfl, h3, h4, h5, hb2⟩
      have HNX : Hid (m + m2 <= most -> ((j + 1 : Nat) : Int) + 1 <= m + m2 /\ ∀ x ∈ l.take (j + 1), SmV x.er) := fun h => hnx.out m2 h h5 h3
      clear h5 hnx hsm
      have HB2 := hiq (HBW.out.trans (hb2.mono HBW.out.size))
      clear hb2 HM
      cases b
      all_goals
        go_wp2_with fail
        go_roundw
        case rel => exact ⟨j + 1, m + m2, _, by go_num, rfl, by go_num, by omega, by omega, by omega, HNX.out, HB2.out⟩
        case measure => simp [intOf]; omega
    · have hfin : Hid (m <= most -> SmV (Vl.mk k nn t a c l).er) := fun h => by
        obtain ⟨e1, e2⟩ := hsm.out h
        have hjl : j = l.length := by omega
        subst hjl
        rw [List.take_length] at e2
        refine smV_iff.2 ⟨by rw [Vl.er_items]; show (l.map Vl.er).length <= _; rw [List.length_map]; omega, fun u hu => ?_⟩
        rw [Vl.er_items] at hu
        obtain ⟨x, hx, rfl⟩ := List.mem_map.1 hu
        exact e2 x hx
      have hz := HB.out.trans (hb.mono HB.out.size)
      rcases (show (¬ j < l.length) \/ (j < l.length /\ most < m) by omega) with hc | ⟨hc1, hc2⟩
      all_goals
        clear hjn hv
        go_wp2
        exact bodyPost_ret (results_tmp2 rfl _ _ _) rfl ⟨m, b, rfl, hm1, hm2, hfin.out, hz⟩
theorem great_sm (S : Nat -> Prop) : ∀ (v : Vl) (w : World), Rd S w v -> Calls Tryz.prog 27 #[v.val] w fun e w' => ∃ g : Bool, e = .returned (.bool g) /\ (g = false -> SmV v.er) /\ Below w.heap.size w w'
  | .mk k nn t a c l, w, hr => by
    have hb1 : Below w.heap.size w (w.alloc (.cells #[.int .i64 k, .int .i64 nn, .string t, .slice a l.length c] 24)) := (Below.refl _ _).alloc (Nat.le_refl _) _
    have HM := hiq (walk_sm _ (.mk k nn t a c l) (Nat.le_refl _) S _ 4000 (hr.below hb1) (by omega) (by omega))
    dsimp only [Vl.val, Vl.cells, Vl.kind, Vl.num, Vl.text, Vl.sl, Vl.addr, Vl.items, Vl.cap] at HM
    have HB := hiq hb1
    clear hr hb1
    change Calls _ _ #[.agg #[.int .i64 k, .int .i64 nn, .string t, .slice a l.length c]] _ _
    go_enter Tryz.func27, Tryz.ntmps27
    go_wp2_with fail
    refine HM.out.mono ?_
    generalize (w.alloc (.cells #[.int .i64 k, .int .i64 nn, .string t, .slice a l.length c] 24)) = W0 at *
    rintro e w2 ⟨n, g, rfl, h1, h2, h3, hb2⟩
    have H3 := hiq h3
    clear h3
    have hz := HB.out.trans (hb2.mono HB.out.size)
    clear hb2 HM
    by_cases h4 : n = 4001
    · subst h4
      go_wp2
      go_ret
      exact ⟨_, rfl, (fun h => by simp at h), hz⟩
    · have h5 : n <= 4000 := by omega
      go_wp2
      go_ret
      exact ⟨_, rfl, (fun _ => H3.out h5), hz⟩
theorem GreatValue_sm (S : Nat -> Prop) (v : Vl) (w : World) (hr : Rd S w v) : Calls Tryz.prog 9 #[v.val] w fun e w' => ∃ g : Bool, e = .returned (.bool g) /\ (g = false -> SmV v.er) /\ Below w.heap.size w w' := by
  obtain ⟨k, nn, t, a, c, l⟩ := v
  have hb1 : Below w.heap.size w (w.alloc (.cells #[.int .i64 k, .int .i64 nn, .string t, .slice a l.length c] 24)) := (Below.refl _ _).alloc (Nat.le_refl _) _
  have hv0 := World.alloc_heap_new w (.cells #[.int .i64 k, .int .i64 nn, .string t, .slice a l.length c] 24)
  have HM := hiq (great_sm S (.mk k nn t a c l) _ (hr.below hb1))
  dsimp only [Vl.val, Vl.cells, Vl.kind, Vl.num, Vl.text, Vl.sl, Vl.addr, Vl.items, Vl.cap] at HM
  have HB := hiq hb1
  clear hr hb1
  change Calls _ _ #[.agg #[.int .i64 k, .int .i64 nn, .string t, .slice a l.length c]] _ _
  go_enter Tryz.func9, Tryz.ntmps9
  go_wp2_with fail
  refine HM.out.mono ?_
  rintro e U2 ⟨g, rfl, h3, hb3⟩
  have H3 := hiq h3
  clear h3
  have HZ := hiq (HB.out.trans (hb3.mono HB.out.size))
  clear hb3 HM
  go_wp2
  go_ret
  exact ⟨_, rfl, H3.out, HZ.out⟩
end Go.Proofs.YtlbcmeebcfalpaaGreatDoor
namespace Go.Proofs.YtlbcmeebcfalpaaGreatDoor
open Go.RowKit

/-- What reading data of a type out of a value answers. -/
def ToQ (ty : Ty) (x : V) (w : World) (e : Ending) (w' : World) : Prop :=
  ∃ (d : Dv) (ok : Bool), e = .returned (.tuple #[d.val, .bool ok]) /\ Has ty d /\ RdD (NewB w w') w' d /\ Below w.heap.size w w' /\ (ok = true ↔ Fit ty x) /\ (ok = true -> d.toV = nrm x)
theorem toInt_ref (S : Nat -> Prop) (v : Vl) (w : World) (hr : Rd S w v) : Calls Tryz.prog 84 #[v.val] w (ToQ .int v.er w) := by
  obtain ⟨k, nn, t, a, c, l⟩ := v
  have HN : Hid (I64 nn) := (rd_iff.1 hr).2.1
  have HF : Hid (∀ W', Below w.heap.size w W' -> ToQ .int (Vl.mk k nn t a c l).er w (.returned (.tuple #[.int .i64 nn, .bool (k == 1)])) W') := fun W' hb =>
    ⟨.int nn, (k == 1), rfl, .int _, HN.out, hb, by rw [fit_int, Vl.er_kind]; simp [Vl.kind], fun h => by rw [nrm_int (by rw [Vl.er_kind]; show k = 1; simpa using h), Vl.er_num]; rfl⟩
  clear hr
  generalize ToQ .int (Vl.mk k nn t a c l).er w = P at *
  have hb1 : Below w.heap.size w (w.alloc (.cells #[.int .i64 k, .int .i64 nn, .string t, .slice a l.length c] 24)) := (Below.refl _ _).alloc (Nat.le_refl _) _
  have hv0 := World.alloc_heap_new w (.cells #[.int .i64 k, .int .i64 nn, .string t, .slice a l.length c] 24)
  obtain ⟨y0, y1, y2, y3, -⟩ := box_cells hv0
  have HB := hiq hb1
  clear hb1 hv0
  change Calls _ _ #[.agg #[.int .i64 k, .int .i64 nn, .string t, .slice a l.length c]] _ _
  go_enter Tryz.func84, Tryz.ntmps84
  go_wp2_with fail
  generalize World.alloc _ _ = W1 at *
  by_cases h : k = 1
  · subst h
    go_quiet (fail)
    go_wp2
    exact HF.out _ (HB.out.trans (((Drew.refl W1).drewN _).below _))
  · have h1 : (k == 1) = false := by simpa using h
    rw [h1] at HF
    go_quiet (fail)
    go_wp2
    exact HF.out _ (HB.out.trans (((Drew.refl W1).drewN _).below _))
theorem toText_ref (S : Nat -> Prop) (v : Vl) (w : World) (hr : Rd S w v) : Calls Tryz.prog 77 #[v.val] w (ToQ .text v.er w) := by
  obtain ⟨k, nn, t, a, c, l⟩ := v
  have HN : Hid (t.size <= 140737488355328) := (rd_iff.1 hr).2.2.1
  have HF : Hid (∀ W', Below w.heap.size w W' -> ToQ .text (Vl.mk k nn t a c l).er w (.returned (.tuple #[.string t, .bool (k == 2)])) W') := fun W' hb =>
    ⟨.text t, (k == 2), rfl, .text _, HN.out, hb, by rw [fit_text, Vl.er_kind]; simp [Vl.kind], fun h => by rw [nrm_text (by rw [Vl.er_kind]; show k = 2; simpa using h), Vl.er_text]; rfl⟩
  clear hr
  generalize ToQ .text (Vl.mk k nn t a c l).er w = P at *
  have hb1 : Below w.heap.size w (w.alloc (.cells #[.int .i64 k, .int .i64 nn, .string t, .slice a l.length c] 24)) := (Below.refl _ _).alloc (Nat.le_refl _) _
  have hv0 := World.alloc_heap_new w (.cells #[.int .i64 k, .int .i64 nn, .string t, .slice a l.length c] 24)
  obtain ⟨y0, y1, y2, y3, -⟩ := box_cells hv0
  have HB := hiq hb1
  clear hb1 hv0
  change Calls _ _ #[.agg #[.int .i64 k, .int .i64 nn, .string t, .slice a l.length c]] _ _
  go_enter Tryz.func77, Tryz.ntmps77
  go_wp2_with fail
  generalize World.alloc _ _ = W1 at *
  by_cases h : k = 2
  · subst h
    go_quiet (fail)
    go_wp2
    exact HF.out _ (HB.out.trans (((Drew.refl W1).drewN _).below _))
  · have h1 : (k == 2) = false := by simpa using h
    rw [h1] at HF
    go_quiet (fail)
    go_wp2
    exact HF.out _ (HB.out.trans (((Drew.refl W1).drewN _).below _))
theorem toBool_ref (S : Nat -> Prop) (v : Vl) (w : World) (hr : Rd S w v) : Calls Tryz.prog 237 #[v.val] w (ToQ .bool v.er w) := by
  obtain ⟨k, nn, t, a, c, l⟩ := v
  have HF : Hid (∀ W', Below w.heap.size w W' -> ToQ .bool (Vl.mk k nn t a c l).er w (.returned (.tuple #[.bool (nn == 1), .bool (k == 1 && (nn == 0 || nn == 1))])) W') := fun W' hb =>
    ⟨.bool (nn == 1), (k == 1 && (nn == 0 || nn == 1)), rfl, .bool _, trivial, hb, by rw [fit_bool, Vl.er_kind, Vl.er_num]; simp [Vl.kind, Vl.num], fun h => by
      simp at h
      rw [nrm_int (by rw [Vl.er_kind]; exact h.1), Vl.er_num, Dv.toV]
      rcases h.2 with h | h
      · subst h; rfl
      · subst h; rfl⟩
  clear hr
  generalize ToQ .bool (Vl.mk k nn t a c l).er w = P at *
  have hb1 : Below w.heap.size w (w.alloc (.cells #[.int .i64 k, .int .i64 nn, .string t, .slice a l.length c] 24)) := (Below.refl _ _).alloc (Nat.le_refl _) _
  have hv0 := World.alloc_heap_new w (.cells #[.int .i64 k, .int .i64 nn, .string t, .slice a l.length c] 24)
  obtain ⟨y0, y1, y2, y3, -⟩ := box_cells hv0
  have HB := hiq hb1
  clear hb1 hv0
  change Calls _ _ #[.agg #[.int .i64 k, .int .i64 nn, .string t, .slice a l.length c]] _ _
  go_enter Tryz.func237, Tryz.ntmps237
  go_wp2_with fail
  generalize World.alloc _ _ = W1 at *
  by_cases h : k = 1
  · subst h
    by_cases h0 : nn = 0
    · subst h0
      go_quiet (fail)
      go_wp2
      exact HF.out _ (HB.out.trans (((Drew.refl W1).drewN _).below _))
    · have h00 : (nn == 0) = false := by simpa using h0
      by_cases h2 : nn = 1
      · subst h2
        go_quiet (fail)
        go_wp2
        exact HF.out _ (HB.out.trans (((Drew.refl W1).drewN _).below _))
      · have h22 : (nn == 1) = false := by simpa using h2
        rw [h00, h22] at HF
        go_quiet (fail)
        go_wp2
        exact HF.out _ (HB.out.trans (((Drew.refl W1).drewN _).below _))
  · have h1 : (k == 1) = false := by simpa using h
    rw [h1] at HF
    by_cases h2 : nn = 1
    · subst h2
      go_quiet (fail)
      go_wp2
      exact HF.out _ (HB.out.trans (((Drew.refl W1).drewN _).below _))
    · have h22 : (nn == 1) = false := by simpa using h2
      rw [h22] at HF
      go_quiet (fail)
      go_wp2
      exact HF.out _ (HB.out.trans (((Drew.refl W1).drewN _).below _))
theorem fields_ref (v : Vl) (m : Nat) (w : World) (hl : v.items.length <= 70000) (hm : m <= 100) : Calls Tryz.prog 76 #[v.val, .int .i64 (m : Int)] w fun e w' => e = .returned (.bool (decide (v.kind = 3 /\ v.items.length = m))) /\ Below w.heap.size w w' := by
  obtain ⟨k, nn, t, a, c, l⟩ := v
  have hb1 : Below w.heap.size w (w.alloc (.cells #[.int .i64 k, .int .i64 nn, .string t, .slice a l.length c] 24)) := (Below.refl _ _).alloc (Nat.le_refl _) _
  have hv0 := World.alloc_heap_new w (.cells #[.int .i64 k, .int .i64 nn, .string t, .slice a l.length c] 24)
  obtain ⟨y0, y1, y2, y3, -⟩ := box_cells hv0
  have HB := hiq hb1
  clear hb1 hv0
  change l.length <= 70000 at hl
  change Calls _ _ #[.agg #[.int .i64 k, .int .i64 nn, .string t, .slice a l.length c], .int .i64 (m : Int)] _ _
  have HF : Hid (∀ W', Below w.heap.size w W' -> (fun e w' => e = Ending.returned (.bool (decide ((Vl.mk k nn t a c l).kind = 3 /\ (Vl.mk k nn t a c l).items.length = m))) /\ Below w.heap.size w w') (.returned (.bool (decide (k = 3 /\ l.length = m)))) W') := fun W' hb => ⟨rfl, hb⟩
  generalize (fun e w' => e = Ending.returned (.bool (decide ((Vl.mk k nn t a c l).kind = 3 /\ (Vl.mk k nn t a c l).items.length = m))) /\ Below w.heap.size w w') = P at *
  by_cases h : k = 3
  · subst h
    by_cases h2 : l.length = m
    · rw [decide_eq_true ⟨rfl, h2⟩] at HF
      obtain rfl : m = l.length := h2.symm
      clear h2
      go_enter Tryz.func76, Tryz.ntmps76
      go_wp2
      exact HF.out _ HB.out
    · rw [decide_eq_false (fun h => h2 h.2)] at HF
      have hf : ((l.length : Int) == (m : Int)) = false := by simpa using fun e : (l.length : Int) = m => h2 (by omega)
      go_enter Tryz.func76, Tryz.ntmps76
      go_wp2
      exact HF.out _ HB.out
  · rw [decide_eq_false (fun h2 => h h2.1)] at HF
    go_enter Tryz.func76, Tryz.ntmps76
    go_wp2
    exact HF.out _ HB.out
end Go.Proofs.YtlbcmeebcfalpaaGreatDoor
namespace Go.Proofs.YtlbcmeebcfalpaaGreatDoor
open Go.RowKit

namespace LT
@[reducible] def tf : LT -> FuncId | op => 255 | dec => 256 | rew => 184 | grp => 186 | pat => 187 | sec => 188 | rul => 185 | wit => 183 | nod => 253 | exp => 233 | cst => 80 | sty => 86 | edi => 35 | int => 84 | bool => 237 | text => 77 | _ => 0
@[reducible] def tlf : LT -> FuncId | op => 235 | dec => 236 | rew => 79 | grp => 82 | pat => 83 | sec => 85 | rul => 81 | wit => 78 | nod => 232 | exp => 254 | int => 234 | bool => 189 | text => 190 | _ => 0
@[reducible] def isLA : LT -> Bool | op => true | dec => true | rew => true | grp => true | pat => true | sec => true | rul => true | wit => true | nod => true | exp => true | _ => false
@[reducible] def isLB : LT -> Bool | int => true | bool => true | text => true | _ => false
end LT
theorem OwnD.made0 (e k : Nat) (w : World) : OwnD e k (w.alloc (.cells #[] e)) w.heap.size (some ⟨w.heap.size, 0, none⟩) 0 0 [] :=
  ⟨rfl, by simp, World.ownsRow_made w #[] 0 (Nat.le_refl _) (Nat.zero_le _) (by simp), fun _ => False, (fun _ h => h.elim), (fun _ _ h => h.elim), by simp⟩
/-- The world behind the box that a round makes, where there is one. -/
@[reducible] def LT.behind (T : LT) (d : Dv) (V : World) : World := match T.isS with | true => V.alloc (.cells d.cells.toArray T.tid) | false => V
@[reducible] def LT.bx (T : LT) (V : World) : Nat := match T.isS with | true => V.heap.size + 1 | false => V.heap.size
theorem LT.bx_eq (T : LT) (d : Dv) (V : World) : T.bx V = (T.behind d V).heap.size := by
  unfold LT.bx LT.behind
  split <;> simp
theorem LT.behind_below (T : LT) (d : Dv) (V : World) : Below V.heap.size V (T.behind d V) := by
  unfold LT.behind
  split
  · exact (Below.refl _ _).alloc (Nat.le_refl _) _
  · exact Below.refl _ _
/-- A round of reading a list. -/
def TRound (T : LT) (R : Value -> Nat -> World -> Prop) (P : Ending -> World -> Prop) (B bv : Nat) (k : Int) (a : Option Addr) (n c : Nat) (o : Value) (j : Nat) (wr : World) : Prop :=
  ∃ (a' : Option Addr) (c' : Nat), o = .slice a' j c' /\ j <= n /\ wr.cell? ⟨bv, 0, none⟩ = some (.int .i64 k) /\ wr.cell? ⟨bv, 3, none⟩ = some (.slice a n c) /\
    Hid (j < n -> ∃ (bb off : Nat) (k1 n1 : Int) (t1 : ByteArray) (a1 : Option Addr) (m1 c1 : Nat), a = some ⟨bb, off, none⟩ /\ wr.cell? ⟨bb, off + j * 4, none⟩ = some (.int .i64 k1) /\ wr.cell? ⟨bb, off + j * 4 + 1, none⟩ = some (.int .i64 n1) /\ wr.cell? ⟨bb, off + j * 4 + 2, none⟩ = some (.string t1) /\ wr.cell? ⟨bb, off + j * 4 + 3, none⟩ = some (.slice a1 m1 c1) /\
      Hid (Calls Tryz.prog T.tf #[.agg #[.int .i64 k1, .int .i64 n1, .string t1, .slice a1 m1 c1]] wr fun e V => ∃ (d : Dv) (ok : Bool) (ds : List Dv), e = .returned (.tuple #[d.val, .bool ok]) /\ T.Inv d /\ Hid (ok = false -> P (.returned (.tuple #[.slice none 0 0, .bool false])) (T.behind d V)) /\
        Hid (ok = true -> AppP T.tid T.k T.s ((T.behind d V).alloc (.cells d.cells.toArray T.tid)) B a' j c' ds d (T.bx V) /\ Hid (∀ a8 c8 w8, OwnD T.tid T.k w8 B a8 (j + 1) c8 (ds ++ [d]) -> Below B ((T.behind d V).alloc (.cells d.cells.toArray T.tid)) w8 -> R (.slice a8 (j + 1) c8) (j + 1) w8)))) /\
    Hid (j = n -> ∀ V', Below wr.heap.size wr V' -> P (.returned (.tuple #[.slice a' j c', .bool (k == 3)])) V')
theorem tl_abs (T : LT) {S : Nat -> Prop} {k nn : Int} {t : ByteArray} {a : Option Addr} {c : Nat} {l : List Vl} {w : World} (hr : Rd S w (.mk k nn t a c l)) (hS : ∀ b, S b -> b < w.heap.size) (hn : l.length <= 70000)
    (hit : ∀ u ∈ l, ∀ W, Below w.heap.size w W -> Calls Tryz.prog T.tf #[u.val] W (ToQ T.ty u.er W)) :
    ∃ R : Value -> Nat -> World -> Prop, R (.slice (some ⟨w.heap.size + 1, 0, none⟩) 0 0) 0 ((w.alloc (.cells #[.int .i64 k, .int .i64 nn, .string t, .slice a l.length c] 24)).alloc (.cells #[] T.tid)) /\ ∀ o j wr, R o j wr -> TRound T R (ToQ (.list T.k T.s T.ty) (Vl.mk k nn t a c l).er w) (w.heap.size + 1) w.heap.size k a l.length c o j wr := by
  have hb1 : Below w.heap.size w (w.alloc (.cells #[.int .i64 k, .int .i64 nn, .string t, .slice a l.length c] 24)) := (Below.refl _ _).alloc (Nat.le_refl _) _
  have hs1 : (w.alloc (.cells #[.int .i64 k, .int .i64 nn, .string t, .slice a l.length c] 24)).heap.size = w.heap.size + 1 := by simp
  have hv0 := World.alloc_heap_new w (.cells #[.int .i64 k, .int .i64 nn, .string t, .slice a l.length c] 24)
  have hvl := (rd_iff.1 (hr.below hb1)).2.2.2
  have hm0 := OwnD.made0 T.tid T.k (w.alloc (.cells #[.int .i64 k, .int .i64 nn, .string t, .slice a l.length c] 24))
  rw [hs1] at hm0
  have hbm : Below (w.heap.size + 1) (w.alloc (.cells #[.int .i64 k, .int .i64 nn, .string t, .slice a l.length c] 24)) ((w.alloc (.cells #[.int .i64 k, .int .i64 nn, .string t, .slice a l.length c] 24)).alloc (.cells #[] T.tid)) := (Below.refl _ _).alloc (by omega) _
  refine ⟨fun o j wr => ∃ (a' : Option Addr) (c' : Nat) (ds : List Dv), o = .slice a' j c' /\ j <= l.length /\ OwnD T.tid T.k wr (w.heap.size + 1) a' j c' ds /\ (∀ d ∈ ds, Has T.ty d) /\ (∀ u ∈ l.take j, Fit T.ty u.er) /\ ds.map Dv.toV = (l.take j).map (fun u => nrm u.er) /\ Below (w.heap.size + 1) (w.alloc (.cells #[.int .i64 k, .int .i64 nn, .string t, .slice a l.length c] 24)) wr, ⟨_, _, [], rfl, Nat.zero_le _, hm0, (fun d hd => by cases hd), (fun u hu => by simp at hu), rfl, hbm⟩, ?_⟩
  rintro o j wr ⟨a', c', ds, rfl, hj, hO, hT, hF, hV, hb⟩
  have hbw : Below w.heap.size w wr := hb1.trans (hb.mono (Nat.le_succ _))
  have hwz := hb.size
  have hvw := (hb.block w.heap.size (by omega)).trans hv0
  obtain ⟨y0, -, -, y3, -⟩ := box_cells hvw
  have hks := T.kpos.2
  refine ⟨a', c', rfl, hj, y0, y3, fun hjl => ?_, fun hjl => ?_⟩
  · have hvr : Vals S wr a l.length c l := hvl.keep ⟨hb.size, fun b cs tt fr hs hbx => by rw [hb.block b (by have := hS b hs; omega)]; exact hbx⟩
    obtain ⟨u, bb, off, hu, hmem, ha, -, -, ⟨z0, z1, z2, z3⟩, hru⟩ := hvr.get hjl
    obtain ⟨k1, n1, t1, a1, c1, l1⟩ := u
    refine ⟨bb, off, k1, n1, t1, a1, l1.length, c1, ha, z0, z1, z2, z3, (hit _ hmem wr hbw).mono ?_⟩
    rintro e V ⟨d, ok, he, hTd, hrd, hbV, hiff, htv⟩
    have hVz := hbV.size
    have hV' := T.behind_below d V
    obtain ⟨V', hVV⟩ : ∃ V', V' = T.behind d V := ⟨_, rfl⟩
    rw [<- hVV] at hV'
    refine ⟨d, ok, ds, he, T.inv hTd, fun hok => ?_, fun hok => ?_⟩
    · rw [<- hVV]
      refine ⟨.list T.k T.s none 0 [], false, rfl, .list (fun d hd => by cases hd), rdD_list.2 (Items.nil _ _ _ _), hbw.trans ((hbV.trans (hV'.mono hVz)).mono hbw.size), ⟨(fun h => by cases h), fun h => ?_⟩, (fun h => by cases h)⟩
      rw [fit_list, Vl.er_items] at h
      have := hiff.2 (h.2 _ (List.mem_map_of_mem hmem))
      rw [hok] at this; cases this
    · rw [T.bx_eq d V, <- hVV]
      have hV'z := hV'.size
      have hb6 : Below V'.heap.size V' (V'.alloc (.cells d.cells.toArray T.tid)) := (Below.refl _ _).alloc (Nat.le_refl _) _
      have hs6 : (V'.alloc (.cells d.cells.toArray T.tid)).heap.size = V'.heap.size + 1 := by simp
      obtain ⟨q1, q2, q3, -⟩ := T.len hTd
      have hlo := hO.lt
      have hbV' := hbV.trans (hV'.mono hVz)
      have hO6 := (hO.below hbV').below hb6
      refine ⟨⟨hO6, fun i x hx => ?_, ⟨q1, q3⟩, ⟨NewB wr V, ((hrd.below hV').below hb6), fun b hb => ⟨by have := hb.1; omega, by rw [hs6]; have := hb.2; omega⟩, fun x hx hb => by have := (hlo x hx).2; have := hb.1; omega⟩, ⟨?_, by omega⟩, by rw [hs6]; omega⟩, fun a8 c8 w8 o8 b8 => ?_⟩
      · rw [Nat.zero_add]
        exact cell_box (World.alloc_heap_new V' _) i (by simpa using hx)
      · have : (j + 1) * T.s <= 70001 * 1000 := Nat.mul_le_mul (by omega) hks
        omega
      · refine ⟨a8, c8, ds ++ [d], rfl, by omega, o8, fun x hx => ?_, fun x hx => ?_, ?_, (hb.trans ((hbV'.trans (hb6.mono hbV'.size)).mono (by omega))).trans b8⟩
        · rcases List.mem_append.1 hx with hx | hx
          · exact hT x hx
          · rw [List.mem_singleton] at hx; subst hx; exact hTd
        · rw [List.take_add_one, show l[j]? = some (.mk k1 n1 t1 a1 c1 l1) from hu] at hx
          rcases List.mem_append.1 hx with hx | hx
          · exact hF x hx
          · obtain rfl : x = .mk k1 n1 t1 a1 c1 l1 := by simpa using hx
            exact hiff.1 hok
        · rw [List.take_add_one, show l[j]? = some (.mk k1 n1 t1 a1 c1 l1) from hu, List.map_append, List.map_append, hV]
          simp [htv hok]
  · subst hjl
    intro V' hV'
    rw [List.take_length] at hF hV
    have hlen : ds.length = l.length := by simpa using congrArg List.length hV
    have hst : l.length * T.s <= 140737488355328 := by
      have : l.length * T.s <= 70000 * 1000 := Nat.mul_le_mul hn hks
      omega
    have hI := (hO.below hV').items (s := T.s) hst
    refine ⟨.list T.k T.s a' c' ds, (k == 3), by rw [Dv.val, hlen], .list hT, rdD_list.2 ?_, hbw.trans (hV'.mono hbw.size), ?_, fun h => ?_⟩
    · rw [hlen]
      exact ⟨hI.1, hI.2.1, hI.2.2.1, fun j d hd => by
        obtain ⟨⟨b, off, e1, e2, e3⟩, e4⟩ := hI.2.2.2 j d hd
        exact ⟨⟨b, off, e1, ⟨by have := e2.1; omega, e2.2⟩, e3⟩, e4.mono fun b hb => ⟨by have := hb.1; omega, hb.2⟩⟩⟩
    · rw [fit_list, Vl.er_kind, Vl.er_items]
      constructor
      · intro h
        exact ⟨by show k = 3; simpa using h, fun u hu => by obtain ⟨x, hx, rfl⟩ := List.mem_map.1 hu; exact hF x hx⟩
      · intro h
        have : k = 3 := h.1
        simpa using this
    · rw [nrm_list (by rw [Vl.er_kind]; show k = 3; simpa using h), Dv.toV, Dv.toVL_map, hV, Vl.er_items, List.map_map]
      rfl
end Go.Proofs.YtlbcmeebcfalpaaGreatDoor
namespace Go.Proofs.YtlbcmeebcfalpaaGreatDoor
open Go.RowKit

theorem tla_any (T : LT) (hL : T.isLA = true) {S : Nat -> Prop} {v : Vl} {w : World} (hr : Rd S w v) (hS : ∀ b, S b -> b < w.heap.size) (hn : v.items.length <= 70000)
    (hit : ∀ u ∈ v.items, ∀ W, Below w.heap.size w W -> Calls Tryz.prog T.tf #[u.val] W (ToQ T.ty u.er W)) :
    Calls Tryz.prog T.tlf #[v.val] w (ToQ (.list T.k T.s T.ty) v.er w) := by
  obtain ⟨k, nn, t, a, c, l⟩ := v
  change l.length <= 70000 at hn
  change ∀ u ∈ l, _ at hit
  obtain ⟨R, hR0, hR⟩ := tl_abs T hr hS hn hit
  have HR0 := hiq hR0
  have HR := hiq hR
  have HI := hiq T.info
  have HU := hiq (T.und (by cases T <;> first | rfl | cases hL))
  obtain ⟨y0, y1, y2, y3, -⟩ := box_cells (World.alloc_heap_new w (.cells #[.int .i64 k, .int .i64 nn, .string t, .slice a l.length c] 24))
  clear hr hS hit hR0 hR
  change Calls _ _ #[.agg #[.int .i64 k, .int .i64 nn, .string t, .slice a l.length c]] _ _
  generalize ToQ (.list T.k T.s T.ty) (Vl.mk k nn t a c l).er w = P at *
  cases T
  case' op => go_enter Tryz.func235, Tryz.ntmps235
  case' dec => go_enter Tryz.func236, Tryz.ntmps236
  case' rew => go_enter Tryz.func79, Tryz.ntmps79
  case' grp => go_enter Tryz.func82, Tryz.ntmps82
  case' pat => go_enter Tryz.func83, Tryz.ntmps83
  case' sec => go_enter Tryz.func85, Tryz.ntmps85
  case' rul => go_enter Tryz.func81, Tryz.ntmps81
  case' wit => go_enter Tryz.func78, Tryz.ntmps78
  case' nod => go_enter Tryz.func232, Tryz.ntmps232
  case' exp => go_enter Tryz.func254, Tryz.ntmps254
  case cst => cases hL
  case sty => cases hL
  case edi => cases hL
  case int => cases hL
  case bool => cases hL
  case text => cases hL
  case pos => cases hL
  case tok => cases hL
  case inp => cases hL
  case toks => cases hL
  all_goals
    dsimp only [TRound, LT.tf, LT.k, LT.s, LT.zero, LT.isW, LT.sl, LT.Inv, LT.tid, LT.behind, LT.bx, LT.isS] at *
    go_wp2_with fail
    clear y0 y1 y2 y3
    generalize World.alloc (World.alloc _ _) _ = W1 at *
    go_loopw [4, 5] (fun o i wr => ∃ j : Nat, i = .int .i64 (j : Int) /\ R o j wr) (fun _ i _ => l.length - (intOf i).toNat)
    case atStart => exact ⟨0, rfl, HR0.out⟩
    case round =>
      obtain ⟨j, rfl, hrel⟩ := hrel
      obtain ⟨a', c', rfl, hj, x0, x3, hgo, hend⟩ := HR.out _ _ _ hrel
      clear hrel
      by_cases hlj : j < l.length
      · obtain ⟨bb, off, k1, n1, t1, a1, m1, c1, rfl, z0, z1, z2, z3, hcall⟩ := hgo.out hlj
        clear hgo hend
        go_wp2_with fail
        refine hcall.out.mono ?_
        rintro e V ⟨d, ok, ds, he, hi, hno, hyes⟩
        repeat (rcases (hi : ∃ _, _) with ⟨_, hi⟩)
        subst hi
        simp only [Dv.val, Dv.cells, Dv.cellsL, List.cons_append, List.nil_append, List.append_nil] at he hyes
        subst he
        clear hcall x0 x3 z0 z1 z2 z3
        cases ok
        · have HP := hiq (hno.out rfl)
          clear hno hyes
          go_wp2
          exact HP.out
        · have HP := hiq (hyes.out rfl)
          have HQ := hiq HP.out.1
          clear hno hyes
          go_wp2_with (at_builtin; refine wpList_appP HQ.out HI.out HU.out rfl (by decide) rfl (.tmp 27) (.tmp 29) rfl rfl rfl ?_; intro a8 c8 w8 o8 b8)
          go_roundw
          case rel => exact ⟨j + 1, by go_num, HP.out.2.out _ _ _ o8 b8⟩
          case measure => simp [intOf]; omega
      · obtain rfl : j = l.length := by omega
        have FL := hiq (hend.out rfl)
        clear hgo hend
        have HD : Hid (∀ n, Below wr.heap.size wr (wr.drewN n)) := fun n => (((Drew.refl wr).drewN n).below _)
        by_cases hk : k = 3
        · subst hk
          go_wp2_with fail
          go_quiet (fail)
          go_wp2
          exact FL.out _ (HD.out _)
        · have hk3 : (k == 3) = false := by simpa using hk
          rw [hk3] at FL
          go_wp2_with fail
          go_quiet (fail)
          go_wp2
          exact FL.out _ (HD.out _)
end Go.Proofs.YtlbcmeebcfalpaaGreatDoor
namespace Go.Proofs.YtlbcmeebcfalpaaGreatDoor
open Go.RowKit

theorem tlb_any (T : LT) (hL : T.isLB = true) {S : Nat -> Prop} {v : Vl} {w : World} (hr : Rd S w v) (hS : ∀ b, S b -> b < w.heap.size) (hn : v.items.length <= 70000)
    (hit : ∀ u ∈ v.items, ∀ W, Below w.heap.size w W -> Calls Tryz.prog T.tf #[u.val] W (ToQ T.ty u.er W)) :
    Calls Tryz.prog T.tlf #[v.val] w (ToQ (.list T.k T.s T.ty) v.er w) := by
  obtain ⟨k, nn, t, a, c, l⟩ := v
  change l.length <= 70000 at hn
  change ∀ u ∈ l, _ at hit
  obtain ⟨R, hR0, hR⟩ := tl_abs T hr hS hn hit
  have HR0 := hiq hR0
  have HR := hiq hR
  have HI := hiq T.info
  have HU := hiq (T.und (by cases T <;> first | rfl | cases hL))
  obtain ⟨y0, y1, y2, y3, -⟩ := box_cells (World.alloc_heap_new w (.cells #[.int .i64 k, .int .i64 nn, .string t, .slice a l.length c] 24))
  clear hr hS hit hR0 hR
  change Calls _ _ #[.agg #[.int .i64 k, .int .i64 nn, .string t, .slice a l.length c]] _ _
  generalize ToQ (.list T.k T.s T.ty) (Vl.mk k nn t a c l).er w = P at *
  cases T
  case' int => go_enter Tryz.func234, Tryz.ntmps234
  case' bool => go_enter Tryz.func189, Tryz.ntmps189
  case' text => go_enter Tryz.func190, Tryz.ntmps190
  case op => cases hL
  case dec => cases hL
  case rew => cases hL
  case grp => cases hL
  case pat => cases hL
  case sec => cases hL
  case rul => cases hL
  case wit => cases hL
  case nod => cases hL
  case exp => cases hL
  case cst => cases hL
  case sty => cases hL
  case edi => cases hL
  case pos => cases hL
  case tok => cases hL
  case inp => cases hL
  case toks => cases hL
  all_goals
    dsimp only [TRound, LT.tf, LT.k, LT.s, LT.zero, LT.isW, LT.sl, LT.Inv, LT.tid, LT.behind, LT.bx, LT.isS] at *
    go_wp2_with fail
    clear y0 y1 y2 y3
    generalize World.alloc (World.alloc _ _) _ = W1 at *
    go_loopw [4, 5] (fun o i wr => ∃ j : Nat, i = .int .i64 (j : Int) /\ R o j wr) (fun _ i _ => l.length - (intOf i).toNat)
    case atStart => exact ⟨0, rfl, HR0.out⟩
    case round =>
      obtain ⟨j, rfl, hrel⟩ := hrel
      obtain ⟨a', c', rfl, hj, x0, x3, hgo, hend⟩ := HR.out _ _ _ hrel
      clear hrel
      by_cases hlj : j < l.length
      · obtain ⟨bb, off, k1, n1, t1, a1, m1, c1, rfl, z0, z1, z2, z3, hcall⟩ := hgo.out hlj
        clear hgo hend
        go_wp2_with fail
        refine hcall.out.mono ?_
        rintro e V ⟨d, ok, ds, he, hi, hno, hyes⟩
        repeat (rcases (hi : ∃ _, _) with ⟨_, hi⟩)
        subst hi
        simp only [Dv.val, Dv.cells, Dv.cellsL, List.cons_append, List.nil_append, List.append_nil] at he hyes
        subst he
        clear hcall x0 x3 z0 z1 z2 z3
        cases ok
        · have HP := hiq (hno.out rfl)
          clear hno hyes
          go_wp2
          exact HP.out
        · have HP := hiq (hyes.out rfl)
          have HQ := hiq HP.out.1
          clear hno hyes
          go_wp2_with (at_builtin; refine wpList_appP HQ.out HI.out HU.out rfl (by decide) rfl (.tmp 27) (.tmp 29) rfl rfl rfl ?_; intro a8 c8 w8 o8 b8)
          go_roundw
          case rel => exact ⟨j + 1, by go_num, HP.out.2.out _ _ _ o8 b8⟩
          case measure => simp [intOf]; omega
      · obtain rfl : j = l.length := by omega
        have FL := hiq (hend.out rfl)
        clear hgo hend
        have HD : Hid (∀ n, Below wr.heap.size wr (wr.drewN n)) := fun n => (((Drew.refl wr).drewN n).below _)
        by_cases hk : k = 3
        · subst hk
          go_wp2_with fail
          go_quiet (fail)
          go_wp2
          exact FL.out _ (HD.out _)
        · have hk3 : (k == 3) = false := by simpa using hk
          rw [hk3] at FL
          go_wp2_with fail
          go_quiet (fail)
          go_wp2
          exact FL.out _ (HD.out _)
end Go.Proofs.YtlbcmeebcfalpaaGreatDoor
