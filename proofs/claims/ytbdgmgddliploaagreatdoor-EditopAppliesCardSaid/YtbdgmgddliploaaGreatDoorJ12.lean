/- Joined: EGrt2. -/
import Derived.Test.YtbdgmgddliploaaGreatDoorJ11
import Derived.Laws.EntriesVeiled
set_option linter.unusedVariables false
set_option linter.unusedSimpArgs false
set_option maxRecDepth 100000
set_option maxHeartbeats 16000000
namespace Go.Proofs.YtbdgmgddliploaaGreatDoor
open Go.RowKit

/-- The number that stands for what was found. -/
def numO : Option Nat -> Int | some k => (k : Int) | none => -1
theorem idx_first (l : List ByteArray) (s : ByteArray) : Lib.idxOfS l s = numO (firstFrom (fun k => decide (l[k]?.getD ⟨#[]⟩ = s)) l.length 0) := by
  unfold Lib.idxOfS
  cases e : firstFrom (fun k => decide (l[k]?.getD ⟨#[]⟩ = s)) l.length 0 with
  | some k =>
    obtain ⟨_, h2, h3, h4⟩ := firstFrom_some.1 e
    simp only [decide_eq_true_eq, decide_eq_false_iff_not] at h3 h4
    have := Lib.idxFromS_hit s l k 0 h2 (by rw [List.getD_eq_getElem?_getD]; exact h3) (fun j hj => by
      rw [List.getD_eq_getElem?_getD]; exact h4 j (Nat.zero_le _) hj)
    rw [this, Nat.zero_add]; rfl
  | none =>
    have h := firstFrom_none.1 e
    simp only [decide_eq_false_iff_not] at h
    exact Lib.idxFromS_miss s l 0 fun j hj => by rw [List.getD_eq_getElem?_getD]; exact h j (Nat.zero_le _) hj
theorem index_any (S : Nat -> Prop) (a : Option Addr) (n c : Nat) (x : Col) (s : ByteArray) (w : World) (h : Strs S w a n c x.sigla) :
    Calls Tryz.prog 69 #[.slice a n c, .string s] w fun e w' => e = .returned (.int .i64 (numO (x.src s))) /\ w = w' := by
  have hz : Lib.idxOfS x.sigla s = numO (x.src s) := idx_first _ _
  by_cases h0 : n = 0
  · have hl : x.sigla = [] := List.eq_nil_of_length_eq_zero (by rw [<- h.len]; exact h0)
    subst h0
    rw [<- hz, hl]
    refine (Tryz.slices_Index_string_empty a c s w).mono ?_
    rintro e w' ⟨rfl, rfl⟩
    exact ⟨rfl, rfl⟩
  · obtain ⟨b, off, rfl, -, -, hc⟩ := h.strs (by omega)
    have hb := h.bound
    refine (Tryz.slices_Index_string b off n c x.sigla s w (by rw [<- h.len]; exact Nat.le_refl _) (by omega) hc.out).mono ?_
    rintro e w' ⟨rfl, rfl⟩
    rw [List.take_of_length_le (by rw [<- h.len]; exact Nat.le_refl _), hz]
    exact ⟨rfl, rfl⟩
theorem find1_any (S : Nat -> Prop) (a : Option Addr) (n c b1 b2 s : Nat) (t : Int) (l : List Int) (w : World) (h : Nums S w a n c l) (hs : s < n) (h1 : w.cell? ⟨b1, 0, none⟩ = some (.int .i64 (s : Int))) (h2 : w.cell? ⟨b2, 0, none⟩ = some (.int .i64 t)) :
    Calls Tryz.prog 58 #[.slice a n c, .pointer (some ⟨b1, 0, none⟩), .pointer (some ⟨b2, 0, none⟩)] w fun e w' => e = .returned (.bool (decide (ent l s = t))) /\ ∃ q, w' = w.drewN q := by
  obtain ⟨u, b, off, hu, -, rfl, -, -, hI, c1⟩ := h.int hs
  have he := ent_of hu
  have hb := h.bound
  rw [he]
  have HD : Hid (decide (u = t) = (u == t)) := by show _ = _; rw [Bool.eq_iff_iff]; simp
  generalize decide (u = t) = R at *
  clear h hu he
  go_enter Tryz.func58, Tryz.ntmps58
  go_wp2
  go_quiet (fail)
  go_wp2
  go_ret
  exact ⟨ret_bool HD.out.symm, _, rfl⟩
theorem indexF_any (S : Nat -> Prop) (a : Option Addr) (n c b1 b2 s : Nat) (t : Int) (x : Col) (w : World) (h : Numss S w a n c x.cols) (hs : ∀ r ∈ x.cols, s < r.length) (h1 : w.cell? ⟨b1, 0, none⟩ = some (.int .i64 (s : Int))) (h2 : w.cell? ⟨b2, 0, none⟩ = some (.int .i64 t)) :
    Calls Tryz.prog 57 #[.slice a n c, .func (.func 58) #[] #[.pointer (some ⟨b1, 0, none⟩), .pointer (some ⟨b2, 0, none⟩)]] w fun e w' => e = .returned (.int .i64 (numO (x.at_ s t))) /\ ∃ q, w' = w.drewN q := by
  have HN := hiq h.len
  have hL := h.bound
  have HSS := hiq hs
  have hE : Hid (x.at_ s t = firstFrom (fun c => decide (ent (x.row c) s = t)) n 0) := by show _ = _; unfold Col.at_; rw [h.len]
  generalize x.at_ s t = R at *
  clear hs
  go_enter Tryz.func57, Tryz.ntmps57
  go_wp2
  go_loopw [8] (fun i wr => ∃ (j : Nat), i = .int .i64 j /\ j <= n /\ Hid (R = firstFrom (fun c => decide (ent (x.row c) s = t)) n j) /\ Drew w wr) (fun i _ => n - (intOf i).toNat)
  case atStart => exact ⟨0, rfl, Nat.zero_le _, hE.out, Drew.refl _⟩
  case round =>
    obtain ⟨j, rfl, hj, hx, hd⟩ := hrel
    by_cases hlj : j < n
    · obtain ⟨r, b, off, a', n', c', hu, hmem, rfl, -, hbl, hr, c0⟩ := (h.below (rSl_ok rInt_ok) (hd.below _)).row hlj
      have HF := hiq (find1_any S a' n' c' b1 b2 s t r wr hr (by rw [hr.len]; exact HSS.out r hmem) (clq (hd.below _) h1) (clq (hd.below _) h2))
      have er := row_of hu
      have hp : (fun c => decide (ent (x.row c) s = t)) j = decide (ent r s = t) := by show decide _ = _; rw [er]
      generalize hG : decide (ent r s = t) = G at *
      clear hu hmem hr hG er
      cases G with
      | true =>
        have HR : Hid (R = some j) := by show _ = _; rw [hx.out]; exact firstFrom_yes hlj hp
        clear hx hp
        go_wp2_with (go_at_call 58; refine HF.out.mono ?_; rintro e w' ⟨rfl, q, rfl⟩)
        go_ret
        exact ⟨ret_int (by rw [HR.out]; rfl), hd.drewN q⟩
      | false =>
        have HN2 : Hid (R = firstFrom (fun c => decide (ent (x.row c) s = t)) n (j + 1)) := by show _ = _; rw [hx.out]; exact firstFrom_no hlj hp
        clear hx hp
        go_wp2_with (go_at_call 58; refine HF.out.mono ?_; rintro e w' ⟨rfl, q, rfl⟩)
        go_roundw
        case rel => exact ⟨j + 1, by go_num, by omega, HN2.out, hd.drewN q⟩
        case measure => simp [intOf]; omega
    · have HR : Hid (R = none) := by show _ = _; rw [hx.out]; exact firstFrom_end (by omega)
      clear hx
      go_wp2
      go_ret
      exact ⟨ret_int (by rw [HR.out]; rfl), hd⟩
end Go.Proofs.YtbdgmgddliploaaGreatDoor

/- collation.Find. -/
namespace Go.Proofs.YtbdgmgddliploaaGreatDoor
open Go.RowKit

/-- What Find returns. -/
def findN (x : Col) (s : Nat) (t : Int) : Int := if t < 0 \/ ((x.tks s).length : Int) <= t then 0 else numO (x.at_ s t)
def findE (x : Col) (s : Nat) (t : Int) : Int := if t < 0 \/ ((x.tks s).length : Int) <= t then 2 else 0
theorem find_any (S : Nat -> Prop) (v : CV) (x : Col) (s : Nat) (t : Int) (w : World) (h : RdC S w v x) (hm : Sml x) (hE : Env w) (hv : x.err = 0) (hs : s < x.sigla.length) (ht : I64 t) :
    Calls Tryz.prog 25 #[v.val, .int .i64 (s : Int), .int .i64 t] w fun e w' => e = .returned (.tuple #[.int .i64 (findN x s t), .int .i64 (findE x s t)]) /\ Below w.heap.size w w' := by
  obtain ⟨sec, sa, sn, sc, ta, tn, tc, ca, cn, cc⟩ := v
  obtain ⟨hh, hg⟩ := err_iff.1 hv
  change Calls _ _ #[.agg #[.string sec, .slice sa sn sc, .slice ta tn tc, .slice ca cn cc], _, _] _ _
  obtain ⟨hb0, hsz, hC, hO, hP⟩ := box3 w #[.string sec, .slice sa sn sc, .slice ta tn tc, .slice ca cn cc] #[.int .i64 (s : Int)] #[.int .i64 t] 26 3 3
  have HF : Hid (Calls Tryz.prog 26 #[.agg #[.string sec, .slice sa sn sc, .slice ta tn tc, .slice ca cn cc]] (((w.alloc (.cells #[.string sec, .slice sa sn sc, .slice ta tn tc, .slice ca cn cc] 26)).alloc (.cells #[.int .i64 (s : Int)] 3)).alloc (.cells #[.int .i64 t] 3)) fun e w' => e = .returned (.int .i64 0) /\ Below (((w.alloc (.cells #[.string sec, .slice sa sn sc, .slice ta tn tc, .slice ca cn cc] 26)).alloc (.cells #[.int .i64 (s : Int)] 3)).alloc (.cells #[.int .i64 t] 3)).heap.size (((w.alloc (.cells #[.string sec, .slice sa sn sc, .slice ta tn tc, .slice ca cn cc] 26)).alloc (.cells #[.int .i64 (s : Int)] 3)).alloc (.cells #[.int .i64 t] 3)) w') := by
    have := check_any S _ x _ (h.below hb0) hm (hE.below hb0)
    rw [hv] at this
    exact this
  obtain ⟨-, -, h2, h3, h4⟩ := h
  dsimp only at h2 h3 h4
  have c0 := hC 0 _ rfl
  have c1 := hC 1 _ rfl
  have c2 := hC 2 _ rfl
  have c3 := hC 3 _ rfl
  have o0 := hO 0 _ rfl
  have p0 := hP 0 _ rfl
  have hks : s < x.lens.length := by rw [lens_len, hh.len]; exact hs
  obtain ⟨r, bo, off, a1, n1, k1, hu, hmem, ea, -, hbl, hr, d1⟩ := h3.row (j := s) (by rw [h3.len, hh.len]; exact hs)
  have htr : x.tks s = r := by unfold Col.tks; rw [hu]; rfl
  have hsn : s < sn := by rw [h2.len]; exact hs
  have hstn : s < tn := by rw [h3.len, hh.len]; exact hs
  have hsb := h2.bound
  have htb := h3.bound
  have hrb := hr.bound
  have HX : Hid (findN x s t = (if t < 0 \/ (n1 : Int) <= t then 0 else numO (x.at_ s t)) /\ findE x s t = if t < 0 \/ (n1 : Int) <= t then 2 else 0) := by
    unfold findN findE; rw [htr, hr.len]; exact ⟨rfl, rfl⟩
  have HI : Hid (∀ W, Below w.heap.size w W -> W.cell? ⟨w.heap.size + 1, 0, none⟩ = some (.int .i64 (s : Int)) -> W.cell? ⟨w.heap.size + 1 + 1, 0, none⟩ = some (.int .i64 t) -> Calls Tryz.prog 57 #[.slice ca cn cc, .func (.func 58) #[] #[.pointer (some ⟨w.heap.size + 1, 0, none⟩), .pointer (some ⟨w.heap.size + 1 + 1, 0, none⟩)]] W fun e w' => e = .returned (.int .i64 (numO (x.at_ s t))) /\ ∃ q, w' = W.drewN q) := fun W hb q1 q2 =>
    indexF_any S ca cn cc _ _ s t x W (h4.below (rSl_ok rInt_ok) hb) (fun r hr => by rw [hg.mem hr]; exact hks) q1 q2
  generalize findN x s t = N at *
  generalize findE x s t = E at *
  generalize numO (x.at_ s t) = M at *
  clear hC hO hP h2 h3 h4 hm hE hv hh hg hu hmem hr htr hs hks
  have EA := hiq ea
  clear ea
  go_enter Tryz.func25, Tryz.ntmps25
  go_wp2_with fail
  generalize ((w.alloc (.cells #[.string sec, .slice sa sn sc, .slice ta tn tc, .slice ca cn cc] 26)).alloc (.cells #[.int .i64 (s : Int)] 3)).alloc (.cells #[.int .i64 t] 3) = W1 at *
  refine HF.out.mono ?_
  rintro e W2 ⟨rfl, hb2⟩
  have hb3 := hb0.trans (hb2.mono hb0.size)
  replace c1 := clq hb2 c1; replace c2 := clq hb2 c2; replace c3 := clq hb2 c3; replace o0 := clq hb2 o0; replace p0 := clq hb2 p0; replace d1 := clq hb3 d1
  have ea := EA.out
  subst ea
  clear EA HF hb2 hb0 c0 hsz W1
  by_cases hq : t < 0 \/ (n1 : Int) <= t
  · have HN : Hid (N = 0 /\ E = 2) := ⟨by rw [HX.out.1, if_pos hq], by rw [HX.out.2, if_pos hq]⟩
    have hway : decide (t < 0) = true \/ (decide (t < 0) = false /\ decide ((n1 : Int) <= t) = true) := by
      by_cases a : t < 0
      · left; simp [a]
      · right; exact ⟨by simp [a], by simp; omega⟩
    have u1 : decide (sn <= s) = false := decide_eq_false (by omega)
    have u2 : decide ((s : Int) < 0) = false := decide_eq_false (by omega)
    clear hq HX
    rcases hway with t1 | ⟨t1, t2⟩
    all_goals
      go_wp2
      go_quiet (fail)
      go_wp2
      go_ret2
      exact ⟨by rw [HN.out.1, HN.out.2]; rfl, below_drewN hb3 _⟩
  · have HN : Hid (N = M /\ E = 0) := ⟨by rw [HX.out.1, if_neg hq], by rw [HX.out.2, if_neg hq]⟩
    have t1 : 0 <= t := by omega
    have t2 : t < (n1 : Int) := by omega
    have t3 : decide (t < 0) = false := decide_eq_false (by omega)
    have t4 : decide ((n1 : Int) <= t) = false := decide_eq_false (by omega)
    have u1 : decide (sn <= s) = false := decide_eq_false (by omega)
    have u2 : decide ((s : Int) < 0) = false := decide_eq_false (by omega)
    clear hq HX
    go_wp2
    go_quiet (fail)
    rename_i nq
    have hb4 : Below w.heap.size w (W2.drewN nq) := below_drewN hb3 nq
    have HJ := hiq (HI.out (W2.drewN nq) hb4 o0 p0)
    go_wp2_with (go_at_call 57; refine HJ.out.mono ?_; rintro e W3 ⟨rfl, q, rfl⟩)
    go_ret2
    exact ⟨by rw [HN.out.1, HN.out.2]; rfl, below_drewN hb3 _⟩
end Go.Proofs.YtbdgmgddliploaaGreatDoor

/- editop.kinds. -/
namespace Go.Proofs.YtbdgmgddliploaaGreatDoor
open Go.RowKit

theorem kinds_any (w : World) : Calls Tryz.prog 46 #[] w fun e w' => e = .returned (.agg #[.string ⟨#[]⟩, .nilFunc, .nilFunc, .string ⟨#[106, 111, 105, 110]⟩, .func (.func 73) #[] #[], .func (.func 74) #[] #[], .string ⟨#[115, 112, 108, 105, 116]⟩, .func (.func 75) #[] #[], .func (.func 76) #[] #[], .string ⟨#[115, 104, 105, 102, 116]⟩, .func (.func 77) #[] #[], .func (.func 78) #[] #[], .string ⟨#[114, 101, 103, 117, 108, 97, 114, 105, 122, 101]⟩, .func (.func 79) #[] #[], .func (.func 80) #[] #[]]) /\ Below w.heap.size w w' := by
  go_enter Tryz.func46, Tryz.ntmps46
  go_wp2
  exact bodyPost_ret (v := .agg #[.string ⟨#[]⟩, .nilFunc, .nilFunc, .string ⟨#[106, 111, 105, 110]⟩, .func (.func 73) #[] #[], .func (.func 74) #[] #[], .string ⟨#[115, 112, 108, 105, 116]⟩, .func (.func 75) #[] #[], .func (.func 76) #[] #[], .string ⟨#[115, 104, 105, 102, 116]⟩, .func (.func 77) #[] #[], .func (.func 78) #[] #[], .string ⟨#[114, 101, 103, 117, 108, 97, 114, 105, 122, 101]⟩, .func (.func 79) #[] #[], .func (.func 80) #[] #[]]) (by simp [results, Tryz.results46, go_sem]) rfl ⟨rfl, (Below.refl _ _).alloc (Nat.le_refl _) _⟩
end Go.Proofs.YtbdgmgddliploaaGreatDoor

/- The reference: the number of a siglum, the column of a token. -/
namespace Go.Proofs.YtbdgmgddliploaaGreatDoor
open Go.RowKit

/-- One box. -/
theorem box1 (w : World) (C : Array Value) (tc : TypeId) : Below w.heap.size w (w.alloc (.cells C tc)) /\ (∀ (i : Nat) (u : Value), C[i]? = some u -> (w.alloc (.cells C tc)).cell? ⟨w.heap.size, i, none⟩ = some u) :=
  ⟨(Below.refl _ w).alloc (Nat.le_refl _) _, fun i u h => by rw [World.cell?_alloc_at _ _ _ _ rfl]; exact h⟩
theorem source_ref (S : Nat -> Prop) (v : CV) (x : Col) (g : ByteArray) (w : World) (h : RdC S w v x) :
    Calls Tryz.prog 43 #[v.val, .string g] w fun e w' => e = .returned (.int .i64 (numO (x.src g))) /\ Below w.heap.size w w' := by
  obtain ⟨sec, sa, sn, sc, ta, tn, tc, ca, cn, cc⟩ := v
  obtain ⟨-, -, h2, -, -⟩ := h
  dsimp only at h2
  change Calls _ _ #[.agg #[.string sec, .slice sa sn sc, .slice ta tn tc, .slice ca cn cc], _] _ _
  obtain ⟨hb0, hC⟩ := box1 w #[.string sec, .slice sa sn sc, .slice ta tn tc, .slice ca cn cc] 26
  have c1 := hC 1 _ rfl
  have h2' := h2.below rStr_ok hb0
  have hL := h2.bound
  have hE : Hid (x.src g = firstFrom (fun i => decide (x.sigla[i]?.getD ⟨#[]⟩ = g)) sn 0) := by show _ = _; unfold Col.src; rw [h2.len]
  generalize x.src g = R at *
  clear hC h2
  go_enter Tryz.func43, Tryz.ntmps43
  go_wp2
  generalize w.alloc (.cells #[.string sec, .slice sa sn sc, .slice ta tn tc, .slice ca cn cc] 26) = W1 at *
  go_loop [5] (fun i => ∃ k : Nat, i = .int .i64 k /\ k <= sn /\ Hid (R = firstFrom (fun i => decide (x.sigla[i]?.getD ⟨#[]⟩ = g)) sn k)) (fun i => sn - (intOf i).toNat)
  case atStart => exact ⟨0, rfl, Nat.zero_le _, hE.out⟩
  case round =>
    obtain ⟨k, rfl, hk, hx⟩ := hrel
    by_cases hkl : k < sn
    · obtain ⟨u, b, off, hu, -, ea, -, -, -, d1⟩ := h2'.str hkl
      subst ea
      by_cases he : u = g
      · have t1 : (u.toList == g.toList) = true := str_yes he
        have HR : Hid (R = some k) := by show _ = _; rw [hx.out]; exact firstFrom_yes hkl (by rw [hu]; exact decide_eq_true he)
        clear hx hu he
        go_wp2
        go_ret
        exact ⟨ret_int (by rw [HR.out]; rfl), hb0⟩
      · have t1 : (u.toList == g.toList) = false := str_no he
        have HN : Hid (R = firstFrom (fun i => decide (x.sigla[i]?.getD ⟨#[]⟩ = g)) sn (k + 1)) := by show _ = _; rw [hx.out]; exact firstFrom_no hkl (by rw [hu]; exact decide_eq_false he)
        clear hx hu he
        go_wp2
        go_round
        case rel => exact ⟨k + 1, by go_num, by omega, HN.out⟩
        case measure => simp [intOf]; omega
    · have HR : Hid (R = none) := by show _ = _; rw [hx.out]; exact firstFrom_end (by omega)
      clear hx
      go_wp2
      go_ret
      exact ⟨ret_int (by rw [HR.out]; rfl), hb0⟩
theorem column_ref (S : Nat -> Prop) (v : CV) (x : Col) (s : Nat) (t : Int) (w : World) (h : RdC S w v x) (hv : x.err = 0) (hs : s < x.sigla.length) :
    Calls Tryz.prog 44 #[v.val, .int .i64 (s : Int), .int .i64 t] w fun e w' => e = .returned (.int .i64 (numO (x.at_ s t))) /\ Below w.heap.size w w' := by
  obtain ⟨sec, sa, sn, sc, ta, tn, tc, ca, cn, cc⟩ := v
  obtain ⟨-, -, -, -, h4⟩ := h
  obtain ⟨hh, hg⟩ := err_iff.1 hv
  dsimp only at h4
  have HK : Hid (∀ r ∈ x.cols, s < r.length) := fun r hr => by rw [hg.mem hr, lens_len, hh.len]; exact hs
  change Calls _ _ #[.agg #[.string sec, .slice sa sn sc, .slice ta tn tc, .slice ca cn cc], _, _] _ _
  obtain ⟨hb0, hC⟩ := box1 w #[.string sec, .slice sa sn sc, .slice ta tn tc, .slice ca cn cc] 26
  have c3 := hC 3 _ rfl
  have h4' := h4.below (rSl_ok rInt_ok) hb0
  have hL := h4.bound
  have hE : Hid (x.at_ s t = firstFrom (fun c => decide (ent (x.row c) s = t)) cn 0) := by show _ = _; unfold Col.at_; rw [h4.len]
  generalize x.at_ s t = R at *
  clear hC h4 hh hg hv hs
  go_enter Tryz.func44, Tryz.ntmps44
  go_wp2
  generalize w.alloc (.cells #[.string sec, .slice sa sn sc, .slice ta tn tc, .slice ca cn cc] 26) = W1 at *
  go_loopw [7] (fun i wr => ∃ k : Nat, i = .int .i64 k /\ k <= cn /\ Hid (R = firstFrom (fun c => decide (ent (x.row c) s = t)) cn k) /\ Drew W1 wr) (fun i _ => cn - (intOf i).toNat)
  case atStart => exact ⟨0, rfl, Nat.zero_le _, hE.out, Drew.refl _⟩
  case round =>
    obtain ⟨k, rfl, hk, hx, hd⟩ := hrel
    have d3 := clq (hd.below W1.heap.size) c3
    have hbw : Below w.heap.size w wr := hb0.trans (hd.below _)
    by_cases hkl : k < cn
    · obtain ⟨r, b, off, a', n', c', hu, hmem, ea, -, -, hr, d1⟩ := (h4'.below (rSl_ok rInt_ok) (hd.below _)).row hkl
      subst ea
      have hsn : s < n' := by rw [hr.len]; exact HK.out r hmem
      have hrb := hr.bound
      obtain ⟨u, b2, off2, hu2, -, ea, -, -, hI, d2⟩ := hr.int hsn
      subst ea
      have er := row_of hu
      have eu := ent_of hu2
      by_cases he : u = t
      · have t1 : ((u : Int) == t) = true := by simp [he]
        have HR : Hid (R = some k) := by show _ = _; rw [hx.out]; exact firstFrom_yes hkl (by rw [er, eu]; exact decide_eq_true he)
        clear hx hu hu2 he er eu hmem
        go_wp2
        first | go_quiet (fail) | skip
        go_wp2
        go_ret
        exact ⟨ret_int (by rw [HR.out]; rfl), by first | exact below_drewN hbw _ | exact hbw⟩
      · have t1 : ((u : Int) == t) = false := by simp [he]
        have HN : Hid (R = firstFrom (fun c => decide (ent (x.row c) s = t)) cn (k + 1)) := by show _ = _; rw [hx.out]; exact firstFrom_no hkl (by rw [er, eu]; exact decide_eq_false he)
        clear hx hu hu2 he er eu hmem
        go_wp2
        first | go_quiet (fail) | skip
        go_wp2
        go_roundw
        case rel => exact ⟨k + 1, by go_num, by omega, HN.out, by first | exact hd.drewN _ | exact hd⟩
        case measure => simp [intOf]; omega
    · have HR : Hid (R = none) := by show _ = _; rw [hx.out]; exact firstFrom_end (by omega)
      clear hx
      go_wp2
      go_ret
      exact ⟨ret_int (by rw [HR.out]; rfl), hbw⟩
end Go.Proofs.YtbdgmgddliploaaGreatDoor

/- No token in a column; too great operations and names. -/
namespace Go.Proofs.YtbdgmgddliploaaGreatDoor
open Go.RowKit

def emptyR (l : List Int) : Bool := l.all fun u => decide (u < 0)
def greatOp (o : Op) : Bool := decide (70 < o.sig.size) || decide (70 < o.text.size)
def greatNames (s : ByteArray) (l : List ByteArray) : Bool := (l.any fun u => decide (20 < u.size)) || decide (20 < s.size)
theorem all_drop {α : Type} {p : α -> Bool} {l : List α} {k : Nat} {u : α} (h : l[k]? = some u) : (l.drop k).all p = (p u && (l.drop (k + 1)).all p) := by
  obtain ⟨hl, e⟩ := List.getElem?_eq_some_iff.1 h
  rw [List.drop_eq_getElem_cons hl, e, List.all_cons]
theorem any_drop {α : Type} {p : α -> Bool} {l : List α} {k : Nat} {u : α} (h : l[k]? = some u) : (l.drop k).any p = (p u || (l.drop (k + 1)).any p) := by
  obtain ⟨hl, e⟩ := List.getElem?_eq_some_iff.1 h
  rw [List.drop_eq_getElem_cons hl, e, List.any_cons]
theorem empty_ref (S : Nat -> Prop) (a : Option Addr) (n c : Nat) (l : List Int) (w : World) (h : Nums S w a n c l) : Calls Tryz.prog 45 #[.slice a n c] w fun e w' => e = .returned (.bool (emptyR l)) /\ w = w' := by
  have HN := hiq h.len
  have hb := h.bound
  have hE : Hid (emptyR l = (l.drop 0).all fun u => decide (u < 0)) := rfl
  generalize emptyR l = R at *
  go_enter Tryz.func45, Tryz.ntmps45
  go_wp2
  go_loop [3] (fun i => ∃ k : Nat, i = .int .i64 k /\ k <= n /\ Hid (R = (l.drop k).all fun u => decide (u < 0))) (fun i => n - (intOf i).toNat)
  case atStart => exact ⟨0, rfl, Nat.zero_le _, hE.out⟩
  case round =>
    obtain ⟨k, rfl, hk, hx⟩ := hrel
    by_cases hkl : k < n
    · obtain ⟨u, b, off, hu, -, ea, -, -, hI, c1⟩ := h.int hkl
      subst ea
      have hst := hiq (hx.out.trans (all_drop hu))
      clear hx hu
      by_cases h0 : 0 <= u
      · have HR : Hid (R = false) := by show _ = _; rw [hst.out, decide_eq_false (by omega)]; rfl
        go_wp2
        go_ret
        exact ⟨ret_bool HR.out.symm, rfl⟩
      · have HN2 : Hid (R = (l.drop (k + 1)).all fun u => decide (u < 0)) := by show _ = _; rw [hst.out, decide_eq_true (by omega)]; rfl
        go_wp2
        go_round
        case rel => exact ⟨k + 1, by go_num, by omega, HN2.out⟩
        case measure => simp [intOf]; omega
    · have HR : Hid (R = true) := by show _ = _; rw [hx.out, List.drop_of_length_le (by rw [<- HN.out]; omega)]; rfl
      clear hx
      go_wp2
      go_ret
      exact ⟨ret_bool HR.out.symm, rfl⟩
theorem greatOp_ref (o : Op) (w : World) : Calls Tryz.prog 12 #[o.val] w fun e w' => e = .returned (.bool (greatOp o)) /\ Below w.heap.size w w' := by
  obtain ⟨ok, og, ot, oo, ox⟩ := o
  have HD : Hid (greatOp ⟨ok, og, ot, oo, ox⟩ = (decide (70 < og.size) || decide (70 < ox.size))) := rfl
  generalize greatOp ⟨ok, og, ot, oo, ox⟩ = R at *
  change Calls _ _ #[.agg #[.int .i64 ok, .string og, .int .i64 ot, .int .i64 oo, .string ox]] _ _
  go_enter Tryz.func12, Tryz.ntmps12
  go_wp2
  all_goals
    go_ret
    refine ⟨ret_bool ?_, (Below.refl _ _).alloc (Nat.le_refl _) _⟩
    rw [HD.out, Bool.eq_iff_iff]
    simp
    try omega
theorem greatNames_ref (S : Nat -> Prop) (a : Option Addr) (n c : Nat) (s : ByteArray) (l : List ByteArray) (w : World) (h : Strs S w a n c l) : Calls Tryz.prog 37 #[.string s, .slice a n c] w fun e w' => e = .returned (.bool (greatNames s l)) /\ w = w' := by
  have HN := hiq h.len
  have hb := h.bound
  have hE : Hid (greatNames s l = (((l.drop 0).any fun u => decide (20 < u.size)) || decide (20 < s.size))) := rfl
  generalize greatNames s l = R at *
  go_enter Tryz.func37, Tryz.ntmps37
  go_wp2
  go_loop [5] (fun i => ∃ k : Nat, i = .int .i64 k /\ k <= n /\ Hid (R = (((l.drop k).any fun u => decide (20 < u.size)) || decide (20 < s.size)))) (fun i => n - (intOf i).toNat)
  case atStart => exact ⟨0, rfl, Nat.zero_le _, hE.out⟩
  case round =>
    obtain ⟨k, rfl, hk, hx⟩ := hrel
    by_cases hkl : k < n
    · obtain ⟨u, b, off, hu, -, ea, -, -, hI, c1⟩ := h.str hkl
      subst ea
      have hst := hx.out
      rw [any_drop hu] at hst
      have HST := hiq hst
      clear hx hu hst
      by_cases h0 : 20 < u.size
      · have HR : Hid (R = true) := by show _ = _; rw [HST.out, decide_eq_true h0]; rfl
        go_wp2
        go_ret
        exact ⟨ret_bool HR.out.symm, rfl⟩
      · have HN2 : Hid (R = (((l.drop (k + 1)).any fun u => decide (20 < u.size)) || decide (20 < s.size))) := by show _ = _; rw [HST.out, decide_eq_false h0]; rfl
        go_wp2
        go_round
        case rel => exact ⟨k + 1, by go_num, by omega, HN2.out⟩
        case measure => simp [intOf]; omega
    · have HR : Hid (R = decide (20 < s.size)) := by show _ = _; rw [hx.out, List.drop_of_length_le (by rw [<- HN.out]; omega)]; rfl
      clear hx
      go_wp2
      go_ret
      exact ⟨ret_bool (by rw [HR.out, Bool.eq_iff_iff]; simp; try omega), rfl⟩
end Go.Proofs.YtbdgmgddliploaaGreatDoor

/- Too great tokens (printed by gen_egrt2.py). -/
namespace Go.Proofs.YtbdgmgddliploaaGreatDoor
open Go.RowKit

def tokGreat (t : Tok) : Bool := decide (12 < t.text.size) || decide (12 < t.norm.size) || decide (20 < t.page.size) || decide (20 < t.name.size)
def greatGo (L : Nat) : Nat -> Nat -> List (List Tok) -> Bool
  | _, n, [] => decide (400 < n) || ((decide (6 < L) && decide (L <= 32)) || decide (34 < L))
  | i, n, r :: rs => (decide (6 < r.length) || (decide (4 <= i) && decide (1 < r.length))) || (r.any tokGreat || greatGo L (i + 1) (if i < 4 then n * (r.length + 1) else n) rs)
def greatToks (l : List (List Tok)) : Bool := greatGo l.length 0 1 l
theorem greatGo_step {L k n : Nat} {l : List (List Tok)} {r : List Tok} (h : l[k]? = some r) : greatGo L k n (l.drop k) = ((decide (6 < r.length) || (decide (4 <= k) && decide (1 < r.length))) || (r.any tokGreat || greatGo L (k + 1) (if k < 4 then n * (r.length + 1) else n) (l.drop (k + 1)))) := by
  obtain ⟨hl, e⟩ := List.getElem?_eq_some_iff.1 h
  rw [List.drop_eq_getElem_cons hl, e]; rfl
def okN (k m : Nat) : Prop := m <= 7 ^ (min k 4)
theorem okN_le {k m : Nat} (h : okN k m) : m <= 2401 := by
  have : (7 : Nat) ^ (min k 4) <= 7 ^ 4 := Nat.pow_le_pow_right (by decide) (Nat.min_le_right _ _)
  unfold okN at h
  omega
theorem okN_step {k m r : Nat} (h : okN k m) (hr : r <= 6) (hk : k < 4) : okN (k + 1) (m * (r + 1)) := by
  unfold okN at h ⊢
  rw [show min (k + 1) 4 = min k 4 + 1 by omega, Nat.pow_succ]
  exact Nat.mul_le_mul h (by omega)
theorem okN_stay {k m : Nat} (h : okN k m) (hk : 4 <= k) : okN (k + 1) m := by
  unfold okN at h ⊢
  rw [show min (k + 1) 4 = min k 4 by omega]; exact h
theorem greatToks_ref (S : Nat -> Prop) (a : Option Addr) (n c : Nat) (l : List (List Tok)) (w : World) (h : Tokss S w a n c l) : Calls Tryz.prog 36 #[.slice a n c] w fun e w' => e = .returned (.bool (greatToks l)) /\ Below w.heap.size w w' := by
  have HN := hiq h.len
  have hbn := h.bound
  have hE : Hid (greatToks l = greatGo n 0 1 (l.drop 0)) := by show _ = _; rw [h.len]; rfl
  have hb0 := Below.refl w.heap.size w
  generalize greatToks l = R at *
  go_enter Tryz.func36, Tryz.ntmps36
  go_wp2
  go_loopw [3, 4] (fun nv iv wr => ∃ k m : Nat, nv = .int .i64 m /\ iv = .int .i64 k /\ k <= n /\ Hid (okN k m) /\ m <= 2401 /\ Hid (R = greatGo n k m (l.drop k)) /\ Below w.heap.size w wr) (fun _ iv _ => n - (intOf iv).toNat)
  case atStart => exact ⟨0, 1, rfl, rfl, Nat.zero_le _, by unfold Hid okN; decide, by omega, hE.out, hb0⟩
  case round =>
    clear hE hb0
    obtain ⟨k, m, rfl, rfl, hk, hok, hm, hx, hb⟩ := hrel
    by_cases hkl : k < n
    · obtain ⟨r, b, off, a', n', c', hu, -, rfl, -, hbl, hr, c1w⟩ := h.row hkl
      have c1 := clq hb c1w
      have hst := greatGo_step (L := n) (n := m) hu
      rw [<- hx.out, <- hr.len] at hst
      have HST := hiq hst
      have hrb := hr.bound
      have HRN := hiq hr.len
      clear hx hu hst
      by_cases g1 : 6 < n'
      · have HR : Hid (R = true) := by show _ = _; rw [HST.out]; simp [g1]
        clear HST
        go_wp2
        go_ret
        exact ⟨ret_bool HR.out.symm, hb⟩
      · by_cases g2 : 4 <= k
        · by_cases g3 : 1 < n'
          · have HR : Hid (R = true) := by show _ = _; rw [HST.out]; simp [g2, g3]
            clear HST
            go_wp2
            go_ret
            exact ⟨ret_bool HR.out.symm, hb⟩
          · have HR : Hid (R = ((r.drop 0).any tokGreat || greatGo n (k + 1) m (l.drop (k + 1)))) := by show _ = _; rw [HST.out, if_neg (by omega), decide_eq_false g1, decide_eq_false g3, Bool.and_false]; rfl
            have HOK : Hid (okN (k + 1) m) := okN_stay hok.out g2
            clear HST
            go_wp2
            go_loopw [5] (fun i wr => ∃ q : Nat, i = .int .i64 q /\ q <= n' /\ Below w.heap.size w wr /\ Hid (R = ((r.drop q).any tokGreat || greatGo n (k + 1) m (l.drop (k + 1))))) (fun i _ => n' - (intOf i).toNat)
            case atStart => exact ⟨0, rfl, Nat.zero_le _, hb, HR.out⟩
            case round =>
              clear HR hb c1
              obtain ⟨q, rfl, hq, hb, hx⟩ := hrel
              have c1 := clq hb c1w
              by_cases hqk : q < n'
              · obtain ⟨t, b2, off2, hu2, -, ea, -, -, -, c20, c21, c22, c23, c24, c25⟩ := (hr.below rTok_ok hb).tok hqk
                subst ea
                have hst := hx.out
                rw [any_drop hu2] at hst
                have HST := hiq hst
                obtain ⟨tx, nm, pg, ln, fl, na⟩ := t
                dsimp only at c20 c21 c22 c23 c24 c25
                clear hx hu2 hst
                have hba := fun o => hb.alloc hb.size o
                by_cases p1 : 12 < tx.size
                · have HR : Hid (R = true) := by show _ = _; rw [HST.out]; simp [tokGreat, p1]
                  clear HST
                  go_wp2
                  go_ret
                  exact ⟨ret_bool HR.out.symm, hba _⟩
                by_cases p2 : 12 < nm.size
                · have HR : Hid (R = true) := by show _ = _; rw [HST.out]; simp [tokGreat, p2]
                  clear HST
                  go_wp2
                  go_ret
                  exact ⟨ret_bool HR.out.symm, hba _⟩
                by_cases p3 : 20 < pg.size
                · have HR : Hid (R = true) := by show _ = _; rw [HST.out]; simp [tokGreat, p3]
                  clear HST
                  go_wp2
                  go_ret
                  exact ⟨ret_bool HR.out.symm, hba _⟩
                by_cases p4 : 20 < na.size
                · have HR : Hid (R = true) := by show _ = _; rw [HST.out]; simp [tokGreat, p4]
                  clear HST
                  go_wp2
                  go_ret
                  exact ⟨ret_bool HR.out.symm, hba _⟩
                have HN2 : Hid (R = ((r.drop (q + 1)).any tokGreat || greatGo n (k + 1) m (l.drop (k + 1)))) := by show _ = _; rw [HST.out]; simp [tokGreat, p1, p2, p3, p4]
                clear HST
                go_wp2
                go_roundw
                case rel => exact ⟨q + 1, by go_num, by omega, hba _, HN2.out⟩
                case measure => simp [intOf]; omega
              · have HN2 : Hid (R = greatGo n (k + 1) m (l.drop (k + 1))) := by show _ = _; rw [hx.out, List.drop_of_length_le (by rw [<- HRN.out]; omega)]; rfl
                clear hx
                go_wp2
                go_roundw
                case rel => exact ⟨k + 1, m, by go_num, by go_num, by omega, HOK.out, by omega, HN2.out, hb⟩
                case measure => simp [intOf]; omega
        · have HR : Hid (R = ((r.drop 0).any tokGreat || greatGo n (k + 1) (m * (n' + 1)) (l.drop (k + 1)))) := by show _ = _; rw [HST.out, if_pos (by omega), decide_eq_false g1, decide_eq_false g2, Bool.false_and]; rfl
          have HOK : Hid (okN (k + 1) (m * (n' + 1))) := okN_step hok.out (by omega) (by omega)
          have hmb : m * (n' + 1) <= 2401 := okN_le HOK.out
          obtain ⟨M, hM⟩ : ∃ M, M = m * (n' + 1) := ⟨_, rfl⟩
          have hmul : (m : Int) * ((n' : Int) + 1) = (M : Int) := by rw [hM]; simp
          rw [<- hM] at HR HOK hmb
          clear HST hM
          go_wp2
          clear hmul
          go_loopw [5] (fun i wr => ∃ q : Nat, i = .int .i64 q /\ q <= n' /\ Below w.heap.size w wr /\ Hid (R = ((r.drop q).any tokGreat || greatGo n (k + 1) M (l.drop (k + 1))))) (fun i _ => n' - (intOf i).toNat)
          case atStart => exact ⟨0, rfl, Nat.zero_le _, hb, HR.out⟩
          case round =>
            clear HR hb c1
            obtain ⟨q, rfl, hq, hb, hx⟩ := hrel
            have c1 := clq hb c1w
            by_cases hqk : q < n'
            · obtain ⟨t, b2, off2, hu2, -, ea, -, -, -, c20, c21, c22, c23, c24, c25⟩ := (hr.below rTok_ok hb).tok hqk
              subst ea
              have hst := hx.out
              rw [any_drop hu2] at hst
              have HST := hiq hst
              obtain ⟨tx, nm, pg, ln, fl, na⟩ := t
              dsimp only at c20 c21 c22 c23 c24 c25
              clear hx hu2 hst
              have hba := fun o => hb.alloc hb.size o
              by_cases p1 : 12 < tx.size
              · have HR : Hid (R = true) := by show _ = _; rw [HST.out]; simp [tokGreat, p1]
                clear HST
                go_wp2
                go_ret
                exact ⟨ret_bool HR.out.symm, hba _⟩
              by_cases p2 : 12 < nm.size
              · have HR : Hid (R = true) := by show _ = _; rw [HST.out]; simp [tokGreat, p2]
                clear HST
                go_wp2
                go_ret
                exact ⟨ret_bool HR.out.symm, hba _⟩
              by_cases p3 : 20 < pg.size
              · have HR : Hid (R = true) := by show _ = _; rw [HST.out]; simp [tokGreat, p3]
                clear HST
                go_wp2
                go_ret
                exact ⟨ret_bool HR.out.symm, hba _⟩
              by_cases p4 : 20 < na.size
              · have HR : Hid (R = true) := by show _ = _; rw [HST.out]; simp [tokGreat, p4]
                clear HST
                go_wp2
                go_ret
                exact ⟨ret_bool HR.out.symm, hba _⟩
              have HN2 : Hid (R = ((r.drop (q + 1)).any tokGreat || greatGo n (k + 1) M (l.drop (k + 1)))) := by show _ = _; rw [HST.out]; simp [tokGreat, p1, p2, p3, p4]
              clear HST
              go_wp2
              go_roundw
              case rel => exact ⟨q + 1, by go_num, by omega, hba _, HN2.out⟩
              case measure => simp [intOf]; omega
            · have HN2 : Hid (R = greatGo n (k + 1) M (l.drop (k + 1))) := by show _ = _; rw [hx.out, List.drop_of_length_le (by rw [<- HRN.out]; omega)]; rfl
              clear hx
              go_wp2
              go_roundw
              case rel => exact ⟨k + 1, M, by go_num, by go_num, by omega, HOK.out, by omega, HN2.out, hb⟩
              case measure => simp [intOf]; omega
    · have HR : Hid (R = (decide (400 < m) || ((decide (6 < n) && decide (n <= 32)) || decide (34 < n)))) := by show _ = _; rw [hx.out, List.drop_of_length_le (by rw [<- HN.out]; omega)]; rfl
      clear hx
      go_wp2
      all_goals
        go_ret
        exact ⟨ret_bool (by rw [HR.out, Bool.eq_iff_iff]; simp; try omega), hb⟩
end Go.Proofs.YtbdgmgddliploaaGreatDoor
