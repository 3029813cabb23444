/- Joined: EClo. -/
import Derived.Test.YtbdgmgddliploaaGreatDoorJ15
import Derived.Test.YtbdgmgddliploaaGreatDoorJ17
import Derived.Test.YtbdgmgddliploaaGreatDoorJ13
import Derived.Test.YtbdgmgddliploaaGreatDoorJ00
import Derived.Shelf.SlicesE.Clone
set_option linter.unusedVariables false
set_option linter.unusedSimpArgs false
set_option maxRecDepth 100000
set_option maxHeartbeats 16000000
namespace Go.Proofs.YtbdgmgddliploaaGreatDoor
open Go.RowKit

def AplPost (x : Col) (o : Op) (s c : Nat) (w : World) (B : Nat) (e : Ending) (w' : World) : Prop :=
  ∃ a' n' cap' ps', e = .returned (.slice a' n' cap') /\ OwnC w' B a' n' cap' ps' /\ ps'.map (·.2) = opCols x o s c /\ Below B w w'
theorem ps_row {x : Col} {ps : List (Row × List Int)} (h : ps.map (·.2) = x.cols) {c : Nat} (hc : c < x.cols.length) : ∃ p, ps[c]? = some p /\ p.2 = x.row c /\ x.row c ∈ x.cols := by
  have hl : c < ps.length := by rw [<- h] at hc; simpa using hc
  have e : x.row c = (ps[c]).2 := by unfold Col.row; rw [<- h, List.getElem?_map, List.getElem?_eq_getElem hl]; rfl
  refine ⟨ps[c], List.getElem?_eq_getElem hl, e.symm, ?_⟩
  rw [e, <- h]; exact List.mem_map.2 ⟨_, List.getElem_mem hl, rfl⟩
theorem apl_1 (w : World) (B : Nat) (a : Option Addr) (n cap : Nat) (ps : List (Row × List Int)) (x : Col) (o : Op) (s c : Nat) (h : OwnC w B a n cap ps) (hB : B <= w.heap.size) (hx : ps.map (·.2) = x.cols) (F : Fits x o s c) (hk : o.kind = 1) :
    Calls Tryz.prog 74 #[.slice a n cap, o.val, .agg #[.int .i64 (s : Int), .int .i64 (c : Int), .int .i64 (o.oth c)]] w (AplPost x o s c w B) := by
  obtain ⟨P, Q, l1, l2, e, hl, e1, e2, -, e3⟩ := form_join F hk
  have hcl : c + 1 < x.cols.length := by rw [e]; simp; omega
  obtain ⟨p1, q1, r1, mm1⟩ := ps_row hx (c := c) (by omega)
  obtain ⟨p2, q2, r2, mm2⟩ := ps_row hx (c := c + 1) hcl
  obtain ⟨t1, t2⟩ := take_mid q1
  have t3 : ps.drop (c + 1) = p2 :: ps.drop (c + 2) := by
    obtain ⟨hk, e⟩ := List.getElem?_eq_some_iff.1 q2
    rw [<- e, List.drop_eq_getElem_cons hk]
  rw [t3] at t1
  have hn : n <= 32768 := by rw [h.len]; have := cols_bound F.valid; rw [<- hx] at this; simpa using this
  have s1 := cols_small F.valid mm1
  have s2 := cols_small F.valid mm2
  have l12 : p1.2.length = p2.2.length := by rw [r1, r2, F.good.mem mm1, F.good.mem mm2]
  have hO : o.oth c = (c : Int) + 1 := by unfold Op.oth; rw [if_neg (by omega)]
  rw [t1] at h
  rw [hO]
  refine (join_any w a n cap (ps.take c) (ps.drop (c + 2)) p1.1 p2.1 p1.2 p2.2 o s c B h hB t2 l12 (by rw [r1]; omega) (by rw [r1]; omega) (by omega)).mono ?_
  rintro e w' ⟨rfl, ho, hb⟩
  refine ⟨a, _, cap, _, rfl, ho, ?_, hb⟩
  have hP : P = (ps.take c).map (·.2) /\ l1 :: l2 :: Q = p1.2 :: p2.2 :: (ps.drop (c + 2)).map (·.2) := by
    have : P ++ l1 :: l2 :: Q = (ps.take c).map (·.2) ++ p1.2 :: p2.2 :: (ps.drop (c + 2)).map (·.2) := by
      rw [<- e, <- hx]; conv => lhs; rw [t1]
      simp
    exact List.append_inj this (by rw [hl]; simp; simpa using t2.symm)
  obtain ⟨h1, h2⟩ := hP
  simp only [List.cons.injEq] at h2
  rw [e3, h1, h2.1, h2.2.1, h2.2.2]; simp
theorem apl_2 (w : World) (B : Nat) (a : Option Addr) (n cap : Nat) (ps : List (Row × List Int)) (x : Col) (o : Op) (s c : Nat) (h : OwnC w B a n cap ps) (hB : B <= w.heap.size) (hx : ps.map (·.2) = x.cols) (F : Fits x o s c) (hk : o.kind = 2) :
    Calls Tryz.prog 76 #[.slice a n cap, o.val, .agg #[.int .i64 (s : Int), .int .i64 (c : Int), .int .i64 (o.oth c)]] w (AplPost x o s c w B) := by
  obtain ⟨P, Q, l1, e, hl, e1, -, e3⟩ := form_split F hk
  obtain ⟨p1, q1, r1, mm1⟩ := ps_row hx F.kc
  obtain ⟨t1, t2⟩ := take_mid q1
  have hn : n <= 32768 := by rw [h.len]; have := cols_bound F.valid; rw [<- hx] at this; simpa using this
  have s1 := cols_small F.valid mm1
  have hks := F.ksl
  have hrl := F.row_len
  rw [t1] at h
  refine (split_any w a n cap (ps.take c) (ps.drop (c + 1)) p1.1 p1.2 o s c (o.oth c) B h hB t2 (by rw [r1]; omega) (by rw [r1]; omega) (by omega)).mono ?_
  rintro e w' ⟨a', cap', r', rfl, ho, hb⟩
  refine ⟨a', _, cap', _, rfl, ho, ?_, hb⟩
  have hP : P = (ps.take c).map (·.2) /\ l1 :: Q = p1.2 :: (ps.drop (c + 1)).map (·.2) := by
    have : P ++ l1 :: Q = (ps.take c).map (·.2) ++ p1.2 :: (ps.drop (c + 1)).map (·.2) := by
      rw [<- e, <- hx]; conv => lhs; rw [t1]
      simp
    exact List.append_inj this (by rw [hl]; simp; simpa using t2.symm)
  obtain ⟨h1, h2⟩ := hP
  simp only [List.cons.injEq] at h2
  rw [e3, h1, h2.1, h2.2]; simp
theorem apl_3 (w : World) (B : Nat) (a : Option Addr) (n cap : Nat) (ps : List (Row × List Int)) (x : Col) (o : Op) (s c : Nat) (h : OwnC w B a n cap ps) (hB : B <= w.heap.size) (hx : ps.map (·.2) = x.cols) (F : Fits x o s c) (hk : o.kind = 3) :
    Calls Tryz.prog 78 #[.slice a n cap, o.val, .agg #[.int .i64 (s : Int), .int .i64 (c : Int), .int .i64 (o.oth c)]] w (AplPost x o s c w B) := by
  have he := F.err
  unfold kindErr at he
  rw [if_neg (by omega), if_neg (by omega), if_pos hk] at he
  have hq : ¬ ((o.other ≠ -1 /\ o.other ≠ 1) \/ (c : Int) + o.other < 0 \/ (x.cols.length : Int) <= c + o.other) := fun q => by rw [if_pos q] at he; exact absurd he (by decide)
  have ho : o.oth c = ((other o c : Nat) : Int) := by
    unfold Op.oth other
    by_cases q : o.other = -1
    · rw [if_pos ⟨hk, q⟩]; omega
    · rw [if_neg (fun z => q z.2)]; omega
  have hd : other o c < x.cols.length := by unfold other; omega
  have hne : c ≠ other o c := by unfold other; omega
  obtain ⟨p1, q1, r1, mm1⟩ := ps_row hx F.kc
  obtain ⟨p2, q2, r2, mm2⟩ := ps_row hx hd
  have hn : n <= 32768 := by rw [h.len]; have := cols_bound F.valid; rw [<- hx] at this; simpa using this
  have s1 := cols_small F.valid mm1
  have hks := F.ksl
  have hrl := F.row_len
  have hr2 := F.good.mem mm2
  rw [ho]
  refine (shift_any w a n cap ps p1 p2 o s c (other o c) B h hB q1 q2 hne (by rw [r1]; omega) (by rw [r2]; omega) (fun u hu => by rw [r1] at hu; have := s1.2.2 u hu; exact ⟨by omega, by omega⟩) (by rw [r1]; omega) (by omega)).mono ?_
  rintro e w' ⟨n', ps', rfl, hO, hm, hb⟩
  refine ⟨a, _, cap, _, rfl, hO, ?_, hb⟩
  have hOC : opCols x o s c = (if alone ((x.row c).set s (-1)) s = true then ((x.cols.set (other o c) ((x.row (other o c)).set s o.tok)).set c ((x.row c).set s (-1))).eraseIdx c else (x.cols.set (other o c) ((x.row (other o c)).set s o.tok)).set c ((x.row c).set s (-1))) := by
    unfold opCols; rw [if_neg (by omega), if_neg (by omega), if_pos hk]; rfl
  rw [hm, r1, r2, hx, hOC]
theorem apl_4 (w : World) (B : Nat) (a : Option Addr) (n cap : Nat) (ps : List (Row × List Int)) (x : Col) (o : Op) (s c : Nat) (h : OwnC w B a n cap ps) (hB : B <= w.heap.size) (hx : ps.map (·.2) = x.cols) (hk : o.kind = 4) :
    Calls Tryz.prog 80 #[.slice a n cap, o.val, .agg #[.int .i64 (s : Int), .int .i64 (c : Int), .int .i64 (o.oth c)]] w (AplPost x o s c w B) := by
  have ho : opCols x o s c = x.cols := by unfold opCols; rw [if_neg (by omega), if_neg (by omega), if_neg (by omega)]
  suffices Calls Tryz.prog 80 #[.slice a n cap, o.val, .agg #[.int .i64 (s : Int), .int .i64 (c : Int), .int .i64 (o.oth c)]] w (fun e w' => e = .returned (.slice a n cap) /\ Below w.heap.size w w') by
    refine this.mono ?_
    rintro e w' ⟨rfl, hb⟩
    exact ⟨a, n, cap, ps, rfl, h.below hb, by rw [ho]; exact hx, hb.mono hB⟩
  generalize o.oth c = po
  obtain ⟨ok, og, ot, oo, ox⟩ := o
  change Calls _ _ #[_, .agg #[.int .i64 ok, .string og, .int .i64 ot, .int .i64 oo, .string ox], _] _ _
  go_enter Tryz.func80, Tryz.ntmps80
  go_wp2
  go_ret
  exact ⟨rfl, ((Below.refl _ _).alloc (Nat.le_refl _) _).alloc (by simp) _⟩
end Go.Proofs.YtbdgmgddliploaaGreatDoor

/- slices.Clone at ints, tokens, lists of tokens. -/
namespace Go.Proofs
open Go.Shelf
def Tryz.lays41_tk_ren : Go.Shelf.Ren := ⟨fun | 41 => 72 | n => n, fun | 22 => 46 | 23 => 76 | 4 => 4 | n => n, fun | n => n⟩
theorem Tryz.lays41_tk : Go.Proofs.SlLaysE0.n41 Tryz.prog Tryz.lays41_tk_ren := {
  mixed := by kernel_rfl
  f41 := ⟨Tryz.f72.name, by decide, Tryz.func72.trans (congrArg some (by kernel_rfl))⟩
  t4 := Tryz.underlying4
  a4 := Tryz.isAgg4
  z4 := Tryz.sizeOf4
  v4 := Tryz.zeroValue4
  t22 := Tryz.underlying46
  a22 := Tryz.isAgg46
  z22 := Tryz.sizeOf46
  v22 := Tryz.zeroValue46 }
def Tryz.lays41_tr_ren : Go.Shelf.Ren := ⟨fun | 41 => 71 | n => n, fun | 22 => 23 | 23 => 46 | 4 => 4 | n => n, fun | n => n⟩
theorem Tryz.lays41_tr : Go.Proofs.SlLaysE0.n41 Tryz.prog Tryz.lays41_tr_ren := {
  mixed := by kernel_rfl
  f41 := ⟨Tryz.f71.name, by decide, Tryz.func71.trans (congrArg some (by kernel_rfl))⟩
  t4 := Tryz.underlying4
  a4 := Tryz.isAgg4
  z4 := Tryz.sizeOf4
  v4 := Tryz.zeroValue4
  t22 := Tryz.underlying23
  a22 := Tryz.isAgg23
  z22 := Tryz.sizeOf23
  v22 := Tryz.zeroValue23 }
end Go.Proofs
namespace Go.Proofs.YtbdgmgddliploaaGreatDoor
open Go.RowKit Go.Shelf

/-- The cells of a slice, one behind the other. -/
theorem Sq.flat {α : Type} {R : Rel α} {k s : Nat} {S : Nat -> Prop} {w : World} {b off n c : Nat} {l : List α} {enc : α -> List Value} (h : Sq R k s S w (some ⟨b, off, none⟩) n c l) (henc : ∀ cs x, R S w cs x -> cs = enc x) (hk : ∀ x, (enc x).length = k) :
    ∀ j u, (l.flatMap enc)[j]? = some u -> w.cell? ⟨b, off + j, none⟩ = some u := by
  intro j u hj
  have hjl : j < l.length * k := by rw [<- flat_len hk]; exact (List.getElem?_eq_some_iff.1 hj).1
  have hk0 : 0 < k := by
    rcases Nat.eq_zero_or_pos k with e | e
    · subst e; omega
    · exact e
  have hq : j / k < n := by rw [h.len]; exact Nat.div_lt_of_lt_mul (by rw [Nat.mul_comm]; exact hjl)
  obtain ⟨x, b', off', cs, h1, -, e, -, -, h2, h3, h4⟩ := h.get hq
  cases e
  have hcs := henc cs x h4
  subst hcs
  have hm : j % k < k := Nat.mod_lt _ hk0
  have hf := flat_get (enc := enc) hk l (j / k) x (j % k) h1 hm
  have hjj : j / k * k + j % k = j := by rw [Nat.mul_comm]; exact Nat.div_add_mod j k
  rw [hjj, hj] at hf
  have := h3 (j % k) u hf.symm
  rwa [Nat.add_assoc, hjj] at this
theorem clone_int (S : Nat -> Prop) (a : Option Addr) (n c : Nat) (l : List Int) (w : World) (h : Nums S w a n c l) (h0 : 0 < n) :
    Calls Tryz.prog 70 #[.slice a n c] w fun e w' => ∃ a' c', e = .returned (.slice a' n c') /\ OwnQ 3 1 encI w' w.heap.size a' n c' l /\ Below w.heap.size w w' := by
  obtain ⟨i0, hi, hz0, hz1, hz2⟩ := info_parts Tryz.infoInt
  obtain ⟨-, b, off, -, -, -, rfl, -⟩ := h.get h0
  have hb := h.bound
  refine (Tryz.slices_Clone i0 _ 1 8 hi hz0 hz1 hz2 rfl (by omega) Tryz.sizeOf3 b off n c (l.flatMap encI) w (by rw [flat_len (size := 1) (fun _ => rfl), h.len]) (by unfold maxLen; omega) hb (h.flat (fun cs x hr => hr.1) (fun _ => rfl)) (fun u hu => by obtain ⟨y, _, hy⟩ := List.mem_flatMap.1 hu; exact one_i y u hy)).mono ?_
  rintro e w' ⟨v', rfl, h1, -, h2⟩
  obtain ⟨a', c', rfl, ho⟩ := own_of_row h1 h.len
  exact ⟨a', c', rfl, ho, h2⟩
theorem clone_toks (S : Nat -> Prop) (a : Option Addr) (n c : Nat) (l : List Tok) (w : World) (h : Toks S w a n c l) (h0 : 0 < n) :
    Calls Tryz.prog 72 #[.slice a n c] w fun e w' => ∃ a' c', e = .returned (.slice a' n c') /\ OwnQ 76 6 Tok.cells w' w.heap.size a' n c' l /\ Below w.heap.size w w' := by
  obtain ⟨i0, hi, hz0, hz1, hz2⟩ := info_parts infoT
  obtain ⟨-, b, off, -, -, -, rfl, -⟩ := h.get h0
  have hb := h.bound
  refine (AnyE.slices_Clone Tryz.lays41_tk i0 _ 6 80 hi hz0 hz1 hz2 rfl (by omega) Tryz.sizeOf76 b off n c (l.flatMap Tok.cells) w (by rw [flat_len tok_len, h.len]) (by unfold maxLen; omega) hb (h.flat (fun cs x hr => hr.1) tok_len) (fun u hu => by obtain ⟨y, _, hy⟩ := List.mem_flatMap.1 hu; exact tok_one y u hy)).mono ?_
  rintro e w' ⟨v', rfl, h1, -, h2⟩
  obtain ⟨a', c', rfl, ho⟩ := own_of_row h1 h.len
  exact ⟨a', c', rfl, ho, h2⟩
theorem list_ofQ {α : Type} (R : Nat -> α -> Prop) : ∀ n : Nat, (∀ i, i < n -> ∃ x, R i x) -> ∃ l : List α, l.length = n /\ ∀ i x, l[i]? = some x -> R i x
  | 0, _ => ⟨[], rfl, fun i x h => by simp at h⟩
  | n + 1, h => by
    obtain ⟨l, hl, hR⟩ := list_ofQ R n (fun i hi => h i (by omega))
    obtain ⟨x, hx⟩ := h n (by omega)
    refine ⟨l ++ [x], by simp [hl], fun i y hy => ?_⟩
    by_cases e : i < n
    · rw [List.getElem?_append_left (by omega)] at hy; exact hR i y hy
    · have hi : i < (l ++ [x]).length := (List.getElem?_eq_some_iff.1 hy).1
      rw [List.length_append, hl, List.length_singleton] at hi
      obtain rfl : i = l.length := by omega
      rw [List.getElem?_append_right (Nat.le_refl _), Nat.sub_self] at hy
      cases hy; rw [hl]; exact hx
/-- The slices of a slice of slices. -/
theorem Sq.rows {α : Type} {R : Rel α} {k s : Nat} {S : Nat -> Prop} {w : World} {b off n c : Nat} {l : List (List α)} (h : Sq (rSl R k s) 1 24 S w (some ⟨b, off, none⟩) n c l) :
    ∃ rs : List Row, rs.length = n /\ (∀ (j : Nat) (r : Row), rs[j]? = some r -> w.cell? ⟨b, off + j, none⟩ = some (rowV r) /\ ∃ x, l[j]? = some x /\ Sq R k s S w r.1 r.2.1 r.2.2 x) := by
  refine list_ofQ _ n fun j hj => ?_
  obtain ⟨x, b', off', a', n', c', h1, -, e, -, -, h2, h3⟩ := h.row hj
  cases e
  exact ⟨(a', n', c'), h3, x, h1, h2⟩
theorem clone_tokss (S : Nat -> Prop) (a : Option Addr) (n c : Nat) (l : List (List Tok)) (w : World) (h : Tokss S w a n c l) (h0 : 0 < n) :
    Calls Tryz.prog 71 #[.slice a n c] w fun e w' => ∃ a' c' , ∃ rs : List Row, e = .returned (.slice a' n c') /\ OwnQ 46 1 encR w' w.heap.size a' n c' rs /\ (∀ (j : Nat) (r : Row), rs[j]? = some r -> ∃ x, l[j]? = some x /\ Toks S w r.1 r.2.1 r.2.2 x) /\ Below w.heap.size w w' := by
  obtain ⟨i0, hi, hz0, hz1, hz2⟩ := info_parts infoTs
  obtain ⟨-, b, off, -, -, -, rfl, -⟩ := h.get h0
  have hb := h.bound
  obtain ⟨rs, hl, hr⟩ := h.rows
  have hfl : rs.flatMap encR = rs.map rowV := flat_one
  refine (AnyE.slices_Clone Tryz.lays41_tr i0 _ 1 24 hi hz0 hz1 hz2 rfl (by omega) Tryz.sizeOf46 b off n c (rs.flatMap encR) w (by rw [hfl]; simp [hl]) (by unfold maxLen; omega) hb (fun j u hj => by
    rw [hfl, List.getElem?_map] at hj
    obtain ⟨r, hrj, rfl⟩ := Option.map_eq_some_iff.1 hj
    exact (hr j r hrj).1) (fun u hu => by obtain ⟨y, _, hy⟩ := List.mem_flatMap.1 hu; exact one_r y u hy)).mono ?_
  rintro e w' ⟨v', rfl, h1, -, h2⟩
  obtain ⟨a', c', rfl, ho⟩ := own_of_row h1 hl.symm
  exact ⟨a', c', rs, rfl, ho, fun j r hj => (hr j r hj).2, h2⟩
end Go.Proofs.YtbdgmgddliploaaGreatDoor
