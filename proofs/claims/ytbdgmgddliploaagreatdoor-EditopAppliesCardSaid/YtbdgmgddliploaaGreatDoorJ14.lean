/- Joined: EJoi. -/
import Derived.Test.YtbdgmgddliploaaGreatDoorJ13
import Derived.Test.YtbdgmgddliploaaGreatDoorJ00
import Derived.Test.YtbdgmgddliploaaGreatDoorJ06
import Derived.Lib.AppendZerosOnto
import Derived.Lib.Overlaps
import Derived.Laws.CopyOwn
import Derived.Shelf.Spec.SlicesInsert
import Derived.Test.YtbdgmgddliploaaGreatDoorJ12
set_option linter.unusedVariables false
set_option linter.unusedSimpArgs false
set_option maxRecDepth 100000
set_option maxHeartbeats 16000000
namespace Go.Proofs.YtbdgmgddliploaaGreatDoor
open Go.RowKit

/-- A slice of slices of the call's own, each in a block of its own. -/
def OwnG {α : Type} (e1 e size : Nat) (enc : α -> List Value) (w : World) (B : Nat) (a : Option Addr) (n cap : Nat) (ps : List (Row × List α)) : Prop :=
  OwnQ e1 1 encR w B a n cap (ps.map (·.1)) /\ RowsP e size enc w B ps /\ ∀ p ∈ ps, Apart p.1.1 a
abbrev OwnC := OwnG (α := Int) 61 3 1 encI
namespace OwnG
variable {α : Type} {e1 e size : Nat} {enc : α -> List Value} {w w' : World} {B : Nat} {a : Option Addr} {n cap : Nat} {ps P Q : List (Row × List α)} {p p' : Row × List α}
theorem nil (e1 e size : Nat) (enc : α -> List Value) (w : World) (B : Nat) : OwnG e1 e size enc w B none 0 0 [] := ⟨OwnQ.nil _ _ _ _ _, RowsP.nil _ _ _ _ _, by simp⟩
theorem len (h : OwnG e1 e size enc w B a n cap ps) : n = ps.length := by rw [h.1.len, List.length_map]
theorem below (h : OwnG e1 e size enc w B a n cap ps) (hb : Below w.heap.size w w') : OwnG e1 e size enc w' B a n cap ps := ⟨h.1.below hb, h.2.1.below hb, h.2.2⟩
theorem drewN (h : OwnG e1 e size enc w B a n cap ps) (q : Nat) : OwnG e1 e size enc (w.drewN q) B a n cap ps := h.below (below_drewN (Below.refl _ _) q)
theorem mono {B' : Nat} (h : OwnG e1 e size enc w B a n cap ps) (hB : B' <= B) : OwnG e1 e size enc w B' a n cap ps := ⟨h.1.mono hB, h.2.1.mono hB, h.2.2⟩
theorem sq {R : Rel α} {S : Nat -> Prop} {s : Nat} (h : OwnG e1 e size enc w B a n cap ps) (henc : ∀ x, (enc x).length = size) (hn : n * 24 <= 140737488355328) (hS : ∀ b, B <= b -> b < w.heap.size -> S b)
    (hl : ∀ p ∈ ps, p.2.length * s <= 140737488355328 /\ ∀ x ∈ p.2, R S w (enc x) x) : Sq (rSl R size s) 1 24 S w a n cap (ps.map (·.2)) :=
  h.2.1.sq h.1 henc hn hS (fun x hx => hS _ (h.1.lt x hx).1 (h.1.lt x hx).2) hl
/-- Row j: where it lies. -/
theorem at_ (h : OwnG e1 e size enc w B a n cap ps) {j : Nat} (hj : j < n) : ∃ p g, ps[j]? = some p /\ p ∈ ps /\ a = some ⟨g, 0, none⟩ /\ B <= g /\ g < w.heap.size /\ w.cell? ⟨g, j, none⟩ = some (.slice p.1.1 p.1.2.1 p.1.2.2) /\ (∀ k, w.frozen? ⟨g, k, none⟩ = false) /\ OwnQ e size enc w B p.1.1 p.1.2.1 p.1.2.2 p.2 := by
  obtain ⟨r, g, h1, h2, rfl, h3, h4, h5, h6⟩ := h.1.at_ (j := j) (fun _ => rfl) hj
  rw [List.getElem?_map] at h1
  obtain ⟨p, hp, rfl⟩ := Option.map_eq_some_iff.1 h1
  have hpm : p ∈ ps := List.mem_of_getElem? hp
  refine ⟨p, g, hp, hpm, rfl, h3, h4, ?_, h5, h.2.1.1 p hpm⟩
  have := h6 0 _ rfl
  rwa [Nat.mul_one, Nat.add_zero] at this
/-- One cell of a row is stored. -/
theorem set1 {enc : α -> List Value} {g m c : Nat} {l : List α} (h : OwnG e1 e 1 enc w B a n cap (P ++ ((some ⟨g, 0, none⟩, m, c), l) :: Q)) (one : ∀ x, ∃ v, enc x = [v]) (j : Nat) (x : α) (v : Value) (hv : enc x = [v]) :
    OwnG e1 e 1 enc (w.setCell ⟨g, j, none⟩ v) B a n cap (P ++ ((some ⟨g, 0, none⟩, m, c), l.set j x) :: Q) := by
  have hap : Apart (some ⟨g, 0, none⟩) a := h.2.2 _ (by simp : ((some ⟨g, 0, none⟩, m, c), l) ∈ _)
  refine ⟨?_, h.2.1.set1 one j x v hv, fun q hq => ?_⟩
  · have := h.1.setOther (g := g) (j := j) (fun y hy e => hap ⟨g, 0, none⟩ y rfl hy e.symm) v
    simpa using this
  · rcases List.mem_append.1 hq with hq | hq
    · exact h.2.2 q (by simp [hq])
    · rcases List.mem_cons.1 hq with rfl | hq
      · exact hap
      · exact h.2.2 q (by simp [hq])
end OwnG
theorem heap_putRow {α : Type} [Inhabited α] (enc : α -> Value) (w : World) (g q : Nat) (d : Array α) {cur : Array Value} {e : TypeId} {fr : Nat × Nat} (h : w.heap[g]? = some (.cells cur e fr)) :
    (Sort.putRow enc (Sort.ahead w q) g 0 d).heap[g]? = some (.cells (Sort.putCells enc 0 d cur) e fr) := by
  unfold Sort.putRow Sort.mapBlock; simp [Array.getElem?_modify, h, Sort.onCells]
theorem heap_putRow_other {α : Type} [Inhabited α] (enc : α -> Value) (w : World) {g b : Nat} (q : Nat) (d : Array α) (h : b ≠ g) :
    (Sort.putRow enc (Sort.ahead w q) g 0 d).heap[b]? = w.heap[b]? := by
  unfold Sort.putRow Sort.mapBlock; simp [Array.getElem?_modify, Ne.symm h]
theorem putRow_grown {α : Type} [Inhabited α] (enc : α -> Value) (w : World) (g q : Nat) (d : Array α) : w.grownBy (Sort.putRow enc (Sort.ahead w q) g 0 d) (some g) :=
  ⟨rfl, rfl, rfl, by simp [Sort.putRow, Sort.mapBlock], fun k _ hk => heap_putRow_other enc w q d (fun e => hk (by rw [e]))⟩
theorem rowV_oneCell : OneCell rowV := fun _ => rfl
/-- One of them is taken out. -/
theorem del_any (w : World) (B : Nat) (a : Option Addr) (n cap : Nat) (P Q : List (Row × List Int)) (p : Row × List Int) (h : OwnC w B a n cap (P ++ p :: Q)) :
    Calls Tryz.prog 102 #[.slice a n cap, .int .i64 (P.length : Int), .int .i64 ((P.length : Int) + 1)] w fun e w' => e = .returned (.slice a (n - 1) cap) /\ OwnC w' B a (n - 1) cap (P ++ Q) /\ w.grownBy w' (Value.slice a n cap).ownBlock := by
  have hn : n = P.length + Q.length + 1 := by rw [h.len]; simp; omega
  obtain ⟨h1, h2, h3⟩ := h
  rcases h1.2.2 with ⟨_, h0⟩ | ⟨g, cap', cur, hv, hB, hg, hnc, hcm, hcs, ht⟩
  · omega
  · cases hv
    obtain ⟨i0, hi0, hz0, hz1, hz2⟩ := info_parts Tryz.infoInts
    have hl : ((P ++ p :: Q).map (·.1)).length = n := h1.len.symm
    have hH : Sort.Holds rowV w g 0 ((P ++ p :: Q).map (·.1)).toArray := by
      intro j hj
      rw [List.size_toArray] at hj
      obtain ⟨r, g', e1, _, e2, _, _, e3, e4⟩ := h1.at_ (j := j) (fun _ => rfl) (by omega)
      cases e2
      refine ⟨?_, by rw [Nat.zero_add]; exact e3 j⟩
      have := e4 0 _ rfl
      rw [Nat.mul_one, Nat.add_zero] at this
      rw [Nat.zero_add, this, getElem!_pos _ j (by simpa using hj)]
      have hj' := hj
      rw [List.getElem?_eq_getElem hj'] at e1
      cases e1
      simp
    have hsz : ((P ++ p :: Q).map (·.1)).toArray.size = n := by rw [List.size_toArray, hl]
    have := Tryz.slices_Delete rowV rowV_oneCell (none, 0, 0) Tryz.zeroValue61 i0 hi0 hz1 g 0 cap P.length (P.length + 1) ((P ++ p :: Q).map (·.1)).toArray w hH (by rw [hsz]; exact hnc) (by unfold maxLen at hcm; omega) (by omega) (by rw [hsz]; omega)
    rw [hsz, show P.length + 1 - P.length = 1 by omega] at this
    refine this.mono ?_
    rintro e w' ⟨rfl, q, rfl⟩
    have hd : (((P ++ p :: Q).map (fun p : Row × List Int => p.1)).toArray.toList.take P.length ++ ((P ++ p :: Q).map (fun p : Row × List Int => p.1)).toArray.toList.drop (P.length + 1) ++ List.replicate 1 (none, 0, 0) : List Row) = (P ++ Q).map (·.1) ++ [(none, 0, 0)] := by
      simp only [List.map_append, List.map_cons]
      rw [List.take_left' (by simp), show P.length + 1 = (P.map (fun p : Row × List Int => p.1)).length + 1 by simp, List.drop_length_add_append]
      simp
    rw [hd]
    have hgr := putRow_grown rowV w g q ((P ++ Q).map (fun p : Row × List Int => p.1) ++ [(none, 0, 0)]).toArray
    refine ⟨rfl, ⟨⟨by simp [hn], ?_, .inr ⟨g, cap, _, rfl, hB, heap_putRow rowV w g q _ hg, by omega, hcm, by simp [Sort.putCells, hcs], ?_⟩⟩, ?_, fun r hr => h3 r (by rcases List.mem_append.1 hr with hr | hr <;> simp [hr])⟩, hgr⟩
    · have := flat_len (enc := encR) (size := 1) (fun _ => rfl) ((P ++ Q).map (fun p : Row × List Int => p.1)); rw [this]; simp; omega
    · apply List.ext_getElem?
      intro k
      rw [List.getElem?_take]
      have hfl : ((P ++ Q).map (·.1)).flatMap encR = ((P ++ Q).map (·.1)).map rowV := flat_one
      rw [hfl, List.getElem?_map]
      by_cases hk : k < (n - 1) * 1
      · rw [if_pos hk]
        have hkl : k < ((P ++ Q).map (·.1)).length := by simp; omega
        have hkc : k < cur.size := by rw [hcs]; omega
        rw [List.getElem?_eq_getElem hkl]
        simp only [Sort.putCells, Array.getElem?_toList, Array.getElem?_mapIdx, Array.getElem?_eq_getElem hkc, Option.map_some]
        rw [if_pos ⟨Nat.zero_le _, by simp; omega⟩, getElem!_pos _ _ (by simp; omega)]
        simp only [Nat.sub_zero, List.getElem_toArray]
        rw [List.getElem_append_left hkl]
      · rw [if_neg hk, List.getElem?_eq_none (by simp; omega)]; rfl
    · exact h2.out.kept hgr (fun r hr x hx => by
        have := h3 r (by rcases List.mem_append.1 hr with hr | hr <;> simp [hr]) x ⟨g, 0, none⟩ hx rfl
        intro e
        exact this (Option.some.inj e))
end Go.Proofs.YtbdgmgddliploaaGreatDoor

/- slices.Insert of one slice among slices of the call's own. -/
namespace Go.Proofs.YtbdgmgddliploaaGreatDoor
open Go.RowKit Go.Lib

theorem splice_mid {α : Type} {A B C D : List α} {k : Nat} (hk : k = A.length) (hD : D.length = B.length) : splice (A ++ B ++ C) k D = A ++ D ++ C := by
  unfold splice
  subst hk
  rw [List.append_assoc, List.take_left' rfl, List.drop_length_add_append, hD]
  rw [List.drop_left' rfl, List.append_assoc]
theorem parts {α : Type} {L pre : List α} {i p : Nat} (hi : pre.length = i) (hp : L.take i = pre) (hl : i + 1 + p <= L.length) : ∃ u m z, L = pre ++ ([u] ++ (m ++ z)) /\ m.length = p := by
  have h1 : L = pre ++ L.drop i := by rw [<- hp]; exact (List.take_append_drop i L).symm
  obtain ⟨u, t, hu⟩ : ∃ u t, L.drop i = u :: t := by
    cases h : L.drop i with
    | nil => have := congrArg List.length h; rw [List.length_drop, List.length_nil] at this; omega
    | cons u t => exact ⟨u, t, rfl⟩
  have ht : p <= t.length := by
    have := congrArg List.length hu
    rw [List.length_drop, List.length_cons] at this; omega
  refine ⟨u, t.take p, t.drop p, ?_, by rw [List.length_take]; omega⟩
  rw [List.take_append_drop, List.singleton_append, <- hu]; exact h1
theorem fin_room {α : Type} {L pre post : List α} {x : α} {i : Nat} (hi : pre.length = i) (hp : L.take i = pre) (hl : i + 1 + post.length <= L.length) :
    (splice (splice L (i + 1) post) i [x]).take (i + 1 + post.length) = pre ++ x :: post := by
  obtain ⟨u, m, z, rfl, hm⟩ := parts hi hp hl
  rw [show pre ++ ([u] ++ (m ++ z)) = (pre ++ [u]) ++ m ++ z by simp, splice_mid (A := pre ++ [u]) (by simp; omega) hm.symm]
  rw [show pre ++ [u] ++ post ++ z = pre ++ [u] ++ (post ++ z) by simp, splice_mid (A := pre) (B := [u]) (D := [x]) hi.symm rfl]
  rw [show pre ++ [x] ++ (post ++ z) = (pre ++ x :: post) ++ z by simp]
  exact List.take_left' (by simp; omega)
theorem fin_grow {α : Type} {L pre post : List α} {x : α} {i : Nat} (hi : pre.length = i) (hp : L.take i = pre) (hl : i + 1 + post.length <= L.length) :
    (splice (splice L i [x]) (i + 1) post).take (i + 1 + post.length) = pre ++ x :: post := by
  obtain ⟨u, m, z, rfl, hm⟩ := parts hi hp hl
  rw [show pre ++ ([u] ++ (m ++ z)) = pre ++ [u] ++ (m ++ z) by simp, splice_mid (A := pre) (B := [u]) (D := [x]) hi.symm rfl]
  rw [show pre ++ [x] ++ (m ++ z) = (pre ++ [x]) ++ m ++ z by simp, splice_mid (A := pre ++ [x]) (by simp; omega) hm.symm]
  rw [show pre ++ [x] ++ post ++ z = (pre ++ x :: post) ++ z by simp]
  exact List.take_left' (by simp; omega)

theorem wpList_copy_spl {P : Program} {w : World} {ops : Array Oper} {rest : List Oper} {o : Oper} {a : Act} {Q : Exit -> Act -> World -> Prop} (hgd : o.guard = none) (d s : Operand) (dT sT : TypeId)
    (ho : o.op = .call { callee := .builtin .copy, args := #[d, s], argTypes := #[dT, sT] }) (elem : TypeId) (hu : P.underlying dT = some (.slice elem)) (hsz : (P.info? elem).map (·.size) = some 1)
    (g off dLen dCap : Nat) (ad : Addr) (sLen sCap : Nat) (hd : a.eval d = .slice (some ⟨g, off, none⟩) dLen dCap) (hs : a.eval s = .slice (some ad) sLen sCap)
    (cur : List Value) (t : TypeId) (hg : w.heap[g]? = some (.cells cur.toArray t (0, 0))) (cs : List Value) (hn : cs.length = Nat.min sLen dLen)
    (hsrc : ∀ j v, cs[j]? = some v -> w.cell? (ad.add j) = some v) (hfit : off + cs.length <= cur.length) (h1 : ∀ v ∈ cs, v.oneCell' = true)
    (h : ∀ w', Hid (w'.heap[g]? = some (.cells (splice cur off cs).toArray t (0, 0))) -> w.grownBy w' (some g) -> wpList P ops Q rest (a.put o.dst (goInt cs.length)) w') : wpList P ops Q (o :: rest) a w := by
  refine wpList_copy_own hgd d s dT sT ho elem hu hsz g off dLen dCap ad sLen sCap hd hs cur.toArray t hg cs hn hsrc (by simpa using hfit) h1 ?_
  refine h _ (show _ = _ by simpa [splice] using setRow_heap w g _ _ t _ hg) ⟨rfl, rfl, rfl, by simp [World.setRow], fun k _ hk => setRow_other w g k _ (fun e => hk (by rw [e]))⟩

/-- The slice with one row more, wherever its outer row now lies. -/
theorem OwnG.rebuilt {α : Type} {e1 e size : Nat} {enc : α -> List Value} {w w' : World} {B : Nat} {a a' : Option Addr} {n n' cap cap' : Nat} {P Q : List (Row × List α)} {p : Row × List α} (h : OwnG e1 e size enc w B a n cap (P ++ Q))
    (hp : OwnQ e size enc w B p.1.1 p.1.2.1 p.1.2.2 p.2) (hpa : Apart p.1.1 a) (hpr : ∀ q ∈ P ++ Q, Apart q.1.1 p.1.1) (ho : OwnQ e1 1 encR w' B a' n' cap' ((P ++ p :: Q).map (·.1)))
    (hk : ∀ b, b < w.heap.size -> (∀ x, a = some x -> b ≠ x.block) -> w'.heap[b]? = w.heap[b]?) (hv : ∀ x, a' = some x -> (∃ y, a = some y /\ x.block = y.block) \/ w.heap.size <= x.block) : OwnG e1 e size enc w' B a' n' cap' (P ++ p :: Q) := by
  have hkeep : ∀ q : Row × List α, OwnQ e size enc w B q.1.1 q.1.2.1 q.1.2.2 q.2 -> Apart q.1.1 a -> OwnQ e size enc w' B q.1.1 q.1.2.1 q.1.2.2 q.2 /\ Apart q.1.1 a' := by
    intro q hq hqa
    refine ⟨hq.same fun x hx => hk _ (hq.lt x hx).2 fun y hy => hqa x y hx hy, ?_⟩
    intro x y hx hy
    rcases hv y hy with ⟨z, hz, e⟩ | hv
    · rw [e]; exact hqa x z hx hz
    · have := (hq.lt x hx).2; omega
  obtain ⟨p1, p2⟩ := hkeep p hp hpa
  refine ⟨ho, RowsP.put ⟨fun q hq => (hkeep q (h.2.1.1 q hq) (h.2.2 q hq)).1, h.2.1.2⟩ p1 hpr, fun q hq => ?_⟩
  rcases List.mem_append.1 hq with hq | hq
  · exact (hkeep q (h.2.1.1 q (by simp [hq])) (h.2.2 q (by simp [hq]))).2
  · rcases List.mem_cons.1 hq with rfl | hq
    · exact p2
    · exact (hkeep q (h.2.1.1 q (by simp [hq])) (h.2.2 q (by simp [hq]))).2
/-- An outer row of the call's own, by its block. -/
theorem own_heap {w : World} {B g n cap : Nat} {rs : List Row} {L : List Value} (hg : w.heap[g]? = some (.cells L.toArray 61 (0, 0))) (hB : B <= g) (hn : n = rs.length) (hc : n <= cap) (hm : cap <= maxLen) (hL : L.length = cap) (ht : L.take n = rs.map rowV) :
    OwnQ 61 1 encR w B (some ⟨g, 0, none⟩) n cap rs := by
  have hf : rs.flatMap encR = rs.map rowV := flat_one
  refine ⟨hn, by rw [hf]; simp [hn], .inr ⟨g, cap, _, rfl, hB, hg, hc, hm, by simpa using hL, ?_⟩⟩
  rw [hf, Nat.mul_one]; simpa using ht
theorem heap_own {w : World} {B g n cap : Nat} {rs : List Row} (h : OwnQ 61 1 encR w B (some ⟨g, 0, none⟩) n cap rs) : ∃ L : List Value, w.heap[g]? = some (.cells L.toArray 61 (0, 0)) /\ B <= g /\ n <= cap /\ cap <= maxLen /\ L.length = cap /\ L.take n = rs.map rowV := by
  rcases h.2.2 with ⟨h0, _⟩ | ⟨g', cap', cur, hv, hB, hg, hnc, hcm, hcs, ht⟩
  · cases h0
  · cases hv
    have hf : rs.flatMap encR = rs.map rowV := flat_one
    rw [hf, Nat.mul_one] at ht
    exact ⟨cur.toList, by simpa using hg, hB, hnc, hcm, by simpa using hcs, ht⟩
def InsPost (w : World) (B : Nat) (n : Nat) (P Q : List (Row × List Int)) (p : Row × List Int) (e : Ending) (w' : World) : Prop :=
  ∃ a' cap', e = .returned (.slice a' (n + 1) cap') /\ OwnC w' B a' (n + 1) cap' (P ++ p :: Q) /\ Below B w w'
/-- At the end. -/
theorem ins_end (w : World) (B : Nat) (a : Option Addr) (n cap vb : Nat) (P : List (Row × List Int)) (p : Row × List Int) (h : OwnC w B a n cap P) (hB : B <= w.heap.size)
    (hp : OwnQ 3 1 encI w B p.1.1 p.1.2.1 p.1.2.2 p.2) (hpa : Apart p.1.1 a) (hpr : ∀ q ∈ P, Apart q.1.1 p.1.1) (hv : w.cell? ⟨vb, 0, none⟩ = some (rowV p.1)) (hn : 0 < n) (hbn : n <= 1000000) :
    Calls Tryz.prog 105 #[.slice a n cap, .int .i64 (P.length : Int), .slice (some ⟨vb, 0, none⟩) 1 1] w (InsPost w B n P [] p) := by
  obtain ⟨pi, g, -, -, rfl, hgB, hgs, -, hf, -⟩ := h.at_ (j := 0) hn
  have hl := h.len
  have hcn := h.1.cap_le
  rw [<- hl]
  have H1 := hiq h.1
  have HV : Hid (∀ j u, (([p.1] : List Row).flatMap encR)[j]? = some u -> w.cell? ((⟨vb, 0, none⟩ : Addr).add j) = some u) := fun j u hj => by
    have hs : ([p.1] : List Row).flatMap encR = [rowV p.1] := rfl
    rw [hs] at hj
    match j, hj with
    | 0, hj => rw [Addr.add_lit]; simp at hj; rw [<- hj]; exact hv
    | j + 1, hj => simp at hj
  have HH := hiq h
  have HP := hiq hp
  have HM := Tryz.infoInts
  clear h hp hv
  go_enter Tryz.func105, Tryz.ntmps105
  go_wp2_with (first | (at_builtin; refine wpList_appQ (l := P.map (·.1)) (ys := [p.1]) HM Tryz.underlying24 rfl (by omega) (fun _ => rfl) one_r rfl _ _ rfl rfl rfl H1.out rfl HV.out (by unfold maxLen; omega) (by omega) hB (Below.refl B w) ?_; intro a' c' w' ho hb hg hw'))
  all_goals
    go_ret
    refine ⟨a', c', rfl, OwnG.rebuilt (P := P) (Q := []) (by simpa using HH.out) HP.out hpa (by simpa using hpr) (by simpa [hl] using ho) (fun b hb1 hb2 => hg.block b hb1 (fun e => hb2 ⟨g, 0, none⟩ rfl (Option.some.inj e))) (fun x hx => ?_), hb⟩
    subst hx
    rcases hw' with e | e
    · exact .inl ⟨_, rfl, Option.some.inj e⟩
    · exact .inr (Nat.le_of_eq (Option.some.inj e).symm)
/-- In the midst, with room. -/
theorem ins_room (w : World) (B : Nat) (a : Option Addr) (n cap vb : Nat) (P Q : List (Row × List Int)) (p : Row × List Int) (h : OwnC w B a n cap (P ++ Q)) (hB : B <= w.heap.size)
    (hp : OwnQ 3 1 encI w B p.1.1 p.1.2.1 p.1.2.2 p.2) (hpa : Apart p.1.1 a) (hpr : ∀ q ∈ P ++ Q, Apart q.1.1 p.1.1) (hvb : w.heap[vb]? = some (.cells #[rowV p.1] 61 (0, 0))) (hva : ∀ x, a = some x -> vb ≠ x.block) (hQ : 0 < Q.length) (hbn : n <= 1000000) (hcap : n + 1 <= cap) :
    Calls Tryz.prog 105 #[.slice a n cap, .int .i64 (P.length : Int), .slice (some ⟨vb, 0, none⟩) 1 1] w (InsPost w B n P Q p) := by
  have hl := h.len
  rw [List.length_append] at hl
  obtain ⟨pi, g, -, -, rfl, -, hgs, -, -, -⟩ := h.at_ (j := 0) (by omega)
  obtain ⟨L, hg, hgB, hnc, hcm, hL, ht⟩ := heap_own h.1
  have hne := hva _ rfl
  dsimp only at hne
  obtain ⟨i, hi⟩ : ∃ i, i = P.length := ⟨_, rfl⟩
  rw [<- hi]
  obtain ⟨i0, hi0, hz0, hzs, hzb⟩ := info_parts Tryz.infoInts
  have hsz : Hid ((Tryz.prog.info? 61).map (·.size) = some 1) := by show _ = _; rw [hi0]; simp [hzs]
  have hmx : cap <= 9223372036854775807 := by unfold maxLen at hcm; omega
  have hov : ∀ lb cb, (callFunc 124 #[.slice (some ⟨vb, 0, none⟩) 1 1, .slice (some ⟨g, i + 1, none⟩) lb cb]).run Tryz.prog w = .ok (.value (.bool false)) w := fun lb cb => by
    rw [run_callFunc_extern Tryz.func124 (by kernel_rfl) (by kernel_rfl) (by kernel_rfl) (e := Extern.SlicesOverlaps.overlaps #[24, 24] #[4]) (by kernel_rfl),
      Lib.run_overlaps_apart w 24 4 61 Tryz.underlying24 1 Tryz.sizeOf61 ⟨vb, 0, none⟩ ⟨g, i + 1, none⟩ 1 1 lb cb hne 61 61 1 cap (by simp [World.shape?, hvb]) (by simp [World.shape?, hg, hL]) (by omega) (by simp [World.frozen?, hvb]) (by simp [World.frozen?, hvb])]
    rfl
  -- the cells that go over
  obtain ⟨cs1, hcs1⟩ : ∃ cs1, cs1 = (Q.map (·.1)).map rowV := ⟨_, rfl⟩
  have hc1l : cs1.length = n - i := by rw [hcs1]; simp; omega
  have htn : L.take n = (P.map (·.1)).map rowV ++ cs1 := by rw [ht, hcs1]; simp
  have hLi : L.take i = (P.map (·.1)).map rowV := by
    have := congrArg (List.take i) htn
    rw [List.take_take, Nat.min_eq_left (by omega), List.take_left' (by simp [hi])] at this
    exact this
  have hsrc1 : Hid (∀ W : World, W.heap[g]? = some (.cells L.toArray 61 (0, 0)) -> ∀ j v, cs1[j]? = some v -> W.cell? ((⟨g, i, none⟩ : Addr).add j) = some v) := fun W hW j v hj => by
    rw [Addr.add_lit, cell_row hW]
    have hjl := (List.getElem?_eq_some_iff.1 hj).1
    have : (L.take n)[i + j]? = ((P.map (·.1)).map rowV ++ cs1)[i + j]? := by rw [htn]
    rw [List.getElem?_take, if_pos (by omega), List.getElem?_append_right (by simp; omega)] at this
    rw [List.getElem?_toArray, this]
    have e : ∀ k, k = j -> cs1[k]? = some v := fun k hk => by rw [hk]; exact hj
    exact e _ (by simp; omega)
  have hone1 : Hid (∀ v ∈ cs1, v.oneCell' = true) := fun v hv => by
    rw [hcs1] at hv
    obtain ⟨r, _, rfl⟩ := List.mem_map.1 hv
    rfl
  have hfin : Hid ((splice (splice L (i + 1) cs1) i [rowV p.1]).take (n + 1) = ((P ++ p :: Q).map (·.1)).map rowV) := by
    show _ = _
    have := fin_room (L := L) (pre := (P.map (·.1)).map rowV) (post := cs1) (x := rowV p.1) (i := i) (by simp [hi]) hLi (by omega)
    rw [show i + 1 + cs1.length = n + 1 by omega] at this
    rw [this, hcs1]; simp
  have HV : Hid (∀ W : World, W.heap[vb]? = w.heap[vb]? -> ∀ j v, ([rowV p.1] : List Value)[j]? = some v -> W.cell? ((⟨vb, 0, none⟩ : Addr).add j) = some v) := fun W hW j v hj => by
    rw [Addr.add_lit, cell_row (hW.trans hvb)]
    match j, hj with
    | 0, hj => simpa using hj
    | j + 1, hj => simp at hj
  have hvbs : vb < w.heap.size := (Array.getElem?_eq_some_iff.1 hvb).1
  have h1 : i < n := by omega
  have hw1 : IntKind.i64.wrap ((i : Int) + 1) = (i : Int) + 1 := by rw [IntKind.wrap_i64]; omega
  have hw2 : IntKind.i64.wrap ((n : Int) + 1) = (n : Int) + 1 := by rw [IntKind.wrap_i64]; omega
  have t2 : ((i : Int) == (n : Int)) = false := by simp; omega
  have t3 : ¬ (cap : Int) < (n : Int) + 1 := by omega
  have HH := hiq h
  have HP := hiq hp
  have HG := hiq hg
  have HL := hiq hL
  have HI := hiq hi
  have hc1n : ¬ (cap = i + 1) := by omega
  have hc2n : ¬ (cap = i) := by omega
  clear h hp hg hvb ht htn hLi hi0 hz0 hzs hzb hcs1 hl hi hQ hva hL
  go_enter Tryz.func105, Tryz.ntmps105
  go_wp2_with (simp only [hov])
  refine wp_region_head_drew 8 (by kernel_rfl) (by kernel_rfl) ?_
  simp only [List.take_succ_cons, List.take_zero, List.drop_succ_cons, List.drop_zero]
  repeat (go_big_quiet_step (fail))
  refine wpQuiet_nil ?_
  intro _ hw'
  obtain ⟨nq, rfl⟩ := hw'
  have HGq : Hid ((w.drewN nq).heap[g]? = some (.cells L.toArray 61 (0, 0))) := HG.out
  refine (wpList_copy_spl rfl (.tmp 73) (.tmp 76) 24 24 rfl 61 Tryz.underlying24 hsz.out g (i + 1) _ _ ⟨g, i, none⟩ _ _ rfl rfl L 61 HGq.out cs1 ?_ (hsrc1.out _ HGq.out) ?_ hone1.out ?_)
  · rw [hc1l]; show n - i = min (n + 1 - i) (n - i); omega
  · have := HL.out; omega
  intro w3 HG3 hg3
  have hvb3 : w3.heap[vb]? = w.heap[vb]? := hg3.block vb hvbs (fun e => hne (Option.some.inj e))
  have hLs : (splice L (i + 1) cs1).length = cap := by rw [length_splice _ _ _ (by have := HL.out; omega)]; exact HL.out
  have HLS := hiq hLs
  have HV3 := hiq (HV.out w3 hvb3)
  have K1 : Hid (([rowV p.1] : List Value).length = Nat.min 1 (n + 1 - i)) := by show 1 = min 1 (n + 1 - i); omega
  have K2 : Hid (i + ([rowV p.1] : List Value).length <= (splice L (i + 1) cs1).length) := by show i + 1 <= _; omega
  have K3 : Hid (∀ v ∈ ([rowV p.1] : List Value), v.oneCell' = true) := by intro v hv; rw [List.mem_singleton.1 hv]; rfl
  clear hLs hvb3
  go_wp2_with (refine wpList_copy_spl rfl (.tmp 80) (.tmp 81) 24 24 rfl 61 Tryz.underlying24 hsz.out g i _ _ ⟨vb, 0, none⟩ _ _ rfl rfl (splice L (i + 1) cs1) 61 HG3.out [rowV p.1] K1.out HV3.out K2.out K3.out ?_; intro w4 HG4 hg4)
  go_ret
  have hgo : w.grownBy w4 (some g) := World.grownBy.trans (⟨hg3.os, hg3.tape, hg3.output, hg3.size, hg3.block⟩ : w.grownBy w3 (some g)) hg4
  have hO : OwnQ 61 1 encR w4 B (some ⟨g, 0, none⟩) (n + 1) cap ((P ++ p :: Q).map (·.1)) :=
    own_heap HG4.out hgB (by have := HH.out.len; simp at this ⊢; omega) hcap hcm (by rw [length_splice _ _ _ (by have := HLS.out; simp; omega)]; exact HLS.out) hfin.out
  exact ⟨_, _, rfl, HH.out.rebuilt HP.out hpa hpr hO (fun b hb1 hb2 => hgo.block b hb1 (fun e => hb2 _ rfl (Option.some.inj e))) (fun x hx => .inl ⟨_, rfl, by cases hx; rfl⟩), (Below.refl B w).grown hgo hB (fun j hj => by cases hj; exact hgB)⟩
/-- In the midst, without room. -/
theorem ins_grow (w : World) (B : Nat) (a : Option Addr) (n cap vb : Nat) (P Q : List (Row × List Int)) (p : Row × List Int) (h : OwnC w B a n cap (P ++ Q)) (hB : B <= w.heap.size)
    (hp : OwnQ 3 1 encI w B p.1.1 p.1.2.1 p.1.2.2 p.2) (hpa : Apart p.1.1 a) (hpr : ∀ q ∈ P ++ Q, Apart q.1.1 p.1.1) (hvb : w.heap[vb]? = some (.cells #[rowV p.1] 61 (0, 0))) (hva : ∀ x, a = some x -> vb ≠ x.block) (hQ : 0 < Q.length) (hbn : n <= 1000000) (hcap : cap < n + 1) :
    Calls Tryz.prog 105 #[.slice a n cap, .int .i64 (P.length : Int), .slice (some ⟨vb, 0, none⟩) 1 1] w (InsPost w B n P Q p) := by
  have hl := h.len
  rw [List.length_append] at hl
  obtain ⟨pi, g, -, -, rfl, -, hgs, -, -, -⟩ := h.at_ (j := 0) (by omega)
  obtain ⟨L, hg, hgB, hnc, hcm, hL, ht⟩ := heap_own h.1
  have hne := hva _ rfl
  dsimp only at hne
  obtain rfl : cap = n := by omega
  obtain ⟨i, hi⟩ : ∃ i, i = P.length := ⟨_, rfl⟩
  rw [<- hi]
  obtain ⟨i0, hi0, hz0, hzs, hzb⟩ := info_parts Tryz.infoInts
  have hsz : Hid ((Tryz.prog.info? 61).map (·.size) = some 1) := by show _ = _; rw [hi0]; simp [hzs]
  -- the cells that go over
  obtain ⟨cs1, hcs1⟩ : ∃ cs1, cs1 = (Q.map (·.1)).map rowV := ⟨_, rfl⟩
  obtain ⟨pre, hpre⟩ : ∃ pre, pre = (P.map (·.1)).map rowV := ⟨_, rfl⟩
  have hprl : pre.length = i := by rw [hpre]; simp [hi]
  have hc1l : cs1.length = cap - i := by rw [hcs1]; simp; omega
  have hLL : L = pre ++ cs1 := by
    rw [<- hL, List.take_length] at ht
    rw [ht, hpre, hcs1]; simp
  have hold : (Builtin.firstCells i0.size i (.slice (some ⟨g, 0, none⟩) i cap)).run Tryz.prog w.drew = .ok pre.toArray w.drew := by
    rw [hzs]
    exact run_firstCells_some w.drew 1 i ⟨g, 0, none⟩ i cap pre (by omega) (fun j v hj => by
      rw [Addr.add_lit, cell_row (w := w.drew) hg, Nat.zero_add, List.getElem?_toArray, hLL, List.getElem?_append_left (List.getElem?_eq_some_iff.1 hj).1]
      exact hj)
  have hik : i + (cap + 1 - i) = cap + 1 := by omega
  obtain ⟨G, hG⟩ : ∃ G, G = grownCap w (cap + 1) cap 61 := ⟨_, rfl⟩
  obtain ⟨N0, hN0⟩ : ∃ N0 : List Value, N0 = pre ++ (Builtin.zeroCells (Value.slice none 0 0).cells (cap + 1 - i)).toList ++ (Builtin.zeroCells (Value.slice none 0 0).cells (G - (cap + 1))).toList := ⟨_, rfl⟩
  obtain ⟨W1, hW1⟩ : ∃ W1, W1 = w.drew.alloc (.cells N0.toArray 61) := ⟨_, rfl⟩
  have hrz : ∀ ty, (Builtin.append_ #[24, 3] ty #[.slice (some ⟨g, 0, none⟩) i cap, .int .i64 ((cap : Int) + 1 - (i : Int))]).run Tryz.prog w = .ok (.slice (some ⟨w.heap.size, 0, none⟩) (cap + 1) G) W1 := fun ty => by
    have h := Lib.run_append_grow_zeros w 24 3 ty 61 i0 _ .i64 .i64 Tryz.underlying24 Tryz.underlying3 hi0 hz0 (some ⟨g, 0, none⟩) i cap pre hold (cap + 1 - i) (by omega) (by omega) (by omega) (by omega) (by rw [hzb]; omega) (by rw [hzb, hik]; exact growslice_fits (by omega) (by omega))
    rw [hik] at h
    rw [show ((cap : Int) + 1 - (i : Int)) = ((cap + 1 - i : Nat) : Int) by omega]
    rw [h, hW1, hN0, <- hG]
    have : pre.toArray ++ Builtin.zeroCells (Value.slice none 0 0).cells (cap + 1 - i) ++ Builtin.zeroCells (Value.slice none 0 0).cells (G - (cap + 1)) = (pre ++ (Builtin.zeroCells (Value.slice none 0 0).cells (cap + 1 - i)).toList ++ (Builtin.zeroCells (Value.slice none 0 0).cells (G - (cap + 1))).toList).toArray := by
      apply Array.ext'; simp
    rw [this]
  have hGn : cap + 1 <= G := by rw [hG]; exact grownCap_ge w _ _ _
  have hGm : G <= maxLen := by rw [hG]; exact grownCap_le_maxLen w _ _ _ (by unfold maxLen; omega)
  have hG63 : G <= 9223372036854775807 := by unfold maxLen at hGm; omega
  have hN0l : N0.length = G := by rw [hN0]; simp [Builtin.zeroCells, Value.cells]; omega
  have hN0i : N0.take i = pre := by rw [hN0, List.append_assoc]; exact List.take_left' hprl
  have HN := hiq hN0l
  have hG1 : Hid (W1.heap[w.heap.size]? = some (.cells N0.toArray 61 (0, 0))) := by show _ = _; rw [hW1]; exact World.alloc_heap_new w.drew (.cells N0.toArray 61)
  have hb1 : Below w.heap.size w W1 := by rw [hW1]; exact (Below.refl _ w).drew.alloc (Nat.le_refl _) _
  have hs1 : W1.heap.size = w.heap.size + 1 := by rw [hW1]; simp [World.alloc]
  have hfin : Hid ((splice (splice N0 i [rowV p.1]) (i + 1) cs1).take (cap + 1) = ((P ++ p :: Q).map (·.1)).map rowV) := by
    show _ = _
    have := fin_grow (L := N0) (pre := pre) (post := cs1) (x := rowV p.1) (i := i) hprl hN0i (by omega)
    rw [show i + 1 + cs1.length = cap + 1 by omega] at this
    rw [this, hpre, hcs1]; simp
  have hsrc1 : Hid (∀ W : World, W.heap[g]? = w.heap[g]? -> ∀ j v, cs1[j]? = some v -> W.cell? ((⟨g, i, none⟩ : Addr).add j) = some v) := fun W hW j v hj => by
    rw [Addr.add_lit, cell_row (hW.trans hg), List.getElem?_toArray, hLL, List.getElem?_append_right (by omega), hprl, show i + j - i = j by omega]
    exact hj
  have hone1 : Hid (∀ v ∈ cs1, v.oneCell' = true) := fun v hv => by
    rw [hcs1] at hv
    obtain ⟨r, _, rfl⟩ := List.mem_map.1 hv
    rfl
  have HV : Hid (∀ W : World, W.heap[vb]? = w.heap[vb]? -> ∀ j v, ([rowV p.1] : List Value)[j]? = some v -> W.cell? ((⟨vb, 0, none⟩ : Addr).add j) = some v) := fun W hW j v hj => by
    rw [Addr.add_lit, cell_row (hW.trans hvb)]
    match j, hj with
    | 0, hj => simpa using hj
    | j + 1, hj => simp at hj
  have hvbs : vb < w.heap.size := (Array.getElem?_eq_some_iff.1 hvb).1
  have h1 : i < cap := by omega
  have hw2 : IntKind.i64.wrap ((cap : Int) + 1) = (cap : Int) + 1 := by rw [IntKind.wrap_i64]; omega
  have t2 : ((i : Int) == (cap : Int)) = false := by simp; omega
  have t3 : (cap : Int) < (cap : Int) + 1 := by omega
  have HV1 := hiq (HV.out W1 (hb1.block _ hvbs))
  have K1 : Hid (([rowV p.1] : List Value).length = Nat.min 1 (cap + 1 - i)) := by show 1 = min 1 (cap + 1 - i); omega
  have K2 : Hid (i + ([rowV p.1] : List Value).length <= N0.length) := by show i + 1 <= _; omega
  have K3 : Hid (∀ v ∈ ([rowV p.1] : List Value), v.oneCell' = true) := by intro v hv; rw [List.mem_singleton.1 hv]; rfl
  have hgG : ¬ (G = i) := by omega
  have hgG1 : ¬ (G = i + 1) := by omega
  have hci : ¬ (cap = i) := by omega
  have HH := hiq h
  have HP := hiq hp
  clear h hp hg hvb ht hi0 hz0 hzs hzb hcs1 hl hi hQ hva hL hLL hpre hold hik hG hN0 hN0l hN0i hW1
  go_enter Tryz.func105, Tryz.ntmps105
  go_wp2_with (first
    | (at_builtin; refine Lib.wpList_append_run _ rfl _ _ _ _ rfl _ _ rfl rfl _ _ (hrz _) ?_)
    | (refine wpList_copy_spl rfl (.tmp 43) (.tmp 44) 24 24 rfl 61 Tryz.underlying24 hsz.out w.heap.size i _ _ ⟨vb, 0, none⟩ _ _ rfl rfl N0 61 hG1.out [rowV p.1] K1.out HV1.out K2.out K3.out ?_; intro w2 HG2 hg2))
  have hb2 : Below w.heap.size w w2 := hb1.grown hg2 (by omega) (fun j hj => by cases hj; exact Nat.le_refl _)
  have hLs : (splice N0 i [rowV p.1]).length = G := by rw [length_splice _ _ _ K2.out]; exact HN.out
  have HLS := hiq hLs
  have K4 : Hid (cs1.length = Nat.min (cap - i) (cap + 1 - (i + 1))) := by show _ = min (cap - i) (cap + 1 - (i + 1)); omega
  have K5 : Hid (i + 1 + cs1.length <= (splice N0 i [rowV p.1]).length) := by show _ <= _; omega
  go_simp
  refine wp_region_head_drew 8 (by kernel_rfl) (by kernel_rfl) ?_
  simp only [List.take_succ_cons, List.take_zero, List.drop_succ_cons, List.drop_zero]
  repeat (go_big_quiet_step (fail))
  refine wpQuiet_nil ?_
  intro _ hw'
  obtain ⟨nq, rfl⟩ := hw'
  have HGq : Hid ((w2.drewN nq).heap[w.heap.size]? = some (.cells (splice N0 i [rowV p.1]).toArray 61 (0, 0))) := HG2.out
  have HSq := hiq (hsrc1.out (w2.drewN nq) (hb2.block _ hgs))
  clear hb1 hs1
  go_wp2_with (refine wpList_copy_spl rfl (.tmp 50) (.tmp 53) 24 24 rfl 61 Tryz.underlying24 hsz.out w.heap.size (i + 1) _ _ ⟨g, i, none⟩ _ _ rfl rfl (splice N0 i [rowV p.1]) 61 HGq.out cs1 (by first | exact K4.out | (show _ = min _ _; omega)) HSq.out K5.out hone1.out ?_; intro w4 HG4 hg4)
  go_ret
  have hb4 : Below w.heap.size w w4 := hb2.grown (⟨hg4.os, hg4.tape, hg4.output, hg4.size, hg4.block⟩ : w2.grownBy w4 (some w.heap.size)) hb2.size (fun j hj => by cases hj; exact Nat.le_refl _)
  have hO : OwnQ 61 1 encR w4 B (some ⟨w.heap.size, 0, none⟩) (cap + 1) G ((P ++ p :: Q).map (·.1)) :=
    own_heap HG4.out hB (by have := HH.out.len; simp at this ⊢; omega) hGn hGm (by rw [length_splice _ _ _ K5.out]; exact HLS.out) hfin.out
  exact ⟨_, _, rfl, HH.out.rebuilt HP.out hpa hpr hO (fun b hb1 hb2 => hb4.block b hb1) (fun x hx => .inr (by cases hx; exact Nat.le_refl _)), hb4.mono hB⟩
end Go.Proofs.YtbdgmgddliploaaGreatDoor

/- editop.join. -/
namespace Go.Proofs.YtbdgmgddliploaaGreatDoor
open Go.RowKit

/-- Joined up to an entry. -/
def jpart (a b : List Int) : Nat -> List Int
  | 0 => a
  | k + 1 => (jpart a b k).set k (max (ent a k) (ent b k))
theorem jpart_len (a b : List Int) : ∀ k, (jpart a b k).length = a.length
  | 0 => rfl
  | k + 1 => by rw [jpart, List.length_set, jpart_len a b k]
theorem jpart_ent {a b : List Int} : ∀ (k : Nat), k <= a.length -> ∀ s, ent (jpart a b k) s = if s < k then max (ent a s) (ent b s) else ent a s
  | 0, _, s => by rw [if_neg (by omega)]; rfl
  | k + 1, hk, s => by
    rw [jpart, ent_set (by rw [jpart_len]; omega)]
    by_cases h : s = k
    · subst h; rw [if_pos rfl, if_pos (by omega)]
    · rw [if_neg h, jpart_ent k (by omega)]
      by_cases h2 : s < k
      · rw [if_pos h2, if_pos (by omega)]
      · rw [if_neg h2, if_neg (by omega)]
theorem jpart_all (a b : List Int) : jpart a b a.length = joined a b := by
  apply ent_ext (by rw [jpart_len, joined_len])
  intro s hs
  rw [jpart_len] at hs
  rw [jpart_ent _ (Nat.le_refl _), if_pos hs, joined_ent hs]
theorem i64_max {a b : Int} (ha : I64 a) (hb : I64 b) : I64 (max a b) := by
  obtain ⟨a1, a2⟩ := ha
  obtain ⟨b1, b2⟩ := hb
  exact ⟨by omega, by omega⟩
/-- A cell of a row of the call's own. -/
theorem OwnQ.entAt {w : World} {B n cap : Nat} {a : Option Addr} {l : List Int} (h : OwnQ 3 1 encI w B a n cap l) {j : Nat} (hj : j < n) : ∃ g, a = some ⟨g, 0, none⟩ /\ B <= g /\ g < w.heap.size /\ w.cell? ⟨g, j, none⟩ = some (.int .i64 (ent l j)) /\ ∀ k, w.frozen? ⟨g, k, none⟩ = false := by
  obtain ⟨x, g, h1, -, rfl, h2, h3, h4, h5⟩ := h.at_ (fun _ => rfl) hj
  have := h5 0 _ rfl
  rw [Nat.mul_one, Nat.add_zero] at this
  exact ⟨g, rfl, h2, h3, by rw [this, ent_of h1], h4⟩
theorem join_any (w : World) (a : Option Addr) (n cap : Nat) (P Q : List (Row × List Int)) (r1 r2 : Row) (l1 l2 : List Int) (o : Op) (s c : Nat) (B : Nat) (h : OwnC w B a n cap (P ++ (r1, l1) :: (r2, l2) :: Q)) (hB : B <= w.heap.size)
    (hc : P.length = c) (hl : l1.length = l2.length) (hl0 : 0 < l1.length) (hl8 : l1.length * 8 <= 140737488355328) (hbn : n * 24 <= 140737488355328) :
    Calls Tryz.prog 74 #[.slice a n cap, o.val, .agg #[.int .i64 (s : Int), .int .i64 (c : Int), .int .i64 ((c : Int) + 1)]] w fun e w' => e = .returned (.slice a (n - 1) cap) /\ OwnC w' B a (n - 1) cap (P ++ (r1, joined l1 l2) :: Q) /\ Below B w w' := by
  obtain ⟨ok, og, ot, oo, ox⟩ := o
  obtain ⟨a1, n1, c1⟩ := r1
  obtain ⟨a2, n2, c2⟩ := r2
  change Calls _ _ #[_, .agg #[.int .i64 ok, .string og, .int .i64 ot, .int .i64 oo, .string ox], .agg #[.int .i64 (s : Int), .int .i64 (c : Int), .int .i64 ((c : Int) + 1)]] _ _
  have hn : n = P.length + Q.length + 2 := by rw [h.len]; simp; omega
  have hb0 : Below w.heap.size w ((w.alloc (.cells #[.int .i64 ok, .string og, .int .i64 ot, .int .i64 oo, .string ox] 28)).alloc (.cells #[.int .i64 (s : Int), .int .i64 (c : Int), .int .i64 ((c : Int) + 1)] 66)) := ((Below.refl _ _).alloc (Nat.le_refl _) _).alloc (by simp) _
  have hsz : w.heap.size + 1 < ((w.alloc (.cells #[.int .i64 ok, .string og, .int .i64 ot, .int .i64 oo, .string ox] 28)).alloc (.cells #[.int .i64 (s : Int), .int .i64 (c : Int), .int .i64 ((c : Int) + 1)] 66)).heap.size := by simp
  have hbx : ((w.alloc (.cells #[.int .i64 ok, .string og, .int .i64 ot, .int .i64 oo, .string ox] 28)).alloc (.cells #[.int .i64 (s : Int), .int .i64 (c : Int), .int .i64 ((c : Int) + 1)] 66)).heap[w.heap.size + 1]? = some (.cells #[.int .i64 (s : Int), .int .i64 (c : Int), .int .i64 ((c : Int) + 1)] 66 (0, 0)) := by
    have := World.alloc_heap_new (w.alloc (.cells #[.int .i64 ok, .string og, .int .i64 ot, .int .i64 oo, .string ox] 28)) (.cells #[.int .i64 (s : Int), .int .i64 (c : Int), .int .i64 ((c : Int) + 1)] 66)
    simpa using this
  have h0 := h.below hb0
  have m1 : n1 = l1.length := (h.2.1.1 ((a1, n1, c1), l1) (by simp)).len
  have m2 : n2 = l2.length := (h.2.1.1 ((a2, n2, c2), l2) (by simp)).len
  obtain ⟨g1, e1, -⟩ := (h.2.1.1 ((a1, n1, c1), l1) (by simp)).entAt (j := 0) (by rw [m1]; exact hl0)
  obtain ⟨g2, e2, -⟩ := (h.2.1.1 ((a2, n2, c2), l2) (by simp)).entAt (j := 0) (by show 0 < n2; omega)
  dsimp only at e1 e2
  subst e1
  subst e2
  obtain ⟨g, ea, hgB, hgs⟩ : ∃ g, a = some ⟨g, 0, none⟩ /\ B <= g /\ g < w.heap.size := by
    obtain ⟨p, g, -, -, e, q1, q2, -⟩ := h.at_ (j := 0) (by omega)
    exact ⟨g, e, q1, q2⟩
  subst ea
  -- what is read of the columns, however far they are joined
  have hrd : Hid (∀ (W : World) (l : List Int), OwnC W B (some ⟨g, 0, none⟩) n cap (P ++ ((some ⟨g1, 0, none⟩, n1, c1), l) :: ((some ⟨g2, 0, none⟩, n2, c2), l2) :: Q) ->
      W.cell? ⟨g, c, none⟩ = some (.slice (some ⟨g1, 0, none⟩) n1 c1) /\ W.cell? ⟨g, c + 1, none⟩ = some (.slice (some ⟨g2, 0, none⟩) n2 c2) /\ (∀ k, k < n1 -> W.cell? ⟨g1, k, none⟩ = some (.int .i64 (ent l k))) /\ (∀ k, k < n2 -> W.cell? ⟨g2, k, none⟩ = some (.int .i64 (ent l2 k))) /\ (∀ k, W.frozen? ⟨g1, k, none⟩ = false)) := by
    intro W l hW
    obtain ⟨p, g', q1, -, q2, -, -, q3, -⟩ := hW.at_ (j := c) (by omega)
    cases q2
    rw [List.getElem?_append_right (by omega), show c - P.length = 0 by omega] at q1
    cases q1
    obtain ⟨p, g', q1, -, q2, -, -, q4, -⟩ := hW.at_ (j := c + 1) (by omega)
    cases q2
    rw [List.getElem?_append_right (by omega), show c + 1 - P.length = 0 + 1 by omega] at q1
    cases q1
    have o1 := hW.2.1.1 ((some ⟨g1, 0, none⟩, n1, c1), l) (by simp)
    have o2 := hW.2.1.1 ((some ⟨g2, 0, none⟩, n2, c2), l2) (by simp)
    refine ⟨q3, q4, fun k hk => ?_, fun k hk => ?_, fun k => o1.frozenAt k⟩
    · obtain ⟨g', e, -, -, q, -⟩ := o1.entAt hk
      cases e; exact q
    · obtain ⟨g', e, -, -, q, -⟩ := o2.entAt hk
      cases e; exact q
  have hlt : Hid (∀ (W : World) (l : List Int), OwnC W B (some ⟨g, 0, none⟩) n cap (P ++ ((some ⟨g1, 0, none⟩, n1, c1), l) :: ((some ⟨g2, 0, none⟩, n2, c2), l2) :: Q) -> B <= g1 /\ g1 < W.heap.size) := by
    intro W l hW
    exact (hW.2.1.1 ((some ⟨g1, 0, none⟩, n1, c1), l) (by simp)).lt _ rfl
  have h1w := (hlt.out _ _ h).2
  have HL := hiq hl
  have HN := hiq hn
  have M1 := hiq m1
  have M2 := hiq m2
  have HB := hiq hB
  have hc1 : c + 1 < n := by omega
  have h12 : n1 = n2 := by omega
  have hj0 : OwnC ((w.alloc (.cells #[.int .i64 ok, .string og, .int .i64 ot, .int .i64 oo, .string ox] 28)).alloc (.cells #[.int .i64 (s : Int), .int .i64 (c : Int), .int .i64 ((c : Int) + 1)] 66)) B (some ⟨g, 0, none⟩) n cap (P ++ ((some ⟨g1, 0, none⟩, n1, c1), jpart l1 l2 0) :: ((some ⟨g2, 0, none⟩, n2, c2), l2) :: Q) := h0
  clear h h0 hl hn m1 m2
  go_enter Tryz.func74, Tryz.ntmps74
  obtain ⟨z0, z1, z2, -⟩ := box_cells3 hbx
  obtain ⟨q1, q2, q3, q4, q5⟩ := hrd.out _ _ hj0
  clear q3 q4 q5
  go_wp2
  generalize (w.alloc (.cells #[.int .i64 ok, .string og, .int .i64 ot, .int .i64 oo, .string ox] 28)).alloc (.cells #[.int .i64 (s : Int), .int .i64 (c : Int), .int .i64 ((c : Int) + 1)] 66) = W1 at *
  have hs0 : w.heap.size + 1 < W1.heap.size := hsz
  have hcP := hiq hc
  clear hsz hbx hc
  have hBw : Below B w W1 := hb0.mono HB.out
  go_loopw [15] (fun i wr => ∃ (k : Nat), i = .int .i64 k /\ k <= n2 /\ Hid (OwnC wr B (some ⟨g, 0, none⟩) n cap (P ++ ((some ⟨g1, 0, none⟩, n1, c1), jpart l1 l2 k) :: ((some ⟨g2, 0, none⟩, n2, c2), l2) :: Q)) /\ Below B w wr /\ w.heap.size + 1 < wr.heap.size /\
      wr.cell? ⟨w.heap.size + 1, 0, none⟩ = some (.int .i64 (s : Int)) /\ wr.cell? ⟨w.heap.size + 1, 1, none⟩ = some (.int .i64 (c : Int)) /\ wr.cell? ⟨w.heap.size + 1, 2, none⟩ = some (.int .i64 ((c : Int) + 1))) (fun i _ => n2 - (intOf i).toNat)
  case atStart => exact ⟨0, rfl, Nat.zero_le _, hj0, hBw, hs0, z0, z1, z2⟩
  case round =>
    clear q1 q2 z0 z1 z2 hs0 hBw hj0 hb0
    obtain ⟨k, rfl, hk, ho, hb, hs1, z0, z1, z2⟩ := hrel
    obtain ⟨q1, q2, q3, q4, q5⟩ := hrd.out _ _ ho.out
    have hn2 : n2 * 8 <= 140737488355328 := by have := M2.out; have := HL.out; omega
    by_cases hkl : k < n2
    · have e3 := q3 k (by omega)
      have e4 := q4 k hkl
      have f5 := q5 k
      have hee : ent (jpart l1 l2 k) k = ent l1 k := by rw [jpart_ent k (by have := M2.out; have := HL.out; omega), if_neg (by omega)]
      rw [hee] at e3
      have hst : Hid (max (ent l1 k) (ent l2 k) = max (ent l1 k) (ent l2 k)) := rfl
      clear q3 q4 q5 hee
      go_wp2
      refine wp_region_head_drew 17 (by kernel_rfl) (by kernel_rfl) ?_
      simp only [List.take_succ_cons, List.take_zero, List.drop_succ_cons, List.drop_zero]
      repeat (go_big_quiet_step (fail))
      refine wpQuiet_nil ?_
      intro _ hw'
      obtain ⟨nq, rfl⟩ := hw'
      go_wp2
      have hB1 := (hlt.out _ _ ho.out).1
      have hg1 : g1 < w.heap.size := h1w
      have hne : ∀ j : Nat, (⟨g1, k, none⟩ : Addr) ≠ ⟨w.heap.size + 1, j, none⟩ := by intro j e; cases e; omega
      go_roundw
      case rel =>
        exact ⟨k + 1, by go_num, by omega, (ho.out.drewN nq).set1 one_int k _ _ rfl, (below_drewN hb nq).setCell (p := ⟨g1, k, none⟩) hB1 _, by simpa [World.setCell] using hs1,
          (World.cell?_setCell_other _ _ _ _ (hne 0)).trans z0, (World.cell?_setCell_other _ _ _ _ (hne 1)).trans z1, (World.cell?_setCell_other _ _ _ _ (hne 2)).trans z2⟩
      case measure => simp [intOf]; omega
    · obtain rfl : n2 = k := by omega
      have hj : jpart l1 l2 n2 = joined l1 l2 := by rw [show n2 = l1.length by have := M2.out; have := HL.out; omega]; exact jpart_all _ _
      rw [hj] at ho
      have ho2 : OwnC wr B (some ⟨g, 0, none⟩) n cap ((P ++ [((some ⟨g1, 0, none⟩, n1, c1), joined l1 l2)]) ++ ((some ⟨g2, 0, none⟩, n2, c2), l2) :: Q) := by
        rw [List.append_assoc]; exact ho.out
      have HD := hiq (del_any wr B _ n cap _ Q _ ho2)
      have hpl : (((P ++ [(((some ⟨g1, 0, none⟩, n1, c1) : Row), joined l1 l2)]).length : Nat) : Int) = (c : Int) + 1 := by rw [List.length_append, hcP.out]; simp
      rw [hpl] at HD
      clear q3 q4 q5 hj hpl ho2 ho
      go_wp2_with (first | (go_at_call 102; refine HD.out.mono ?_; rintro e w' ⟨rfl, ho3, hg3⟩) | fail)
      go_ret
      rw [List.append_assoc] at ho3
      exact ⟨rfl, ho3, hb.grown hg3 (by omega) (fun j hj => by cases hj; exact hgB)⟩
end Go.Proofs.YtbdgmgddliploaaGreatDoor
