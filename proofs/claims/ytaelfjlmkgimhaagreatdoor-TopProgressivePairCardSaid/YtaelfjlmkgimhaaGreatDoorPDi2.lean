/- editdistance.of, Distance. -/
import Derived.Test.YtaelfjlmkgimhaaGreatDoorPDis
import Derived.Lib.AtoiErrMem
set_option linter.unusedVariables false
set_option linter.unusedSimpArgs false
namespace Go.Proofs.YtaelfjlmkgimhaaGreatDoor
open Go.RowKit

set_option maxRecDepth 100000 in
set_option maxHeartbeats 1000000 in
theorem eqb_any (p1 p2 q1 q2 n m g1 g2 i k x y : Nat) (w : World) (h1 : w.cell? ⟨p1, 0, none⟩ = some (.slice (some ⟨q1, 0, none⟩) n g1)) (h2 : w.cell? ⟨p2, 0, none⟩ = some (.slice (some ⟨q2, 0, none⟩) m g2)) (c1 : w.cell? ⟨q1, i, none⟩ = some (.int .u8 (x : Int))) (c2 : w.cell? ⟨q2, k, none⟩ = some (.int .u8 (y : Int))) (hi : i < n) (hk : k < m) :
    Calls Tryz.prog 143 #[.int .i64 (i : Int), .int .i64 (k : Int), .pointer (some ⟨p1, 0, none⟩), .pointer (some ⟨p2, 0, none⟩)] w fun e w' => e = .returned (.bool ((x : Int) == (y : Int))) ∧ Drew w w' := by
  go_enter Tryz.func143, Tryz.ntmps143
  go_wp2
  go_quiet (fail)
  go_wp2
  go_ret
  exact ⟨rfl, _, rfl⟩
set_option maxRecDepth 100000 in
set_option maxHeartbeats 1000000 in
theorem equalb_any (q1 q2 : Option Addr) (n g1 m g2 : Nat) (w : World) :
    Calls Tryz.prog 140 #[.slice q1 n g1, .slice q2 m g2] w fun e w' => e = .returned (.func (.func 143) #[] #[.pointer (some ⟨w.heap.size, 0, none⟩), .pointer (some ⟨w.heap.size + 1, 0, none⟩)]) ∧ w' = (w.alloc (.cells #[.slice q1 n g1] 126)).alloc (.cells #[.slice q2 m g2] 126) := by
  go_enter Tryz.func140, Tryz.ntmps140
  go_wp2
  go_ret
  exact ⟨rfl, rfl⟩
/-- The bytes at two places are the same. -/
def eqS (a b : ByteArray) (i k : Nat) : Bool := ((a.data.toList.getD i 0).toNat : Int) == ((b.data.toList.getD k 0).toNat : Int)
set_option maxRecDepth 100000 in
set_option maxHeartbeats 1000000 in
theorem of_any (a b : ByteArray) (w : World) (ha : a.size ≤ 256) (hb : b.size ≤ 256) :
    Calls Tryz.prog 132 #[.string a, .string b] w fun e w' => e = .returned (.int .i64 (rowF (eqS a b) a.size b.size : Nat)) ∧ Below w.heap.size w w' := by
  have hcv1 := Lib.run_convert_string_bytes (P := Tryz.prog) w 9 126 5 a (u := .string) Tryz.underlying9 Tryz.underlying126 Tryz.underlying5
  have hb1 : Below w.heap.size w (Lib.bytesWorld w 5 a) := Lib.bytesWorld_below w _ a
  have hs1 : (Lib.bytesWorld w 5 a).heap.size = w.heap.size + 1 := Lib.bytesWorld_size w _ a
  have hc1 := Lib.hid (fun j (hj : j < a.size) => Lib.bytesWorld_cell w 5 a j hj)
  generalize Lib.bytesWorld w 5 a = w1 at *
  generalize grownCap w a.size 0 5 = gc1 at *
  have hcv2 := Lib.run_convert_string_bytes (P := Tryz.prog) w1 9 126 5 b (u := .string) Tryz.underlying9 Tryz.underlying126 Tryz.underlying5
  have hb2 : Below w1.heap.size w1 (Lib.bytesWorld w1 5 b) := Lib.bytesWorld_below w1 _ b
  have hs2 : (Lib.bytesWorld w1 5 b).heap.size = w1.heap.size + 1 := Lib.bytesWorld_size w1 _ b
  have hc2 := Lib.hid (fun j (hj : j < b.size) => Lib.bytesWorld_cell w1 5 b j hj)
  generalize Lib.bytesWorld w1 5 b = w2 at *
  generalize grownCap w1 b.size 0 5 = gc2 at *
  have HE := Lib.hid (equalb_any (some ⟨w.heap.size, 0, none⟩) (some ⟨w1.heap.size, 0, none⟩) a.size gc1 b.size gc2 w2)
  have hb3 : Below w2.heap.size w2 ((w2.alloc (.cells #[.slice (some ⟨w.heap.size, 0, none⟩) a.size gc1] 126)).alloc (.cells #[.slice (some ⟨w1.heap.size, 0, none⟩) b.size gc2] 126)) := ((Below.refl _ _).alloc (Nat.le_refl _) _).alloc (by simp) _
  have hp1 : ((w2.alloc (.cells #[.slice (some ⟨w.heap.size, 0, none⟩) a.size gc1] 126)).alloc (.cells #[.slice (some ⟨w1.heap.size, 0, none⟩) b.size gc2] 126)).cell? ⟨w2.heap.size, 0, none⟩ = some (.slice (some ⟨w.heap.size, 0, none⟩) a.size gc1) := by simp
  have hp2 : ((w2.alloc (.cells #[.slice (some ⟨w.heap.size, 0, none⟩) a.size gc1] 126)).alloc (.cells #[.slice (some ⟨w1.heap.size, 0, none⟩) b.size gc2] 126)).cell? ⟨w2.heap.size + 1, 0, none⟩ = some (.slice (some ⟨w1.heap.size, 0, none⟩) b.size gc2) := by simp
  have hs3 : ((w2.alloc (.cells #[.slice (some ⟨w.heap.size, 0, none⟩) a.size gc1] 126)).alloc (.cells #[.slice (some ⟨w1.heap.size, 0, none⟩) b.size gc2] 126)).heap.size = w2.heap.size + 2 := by simp
  generalize (w2.alloc (.cells #[.slice (some ⟨w.heap.size, 0, none⟩) a.size gc1] 126)).alloc (.cells #[.slice (some ⟨w1.heap.size, 0, none⟩) b.size gc2] 126) = w3 at *
  have HD := Lib.hid (distances_any (eqS a b) a.size b.size w2.heap.size (w2.heap.size + 1) w3 ha hb (fun W i k hW hi hk => by
    have e1 := hW.cell (p := ⟨w2.heap.size, 0, none⟩) (by first | omega | (simp; omega))
    have e2 := hW.cell (p := ⟨w2.heap.size + 1, 0, none⟩) (by first | omega | (simp; omega))
    have e3 := ((hb2.trans (hb3.mono (by omega))).trans (hW.mono (by omega))).cell (p := ⟨w.heap.size, i, none⟩) (by first | omega | (simp; omega))
    have e4 := (hb3.trans (hW.mono (by omega))).cell (p := ⟨w1.heap.size, k, none⟩) (by first | omega | (simp; omega))
    exact eqb_any _ _ _ _ _ _ _ _ _ _ _ _ W (e1.trans hp1) (e2.trans hp2) (e3.trans (hc1.out i hi)) (e4.trans (hc2.out k hk)) hi hk))
  have HB := Lib.hid ((hb1.trans (hb2.mono (by omega))).trans (hb3.mono (by omega)))
  have hs4 : w.heap.size ≤ w3.heap.size := by omega
  clear hc1 hc2 hp1 hp2 hb1 hb2 hb3 hs1 hs2
  generalize rowF (eqS a b) a.size b.size = R at *
  go_enter Tryz.func132, Tryz.ntmps132
  go_wp2_with (first | (go_at_call 140; refine HE.out.mono ?_; rintro e w' ⟨rfl, rfl⟩) | (go_at_call 139; refine HD.out.mono ?_; rintro e w' ⟨rfl, hb'⟩))
  go_ret
  exact ⟨rfl, HB.out.trans (hb'.mono hs4)⟩
end Go.Proofs.YtaelfjlmkgimhaaGreatDoor
