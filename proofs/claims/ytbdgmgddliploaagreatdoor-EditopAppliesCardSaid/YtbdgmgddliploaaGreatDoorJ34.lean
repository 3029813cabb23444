/- Joined: ESmp. -/
import Derived.Test.YtbdgmgddliploaaGreatDoorJ13
import Derived.Test.YtbdgmgddliploaaGreatDoorJ19
import Derived.Test.YtbdgmgddliploaaGreatDoorJ21
set_option linter.unusedVariables false
set_option linter.unusedSimpArgs false
set_option maxRecDepth 100000
set_option maxHeartbeats 16000000
namespace Go.Proofs.YtbdgmgddliploaaGreatDoor
open Go.RowKit

theorem Sq.lit {α : Type} {R : Rel α} {k s : Nat} {S : Nat -> Prop} {W : World} {b : Nat} {t : TypeId} (cs : Array Value) (l : List α) (enc : α -> List Value) (hh : W.heap[b]? = some (.cells cs t (0, 0))) (hc : cs.toList = l.flatMap enc)
    (henc : ∀ x, (enc x).length = k) (hb : S b) (hs : l.length * s <= 140737488355328) (hR : ∀ x ∈ l, R S W (enc x) x) : Sq R k s S W (some ⟨b, 0, none⟩) l.length l.length l := by
  refine ⟨rfl, Nat.le_refl _, hs, fun j x hj => ⟨b, 0, enc x, rfl, hb, (Array.getElem?_eq_some_iff.1 hh).1, henc x, fun i v hi => ?_, hR x (List.mem_of_getElem? hj)⟩⟩
  have hil : i < k := by rw [<- henc x]; exact (List.getElem?_eq_some_iff.1 hi).1
  have h1 := flat_get henc l j x i hj hil
  rw [<- hc, hi, Array.getElem?_toList] at h1
  have : W.cell? ⟨b, 0 + j * k + i, none⟩ = cs[0 + j * k + i]? := by simp [World.cell?, hh]
  rw [this, Nat.zero_add]; exact h1
theorem Sq.lit2 {α : Type} {R : Rel α} {k s : Nat} {S : Nat -> Prop} {W : World} {b : Nat} {t : TypeId} {a1 a2 : Option Addr} {n1 c1 n2 c2 : Nat} {l1 l2 : List α} (hh : W.heap[b]? = some (.cells #[.slice a1 n1 c1, .slice a2 n2 c2] t (0, 0))) (hb : S b)
    (h1 : Sq R k s S W a1 n1 c1 l1) (h2 : Sq R k s S W a2 n2 c2 l2) : Sq (rSl R k s) 1 24 S W (some ⟨b, 0, none⟩) 2 2 [l1, l2] := by
  refine ⟨rfl, Nat.le_refl _, by omega, fun j x hj => ?_⟩
  have hlt := (Array.getElem?_eq_some_iff.1 hh).1
  match j with
  | 0 =>
    cases hj
    refine ⟨b, 0, [.slice a1 n1 c1], rfl, hb, hlt, rfl, fun i v hi => ?_, a1, n1, c1, rfl, h1⟩
    match i with
    | 0 => cases hi; simp [World.cell?, hh]
    | i + 1 => simp at hi
  | 1 =>
    cases hj
    refine ⟨b, 0, [.slice a2 n2 c2], rfl, hb, hlt, rfl, fun i v hi => ?_, a2, n2, c2, rfl, h2⟩
    match i with
    | 0 => cases hi; simp [World.cell?, hh]
    | i + 1 => simp at hi
  | j + 2 => simp at hj
theorem box_cells6 {W : World} {b : Nat} {c0 c1 c2 c3 c4 c5 : Value} {t : TypeId} (h : W.heap[b]? = some (.cells #[c0, c1, c2, c3, c4, c5] t (0, 0))) :
    W.cell? ⟨b, 0, none⟩ = some c0 /\ W.cell? ⟨b, 1, none⟩ = some c1 /\ W.cell? ⟨b, 2, none⟩ = some c2 /\ W.cell? ⟨b, 3, none⟩ = some c3 /\ W.cell? ⟨b, 4, none⟩ = some c4 /\ W.cell? ⟨b, 5, none⟩ = some c5 := by
  refine ⟨?_, ?_, ?_, ?_, ?_, ?_⟩ <;> simp [World.cell?, h]
theorem token_any (s : ByteArray) (w : World) : Calls Tryz.prog 68 #[.string s] w fun e w' => e = .returned (.agg #[.string s, .string s, .string ⟨#[]⟩, .int .i64 0, .int .i64 0, .string ⟨#[]⟩]) /\ Below w.heap.size w w' := by
  go_enter Tryz.func68, Tryz.ntmps68
  go_wp2
  obtain ⟨z0, z1, z2, z3, z4, z5⟩ := box_cells6 (World.alloc_heap_new w (.cells #[.string s, .string s, .string ⟨#[]⟩, .int .i64 0, .int .i64 0, .string ⟨#[]⟩] 76))
  exact bodyPost_ret (v := .agg #[.string s, .string s, .string ⟨#[]⟩, .int .i64 0, .int .i64 0, .string ⟨#[]⟩]) (by simp [results, Tryz.results68, go_sem, z0, z1, z2, z3, z4, z5]) rfl ⟨rfl, (Below.refl _ _).alloc (Nat.le_refl _) _⟩
theorem box5 (w : World) (A B C D E : Array Value) (ta tb tc td te : TypeId) : ∃ W, W = (((((w.alloc (.cells A ta)).alloc (.cells B tb)).alloc (.cells C tc)).alloc (.cells D td)).alloc (.cells E te)) /\ Below w.heap.size w W /\ W.heap.size = w.heap.size + 5 /\
    W.heap[w.heap.size]? = some (.cells A ta (0, 0)) /\ W.heap[w.heap.size + 1]? = some (.cells B tb (0, 0)) /\ W.heap[w.heap.size + 1 + 1]? = some (.cells C tc (0, 0)) /\ W.heap[w.heap.size + 1 + 1 + 1]? = some (.cells D td (0, 0)) /\ W.heap[w.heap.size + 1 + 1 + 1 + 1]? = some (.cells E te (0, 0)) := by
  obtain ⟨w1, h1⟩ : ∃ w1, w1 = w.alloc (.cells A ta) := ⟨_, rfl⟩
  have a1 := World.alloc_heap_new w (.cells A ta)
  rw [<- h1] at a1 ⊢
  have s1 : w1.heap.size = w.heap.size + 1 := by rw [h1]; simp
  have b1 : Below w.heap.size w w1 := by rw [h1]; exact (Below.refl _ _).alloc (Nat.le_refl _) _
  clear h1
  obtain ⟨w2, h2⟩ : ∃ w2, w2 = w1.alloc (.cells B tb) := ⟨_, rfl⟩
  have a2 := World.alloc_heap_new w1 (.cells B tb)
  rw [<- h2] at a2 ⊢
  have s2 : w2.heap.size = w1.heap.size + 1 := by rw [h2]; simp
  have b2 : Below w1.heap.size w1 w2 := by rw [h2]; exact (Below.refl _ _).alloc (Nat.le_refl _) _
  clear h2
  obtain ⟨w3, h3⟩ : ∃ w3, w3 = w2.alloc (.cells C tc) := ⟨_, rfl⟩
  have a3 := World.alloc_heap_new w2 (.cells C tc)
  rw [<- h3] at a3 ⊢
  have s3 : w3.heap.size = w2.heap.size + 1 := by rw [h3]; simp
  have b3 : Below w2.heap.size w2 w3 := by rw [h3]; exact (Below.refl _ _).alloc (Nat.le_refl _) _
  clear h3
  obtain ⟨w4, h4⟩ : ∃ w4, w4 = w3.alloc (.cells D td) := ⟨_, rfl⟩
  have a4 := World.alloc_heap_new w3 (.cells D td)
  rw [<- h4] at a4 ⊢
  have s4 : w4.heap.size = w3.heap.size + 1 := by rw [h4]; simp
  have b4 : Below w3.heap.size w3 w4 := by rw [h4]; exact (Below.refl _ _).alloc (Nat.le_refl _) _
  clear h4
  obtain ⟨w5, h5⟩ : ∃ w5, w5 = w4.alloc (.cells E te) := ⟨_, rfl⟩
  have a5 := World.alloc_heap_new w4 (.cells E te)
  rw [<- h5] at a5 ⊢
  have s5 : w5.heap.size = w4.heap.size + 1 := by rw [h5]; simp
  have b5 : Below w4.heap.size w4 w5 := by rw [h5]; exact (Below.refl _ _).alloc (Nat.le_refl _) _
  clear h5
  have c5 := b5
  have c4 := b4.trans (c5.mono b4.size)
  have c3 := b3.trans (c4.mono b3.size)
  have c2 := b2.trans (c3.mono b2.size)
  have c1 := b1.trans (c2.mono b1.size)
  rw [s1] at a2
  rw [s2, s1] at a3
  rw [s3, s2, s1] at a4
  rw [s4, s3, s2, s1] at a5
  exact ⟨_, rfl, c1, by omega, (c2.block _ (by omega)).trans a1, (c3.block _ (by omega)).trans a2, (c4.block _ (by omega)).trans a3, (c5.block _ (by omega)).trans a4, a5⟩
theorem sample_any (w : World) : Calls Tryz.prog 38 #[] w fun e w' => ∃ v : CV, e = .returned v.val /\ RdC (fun b => w.heap.size <= b) w' v sampC /\ Below w.heap.size w w' := by
  have HT := hiq token_any
  have hb0 : Below w.heap.size w ((w.alloc (.cells #[.string ⟨#[]⟩, .slice none 0 0, .slice none 0 0, .slice none 0 0] 26)).alloc (.cells #[.string ⟨#[65]⟩, .string ⟨#[66]⟩] 9)) := ((Below.refl _ _).alloc (Nat.le_refl _) _).alloc (by simp) _
  have g0 : ((w.alloc (.cells #[.string ⟨#[]⟩, .slice none 0 0, .slice none 0 0, .slice none 0 0] 26)).alloc (.cells #[.string ⟨#[65]⟩, .string ⟨#[66]⟩] 9)).heap[w.heap.size]? = some (.cells #[.string ⟨#[]⟩, .slice none 0 0, .slice none 0 0, .slice none 0 0] 26 (0, 0)) := by
    have := World.alloc_heap_new w (.cells #[.string ⟨#[]⟩, .slice none 0 0, .slice none 0 0, .slice none 0 0] 26)
    exact (Below.block (B := (w.alloc (.cells #[.string ⟨#[]⟩, .slice none 0 0, .slice none 0 0, .slice none 0 0] 26)).heap.size) ((Below.refl _ _).alloc (Nat.le_refl _) _) w.heap.size (by simp)).trans this
  have g1 : ((w.alloc (.cells #[.string ⟨#[]⟩, .slice none 0 0, .slice none 0 0, .slice none 0 0] 26)).alloc (.cells #[.string ⟨#[65]⟩, .string ⟨#[66]⟩] 9)).heap[w.heap.size + 1]? = some (.cells #[.string ⟨#[65]⟩, .string ⟨#[66]⟩] 9 (0, 0)) := by
    have := World.alloc_heap_new (w.alloc (.cells #[.string ⟨#[]⟩, .slice none 0 0, .slice none 0 0, .slice none 0 0] 26)) (.cells #[.string ⟨#[65]⟩, .string ⟨#[66]⟩] 9)
    simpa using this
  have hs0 : w.heap.size + 1 < ((w.alloc (.cells #[.string ⟨#[]⟩, .slice none 0 0, .slice none 0 0, .slice none 0 0] 26)).alloc (.cells #[.string ⟨#[65]⟩, .string ⟨#[66]⟩] 9)).heap.size := by simp
  go_enter Tryz.func38, Tryz.ntmps38
  go_wp2_with fail
  generalize (w.alloc (.cells #[.string ⟨#[]⟩, .slice none 0 0, .slice none 0 0, .slice none 0 0] 26)).alloc (.cells #[.string ⟨#[65]⟩, .string ⟨#[66]⟩] 9) = W1 at *
  refine (HT.out _ _).mono ?_
  rintro e W2 ⟨rfl, hb2⟩
  go_wp2_with fail
  refine (HT.out _ _).mono ?_
  rintro e W3 ⟨rfl, hb3⟩
  have hb4 : Below W3.heap.size W3 (W3.alloc (.cells #[.string ⟨#[100, 101, 117, 115]⟩, .string ⟨#[100, 101, 117, 115]⟩, .string ⟨#[]⟩, .int .i64 0, .int .i64 0, .string ⟨#[]⟩, .string ⟨#[101, 115, 116]⟩, .string ⟨#[101, 115, 116]⟩, .string ⟨#[]⟩, .int .i64 0, .int .i64 0, .string ⟨#[]⟩] 76)) := (Below.refl _ _).alloc (Nat.le_refl _) _
  have g4 := World.alloc_heap_new W3 (.cells #[.string ⟨#[100, 101, 117, 115]⟩, .string ⟨#[100, 101, 117, 115]⟩, .string ⟨#[]⟩, .int .i64 0, .int .i64 0, .string ⟨#[]⟩, .string ⟨#[101, 115, 116]⟩, .string ⟨#[101, 115, 116]⟩, .string ⟨#[]⟩, .int .i64 0, .int .i64 0, .string ⟨#[]⟩] 76)
  have hbA := ((hb2.trans (hb3.mono hb2.size)).trans (hb4.mono (Nat.le_trans hb2.size hb3.size)))
  replace g0 := (hbA.block _ (by omega)).trans g0
  replace g1 := (hbA.block _ (by omega)).trans g1
  replace hb0 := hb0.trans (hbA.mono hb0.size)
  have hs4 : W3.heap.size < (W3.alloc (.cells #[.string ⟨#[100, 101, 117, 115]⟩, .string ⟨#[100, 101, 117, 115]⟩, .string ⟨#[]⟩, .int .i64 0, .int .i64 0, .string ⟨#[]⟩, .string ⟨#[101, 115, 116]⟩, .string ⟨#[101, 115, 116]⟩, .string ⟨#[]⟩, .int .i64 0, .int .i64 0, .string ⟨#[]⟩] 76)).heap.size := by simp
  have hs3 : w.heap.size + 1 < W3.heap.size := by have := hb2.size; have := hb3.size; omega
  clear hbA hb4 hb2 hb3 hs0
  go_wp2_with fail
  generalize W3.alloc (.cells #[.string ⟨#[100, 101, 117, 115]⟩, .string ⟨#[100, 101, 117, 115]⟩, .string ⟨#[]⟩, .int .i64 0, .int .i64 0, .string ⟨#[]⟩, .string ⟨#[101, 115, 116]⟩, .string ⟨#[101, 115, 116]⟩, .string ⟨#[]⟩, .int .i64 0, .int .i64 0, .string ⟨#[]⟩] 76) = W4 at *
  refine (HT.out _ _).mono ?_
  rintro e W5 ⟨rfl, hb5⟩
  replace g0 := (hb5.block _ (by omega)).trans g0
  replace g1 := (hb5.block _ (by omega)).trans g1
  replace g4 := (hb5.block _ (by omega)).trans g4
  replace hb0 := hb0.trans (hb5.mono hb0.size)
  have hs5 : W3.heap.size < W5.heap.size := by have := hb5.size; omega
  obtain ⟨W, hW, hbW, hsW, k6, k7, k8, k9, kA⟩ := box5 W5 #[.string ⟨#[100, 101, 117, 115]⟩, .string ⟨#[100, 101, 117, 115]⟩, .string ⟨#[]⟩, .int .i64 0, .int .i64 0, .string ⟨#[]⟩] #[.slice (some ⟨W3.heap.size, 0, none⟩) 2 2, .slice (some ⟨W5.heap.size, 0, none⟩) 1 1] #[.int .i64 0, .int .i64 0] #[.int .i64 1, .int .i64 (-1)] #[.slice (some ⟨W5.heap.size + 1 + 1, 0, none⟩) 2 2, .slice (some ⟨W5.heap.size + 1 + 1 + 1, 0, none⟩) 2 2] 76 46 3 3 61
  replace g0 := (hbW.block _ (by omega)).trans g0
  replace g1 := (hbW.block _ (by omega)).trans g1
  replace g4 := (hbW.block _ (by omega)).trans g4
  replace hb0 := hb0.trans (hbW.mono hb0.size)
  obtain ⟨z0, z1, z2, z3, zf⟩ := box_cells4 g0
  have zf0 := zf 0
  have zf1 := zf 1
  have zf2 := zf 2
  have zf3 := zf 3
  have HG := hiq (And.intro g0 (And.intro g1 (And.intro g4 (And.intro k6 (And.intro k7 (And.intro k8 (And.intro k9 kA)))))))
  clear g0 g1 g4 k6 k7 k8 k9 kA zf hbW hb5
  rw [hW] at z0 z1 z2 z3 zf0 zf1 zf2 zf3
  have hWW := hiq hW
  clear hW
  go_wp2
  change bodyPost _ _ _ _ _ (put4 (((((W5.alloc (.cells #[.string ⟨#[100, 101, 117, 115]⟩, .string ⟨#[100, 101, 117, 115]⟩, .string ⟨#[]⟩, .int .i64 0, .int .i64 0, .string ⟨#[]⟩] 76)).alloc (.cells #[.slice (some ⟨W3.heap.size, 0, none⟩) 2 2, .slice (some ⟨W5.heap.size, 0, none⟩) 1 1] 46)).alloc (.cells #[.int .i64 0, .int .i64 0] 3)).alloc (.cells #[.int .i64 1, .int .i64 (-1)] 3)).alloc (.cells #[.slice (some ⟨W5.heap.size + 1 + 1, 0, none⟩) 2 2, .slice (some ⟨W5.heap.size + 1 + 1 + 1, 0, none⟩) 2 2] 61)) w.heap.size (.string ⟨#[97]⟩) (.slice (some ⟨w.heap.size + 1, 0, none⟩) 2 2) (.slice (some ⟨W5.heap.size + 1, 0, none⟩) 2 2) (.slice (some ⟨W5.heap.size + 1 + 1 + 1 + 1, 0, none⟩) 2 2))
  rw [<- hWW.out]
  obtain ⟨g0, g1, g4, k6, k7, k8, k9, kA⟩ := HG.out
  have hS1 : Strs (fun b => w.heap.size < b) W (some ⟨w.heap.size + 1, 0, none⟩) 2 2 [bA, bB] := Sq.lit _ [bA, bB] encS g1 rfl (fun _ => rfl) (by simp) (by simp) (fun x hx => ⟨rfl, by simp at hx; rcases hx with rfl | rfl <;> decide⟩)
  have hT1 : Toks (fun b => w.heap.size < b) W (some ⟨W3.heap.size, 0, none⟩) 2 2 [tokS bDeus, tokS bEst] := Sq.lit _ [tokS bDeus, tokS bEst] Tok.cells g4 rfl (fun _ => rfl) (by omega) (by simp) (fun x hx => ⟨rfl, by simp at hx; rcases hx with rfl | rfl <;> (unfold Tok.ok I64; decide)⟩)
  have hT2 : Toks (fun b => w.heap.size < b) W (some ⟨W5.heap.size, 0, none⟩) 1 1 [tokS bDeus] := Sq.lit _ [tokS bDeus] Tok.cells k6 rfl (fun _ => rfl) (by omega) (by simp) (fun x hx => ⟨rfl, by simp at hx; subst hx; unfold Tok.ok I64; decide⟩)
  have hC1 : Nums (fun b => w.heap.size < b) W (some ⟨W5.heap.size + 1 + 1, 0, none⟩) 2 2 [0, 0] := Sq.lit _ [0, 0] encI k8 rfl (fun _ => rfl) (by omega) (by simp) (fun x hx => ⟨rfl, by simp at hx; subst hx; unfold I64; decide⟩)
  have hC2 : Nums (fun b => w.heap.size < b) W (some ⟨W5.heap.size + 1 + 1 + 1, 0, none⟩) 2 2 [1, -1] := Sq.lit _ [1, -1] encI k9 rfl (fun _ => rfl) (by omega) (by simp) (fun x hx => ⟨rfl, by simp at hx; rcases hx with rfl | rfl <;> (unfold I64; decide)⟩)
  have hR : RdC (fun b => w.heap.size < b) W ⟨⟨#[97]⟩, some ⟨w.heap.size + 1, 0, none⟩, 2, 2, some ⟨W5.heap.size + 1, 0, none⟩, 2, 2, some ⟨W5.heap.size + 1 + 1 + 1 + 1, 0, none⟩, 2, 2⟩ sampC :=
    ⟨rfl, by show (⟨#[97]⟩ : ByteArray).size <= _; decide, hS1, Sq.lit2 k7 (by omega) hT1 hT2, Sq.lit2 kA (by omega) hC1 hC2⟩
  have hRf := hR.keep (w' := put4 W w.heap.size (.string ⟨#[97]⟩) (.slice (some ⟨w.heap.size + 1, 0, none⟩) 2 2) (.slice (some ⟨W5.heap.size + 1, 0, none⟩) 2 2) (.slice (some ⟨W5.heap.size + 1 + 1 + 1 + 1, 0, none⟩) 2 2)) (put4_keep (by omega) _ _ _ _)
  obtain ⟨r0, r1, r2, r3, -⟩ := box_cells4 (put4_at g0 (.string ⟨#[97]⟩) (.slice (some ⟨w.heap.size + 1, 0, none⟩) 2 2) (.slice (some ⟨W5.heap.size + 1, 0, none⟩) 2 2) (.slice (some ⟨W5.heap.size + 1 + 1 + 1 + 1, 0, none⟩) 2 2))
  have hbf := put4_below hb0 (Nat.le_refl _) (.string ⟨#[97]⟩) (.slice (some ⟨w.heap.size + 1, 0, none⟩) 2 2) (.slice (some ⟨W5.heap.size + 1, 0, none⟩) 2 2) (.slice (some ⟨W5.heap.size + 1 + 1 + 1 + 1, 0, none⟩) 2 2)
  generalize put4 W w.heap.size (.string ⟨#[97]⟩) (.slice (some ⟨w.heap.size + 1, 0, none⟩) 2 2) (.slice (some ⟨W5.heap.size + 1, 0, none⟩) 2 2) (.slice (some ⟨W5.heap.size + 1 + 1 + 1 + 1, 0, none⟩) 2 2) = WF at *
  exact bodyPost_ret (v := .agg #[.string ⟨#[97]⟩, .slice (some ⟨w.heap.size + 1, 0, none⟩) 2 2, .slice (some ⟨W5.heap.size + 1, 0, none⟩) 2 2, .slice (some ⟨W5.heap.size + 1 + 1 + 1 + 1, 0, none⟩) 2 2]) (by simp [results, Tryz.results38, go_sem, r0, r1, r2, r3]) rfl ⟨_, rfl, hRf.mono (fun b hb _ => by omega), hbf⟩
end Go.Proofs.YtbdgmgddliploaaGreatDoor
