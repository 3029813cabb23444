/- Joined: EDsd, ERDp. -/
import Derived.Test.YtbdgmgddliploaaGreatDoorJ31
import Derived.Test.YtbdgmgddliploaaGreatDoorJ23
import Derived.Test.YtbdgmgddliploaaGreatDoorJ21
set_option linter.unusedVariables false
set_option linter.unusedSimpArgs false
set_option maxRecDepth 100000
set_option maxHeartbeats 16000000
namespace Go.Proofs.YtbdgmgddliploaaGreatDoor
open Go.RowKit

theorem all_any (S : Nat -> Prop) (v : CV) (x : Col) (w : World) (h : RdC S w v x) (hm : Sml x) (hE : Env w) (hln : (allOps x).length <= 4096) : Calls Tryz.prog 22 #[v.val] w (AllPost x w) := by
  by_cases hv : x.err = 0
  · exact all_ok S v x w h hm hE hv hln
  · exact all_err S v x w h hm hE hv
theorem descr_err (S : Nat -> Prop) (v : CV) (x : Col) (o : Op) (w : World) (h : RdC S w v x) (hm : Sml x) (hE : Env w) (ho : o.ok) (hx : o.text.size <= 1000000) (he : opErr x o ≠ 0) :
    Calls Tryz.prog 16 #[v.val, o.val] w fun e w' => e = .returned (.tuple #[.string (descr x o), .int .i64 (opErr x o)]) /\ Below w.heap.size w w' := by
  have HF : Hid (∀ W, Below w.heap.size w W -> Calls Tryz.prog 40 #[v.val, o.val] W (FindPost x o W)) := fun W hb => efind_any S v x o W (h.below hb) hm (hE.below hb) ho hx
  have hD : descr x o = ⟨#[]⟩ := by unfold descr; rw [if_neg he]
  rw [hD]
  unfold FindPost at HF
  generalize opErr x o = E at *
  generalize x.place o = PL at *
  generalize Op.oth o = TH at *
  clear h hm hE ho hx hD
  obtain ⟨sec, sa, sn, sc, ta, tn, tc, ca, cn, cc⟩ := v
  obtain ⟨ok, og, ot, oo, ox⟩ := o
  change Calls _ _ #[.agg #[.string sec, .slice sa sn sc, .slice ta tn tc, .slice ca cn cc], .agg #[.int .i64 ok, .string og, .int .i64 ot, .int .i64 oo, .string ox]] _ _
  change Hid (∀ W, _ -> Calls _ _ #[.agg #[.string sec, .slice sa sn sc, .slice ta tn tc, .slice ca cn cc], .agg #[.int .i64 ok, .string og, .int .i64 ot, .int .i64 oo, .string ox]] _ _) at HF
  have hb0 : Below w.heap.size w ((w.alloc (.cells #[.string sec, .slice sa sn sc, .slice ta tn tc, .slice ca cn cc] 26)).alloc (.cells #[.int .i64 ok, .string og, .int .i64 ot, .int .i64 oo, .string ox] 28)) := ((Below.refl _ _).alloc (Nat.le_refl _) _).alloc (by simp) _
  have HFF := hiq (HF.out _ hb0)
  have t0 : ((E : Int) != 0) = true := by simpa using he
  clear HF he
  go_enter Tryz.func16, Tryz.ntmps16
  go_wp2_with fail
  generalize (w.alloc (.cells #[.string sec, .slice sa sn sc, .slice ta tn tc, .slice ca cn cc] 26)).alloc (.cells #[.int .i64 ok, .string og, .int .i64 ot, .int .i64 oo, .string ox] 28) = W1 at *
  refine HFF.out.mono ?_
  rintro e W2 ⟨p, q, r, rfl, -, hb2⟩
  have hb3 := hb0.trans (hb2.mono hb0.size)
  have hb4 : Below w.heap.size w (W2.alloc (.cells #[.int .i64 p, .int .i64 q, .int .i64 r] 66)) := hb3.alloc hb3.size _
  go_wp2
  exact bodyPost_ret (v := .tuple #[.string ⟨#[]⟩, .int .i64 E]) (by simp [results, Tryz.results16, go_sem]) rfl ⟨rfl, hb4⟩
theorem descr_any (S : Nat -> Prop) (v : CV) (x : Col) (o : Op) (w : World) (h : RdC S w v x) (hm : Sml x) (hE : Env w) (ho : o.ok) (hx : o.text.size <= 1000000) (hg : o.sig.size <= 1000000) :
    Calls Tryz.prog 16 #[v.val, o.val] w fun e w' => e = .returned (.tuple #[.string (descr x o), .int .i64 (opErr x o)]) /\ Below w.heap.size w w' := by
  by_cases he : opErr x o = 0
  · obtain ⟨s, c, F⟩ := fits_of he
    rw [he]
    have h4 : o.kind = 1 \/ o.kind = 2 \/ o.kind = 3 \/ o.kind = 4 := by have := F.kind; omega
    rcases h4 with k | k | k | k
    · exact descr_1 S v x o s c w h hm hE ho hx hg F k
    · exact descr_2 S v x o s c w h hm hE ho hx hg F k
    · exact descr_3 S v x o s c w h hm hE ho hx hg F k
    · exact descr_4 S v x o s c w h hm hE ho hx hg F k
  · exact descr_err S v x o w h hm hE ho hx he
end Go.Proofs.YtbdgmgddliploaaGreatDoor
namespace Go.Proofs.YtbdgmgddliploaaGreatDoor
open Go.RowKit

/-- A collation and an error, wherever it lies. -/
def ColQ (x : Col) (er : Int) (w : World) (e : Ending) (w' : World) : Prop := ∃ v : CV, e = .returned (.tuple #[v.val, .int .i64 er]) /\ RdC (fun _ => True) w' v x /\ Below w.heap.size w w'
theorem EditPost.q {S : Nat -> Prop} {x : Col} {o : Op} {w w' : World} {e : Ending} (h : EditPost S x o w e w') : ColQ (opApply x o) (opErr x o) w e w' := by
  obtain ⟨v, h1, h2, h3⟩ := h; exact ⟨v, h1, h2.mono (fun _ _ _ => trivial), h3⟩
theorem decDigits_split {n : Nat} (h : ¬ n < 10) : Lib.decDigits n = Lib.decDigits (n / 10) ++ Lib.decDigits (n % 10) := by
  rw [Lib.decDigits, dif_neg h]
  congr 1
  rw [Lib.decDigits, dif_pos (by omega)]
theorem ba_add (a b : List UInt8) : (⟨a.toArray⟩ : ByteArray) ++ (⟨b.toArray⟩ : ByteArray) = ⟨(a ++ b).toArray⟩ := ba_ext (by simp [ByteArray.data_append])
/-- The words up to the token's text. -/
def saidB (k : Int) (og tx : ByteArray) (tk : Nat) : ByteArray := kindWord k ++ (⟨#[32]⟩ : ByteArray) ++ og ++ (⟨#[32]⟩ : ByteArray) ++ (⟨(Lib.decDigits tk).toArray⟩ : ByteArray) ++ (⟨#[32]⟩ : ByteArray) ++ tx
theorem said_12 {k : Int} (h3 : k ≠ 3) (h4 : k ≠ 4) (og tx ox : ByteArray) (tk : Nat) (oo : Int) : (⟨(Lib.join ((words4 k og (tk : Int) tx oo ox).map (·.data.toList)) [32]).toArray⟩ : ByteArray) = saidB k og tx tk := by
  unfold saidB words4 tailW
  rw [if_neg h3, if_neg h4]
  apply ba_ext
  simp [Lib.join_cons, Lib.joinTail, Lib.itoa_nonneg, ByteArray.data_append]
theorem said_3a (og tx ox : ByteArray) (tk : Nat) : (⟨(Lib.join ((words4 3 og (tk : Int) tx (-1) ox).map (·.data.toList)) [32]).toArray⟩ : ByteArray) = saidB 3 og tx tk ++ (⟨#[32, 45, 49]⟩ : ByteArray) := by
  unfold saidB words4 tailW
  rw [if_pos rfl, show Lib.itoa (-1) = [45, 49] by decide +kernel]
  apply ba_ext
  simp [Lib.join_cons, Lib.joinTail, Lib.itoa_nonneg, ByteArray.data_append]
theorem said_3b (og tx ox : ByteArray) (tk : Nat) : (⟨(Lib.join ((words4 3 og (tk : Int) tx 1 ox).map (·.data.toList)) [32]).toArray⟩ : ByteArray) = saidB 3 og tx tk ++ (⟨#[32, 49]⟩ : ByteArray) := by
  unfold saidB words4 tailW
  rw [if_pos rfl, show Lib.itoa 1 = [49] by decide +kernel]
  apply ba_ext
  simp [Lib.join_cons, Lib.joinTail, Lib.itoa_nonneg, ByteArray.data_append]
theorem said_4 (og tx ox : ByteArray) (tk : Nat) (oo : Int) : (⟨(Lib.join ((words4 4 og (tk : Int) tx oo ox).map (·.data.toList)) [32]).toArray⟩ : ByteArray) = saidB 4 og tx tk ++ (⟨#[32]⟩ : ByteArray) ++ ox := by
  unfold saidB words4 tailW
  rw [if_neg (by decide), if_pos rfl]
  apply ba_ext
  simp [Lib.join_cons, Lib.joinTail, Lib.itoa_nonneg, ByteArray.data_append]
/-- The digits one by one. -/
theorem digit_at {n : Nat} (h : n < 10) : (⟨(Lib.decDigits n).toArray⟩ : ByteArray) = (⟨#[48, 49, 50, 51, 52, 53, 54, 55, 56, 57]⟩ : ByteArray).extract n (n + 1) := by
  rw [Lib.decDigits, dif_pos h]
  have : n = 0 \/ n = 1 \/ n = 2 \/ n = 3 \/ n = 4 \/ n = 5 \/ n = 6 \/ n = 7 \/ n = 8 \/ n = 9 := by omega
  rcases this with rfl | rfl | rfl | rfl | rfl | rfl | rfl | rfl | rfl | rfl <;> rfl
end Go.Proofs.YtbdgmgddliploaaGreatDoor
