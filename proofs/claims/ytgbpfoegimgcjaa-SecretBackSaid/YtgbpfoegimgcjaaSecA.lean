/-
  secret: the contracts of octet's functions, and sumOf: the four sums of a salt's bytes and a password. Condition: sizes at most 2^40.
-/
import Derived.Test.YtgbpfoegimgcjaaOcE
import Derived.Test.YtgbpfoegimgcjaaOcB
import Derived.WalkKit
import Derived.OwnWalk
import Derived.Lib.Hide
import Derived.Deep.RegionWith
import Derived.Lib.ConvBytes
import Derived.Laws.ResultCell
import Derived.Laws.Rows
import Derived.Laws.Strings2
namespace Go.Proofs.YtgbpfoegimgcjaaOc
open Go.RowKit Go.Proofs.YtgbpfoegimgcjaaW.PrintWords Go.Proofs.YtgbpfoegimgcjaaW.PrintMore Go.Proofs.Ytgbpfoegimgcjaa.PU
set_option linter.unusedSimpArgs false
set_option linter.unusedVariables false

theorem c_Sum (b : ByteArray) (hb : b.size ≤ 4611686018427387904) (w : World) : Calls Try.prog 22 #[.string b] w fun e w' => e = .returned (.int .i64 (sumS b)) ∧ Below w.heap.size w w' :=
  (octet_Sum.calls (b.size + 1) b _ w (sum_eq b hb)).mono fun _ _ ⟨he, hd⟩ => ⟨he, hd.below⟩
theorem c_Put (v n : Int) (w : World) : Calls Try.prog 12 #[.int .i64 v, .int .i64 n] w fun e w' => e = .returned (.tuple #[.string (putS v n).1, .int .i64 (putS v n).2]) ∧ Below w.heap.size w w' :=
  octet_Put.calls 10 v n _ _ w (put_eq v n 10 (by omega))
theorem c_Hex (b : ByteArray) (hb : b.size ≤ 35184372088832) (w : World) : Calls Try.prog 13 #[.string b] w fun e w' => e = .returned (.string (hexS b)) ∧ Below w.heap.size w w' :=
  octet_Hex.calls (b.size + 1) b _ w (hex_eq b hb)
theorem c_Unhex (s : ByteArray) (hs : s.size ≤ 70368744177664) (w : World) : Calls Try.prog 23 #[.string s] w fun e w' => e = .returned (.tuple #[.string (unhexS s).1, .int .i64 (unhexS s).2]) ∧ Below w.heap.size w w' :=
  octet_Unhex.calls (s.size + 3) s _ _ w (unhex_eq s hs)
theorem c_Get (b : ByteArray) (w : World) : Calls Try.prog 24 #[.string b] w fun e w' => e = .returned (.tuple #[.int .i64 (getS b).1, .int .i64 (getS b).2]) ∧ Below w.heap.size w w' :=
  (octet_Get.calls 10 b _ _ w (get_eq b 10 (by omega))).mono fun _ _ ⟨he, hd⟩ => ⟨he, hd.below⟩
theorem bcell_ {W w1 : World} (hb : Below W.heap.size W w1) : ∀ b o, b < W.heap.size → w1.cell? ⟨b, o, none⟩ = W.cell? ⟨b, o, none⟩ := fun _ _ h => hb.cell h
theorem bstep {B : Nat} {w w1 w2 : World} (hb : Below B w w1) (h : Below w1.heap.size w1 w2) (hB : B ≤ w1.heap.size) : Below B w w2 := hb.trans (h.mono hB)
theorem one_byte (W : World) (n : Nat) (v : Int) (h : W.cell? ⟨n, 0, none⟩ = some (.int .u8 v)) : (convert 37 9 (.slice (some ⟨n, 0, none⟩) 1 1)).run Try.prog W = .ok (.string (strOfNums [v])) W :=
  string_of_reads Try.underlying37 Try.underlying5 Try.underlying9 ⟨rfl, by omega, fun _ => ⟨_, rfl, fun j hj => by
    obtain rfl : j = 0 := by omega
    simpa [Addr.add] using h⟩⟩

/-- the k-th sum -/
def xk (b p : ByteArray) (k : Int) : Int := sumS (strOfNums [k] ++ b ++ p ++ b ++ p)
theorem xk_range (b p : ByteArray) (k : Int) : 0 ≤ xk b p k ∧ xk b p k < 4294967296 := sumS_range _
/-- what the array holds when k rounds are done -/
def sumCells (b p : ByteArray) (k : Nat) : Array Value := #[.int .u32 (if 0 < k then xk b p 0 else 0), .int .u32 (if 1 < k then xk b p 1 else 0), .int .u32 (if 2 < k then xk b p 2 else 0), .int .u32 (if 3 < k then xk b p 3 else 0)]
set_option maxRecDepth 100000 in
set_option maxHeartbeats 1000000 in
theorem c_sumOf (b p : ByteArray) (hb : b.size ≤ 1099511627776) (hp : p.size ≤ 1099511627776) (w : World) :
    Calls Try.prog 14 #[.string b, .string p] w fun e w' => e = .returned (.agg (sumCells b p 4)) ∧ Below w.heap.size w w' := by
  go_enter Try.func14, Try.ntmps14
  have k1 : ∀ (j : Int) (S : ByteArray), S = strOfNums [j] → Hid (∀ W, Calls Try.prog 22 #[.string (S ++ b ++ p ++ b ++ p)] W fun e w' => e = .returned (.int .i64 (xk b p j)) ∧ Below W.heap.size W w') := by
    rintro j S rfl
    exact Lib.hid fun W => c_Sum _ (by simp only [ByteArray.size_append, size_strOfNums, List.length_cons, List.length_nil]; omega) W
  have H1 := Lib.hid k1
  clear k1
  go_wp2_with fail
  go_loopw [7] (fun i wr => ∃ (k : Nat) (K : Int), K = k ∧ k ≤ 4 ∧ i = .int .i64 K ∧ Below w.heap.size w wr ∧ w.heap.size + 2 ≤ wr.heap.size ∧ wr.heap[w.heap.size]? = some (.cells (sumCells b p 0) 34 (0, 0)) ∧ wr.heap[w.heap.size + 1]? = some (.cells (sumCells b p k) 34 (0, 0))) (fun i _ => 4 - (intOf i).toNat)
  case atStart => exact ⟨0, 0, rfl, by omega, rfl, below_alloc (below_alloc (Below.refl _ _) _) _, by simp, by rw [heap_alloc2_old]; rfl, by rw [heap_alloc2_new]; rfl⟩
  case round =>
    obtain ⟨k, K, hK, hk, rfl, hB, hs, hz, hx⟩ := hrel
    obtain rfl | rfl | rfl | rfl | rfl : k = 0 ∨ k = 1 ∨ k = 2 ∨ k = 3 ∨ k = 4 := by omega
    · obtain rfl : K = 0 := by omega
      clear hK hk
      have e0 : Hid ((sumCells b p 0)[0]? = some (Value.int .u32 0)) := Lib.hid rfl
      obtain ⟨S, hS⟩ : ∃ S, S = strOfNums [(0 : Int)] := ⟨_, rfl⟩
      have k1 := H1.out 0 S hS
      have hS1 : S.size ≤ 1 := by rw [hS, size_strOfNums]; exact Nat.le_refl _
      have hcv : ∀ (W : World) (n : Nat), W.cell? ⟨n, 0, none⟩ = some (.int .u8 0) → (convert 37 9 (.slice (some ⟨n, 0, none⟩) 1 1)).run Try.prog W = .ok (.string S) W := fun W n h => by rw [hS]; exact one_byte W n 0 h
      clear hS
      obtain ⟨x, hxe⟩ : ∃ x, x = xk b p 0 := ⟨_, rfl⟩
      rw [← hxe] at k1
      have hxr : 0 ≤ x ∧ x < 4294967296 := by rw [hxe]; exact xk_range b p 0
      have hxw : x % 4294967296 = x := by omega
      have HX := Lib.hid hxe
      clear hxe
      go_wp2_with (go_at_call 22; go_loud (with_reducible (refine (k1.out _).mono ?_); rintro e w1 ⟨rfl, hb1⟩; have hx1 := blk_below (blk_alloc hx _) hb1; have hcc := (cell_of_row w1 _ 0 _ _ _ hx1).trans e0.out; have hfz := frozen_of_row w1 _ 0 _ _ hx1))
      refine ⟨⟨1, 1, rfl, by omega, rfl, (bstep (below_alloc hB _) hb1 (by simp; omega)).setCell (Nat.le_succ _) _, ?_, (heap_setCell_other w1 _ _ _ (by simp)).trans (blk_below (blk_alloc hz _) hb1), (heap_setCell_same w1 _ _ _ _ _ hx1).trans (by rw [HX.out]; rfl)⟩, by simp [intOf]⟩
      have := hb1.size
      simp [World.setCell] at this ⊢
      omega
    · obtain rfl : K = 1 := by omega
      clear hK hk
      have e0 : Hid ((sumCells b p 1)[1]? = some (Value.int .u32 0)) := Lib.hid rfl
      obtain ⟨S, hS⟩ : ∃ S, S = strOfNums [(1 : Int)] := ⟨_, rfl⟩
      have k1 := H1.out 1 S hS
      have hS1 : S.size ≤ 1 := by rw [hS, size_strOfNums]; exact Nat.le_refl _
      have hcv : ∀ (W : World) (n : Nat), W.cell? ⟨n, 0, none⟩ = some (.int .u8 1) → (convert 37 9 (.slice (some ⟨n, 0, none⟩) 1 1)).run Try.prog W = .ok (.string S) W := fun W n h => by rw [hS]; exact one_byte W n 1 h
      clear hS
      obtain ⟨x, hxe⟩ : ∃ x, x = xk b p 1 := ⟨_, rfl⟩
      rw [← hxe] at k1
      have hxr : 0 ≤ x ∧ x < 4294967296 := by rw [hxe]; exact xk_range b p 1
      have hxw : x % 4294967296 = x := by omega
      have HX := Lib.hid hxe
      clear hxe
      go_wp2_with (go_at_call 22; go_loud (with_reducible (refine (k1.out _).mono ?_); rintro e w1 ⟨rfl, hb1⟩; have hx1 := blk_below (blk_alloc hx _) hb1; have hcc := (cell_of_row w1 _ 1 _ _ _ hx1).trans e0.out; have hfz := frozen_of_row w1 _ 1 _ _ hx1))
      refine ⟨⟨2, 2, rfl, by omega, rfl, (bstep (below_alloc hB _) hb1 (by simp; omega)).setCell (Nat.le_succ _) _, ?_, (heap_setCell_other w1 _ _ _ (by simp)).trans (blk_below (blk_alloc hz _) hb1), (heap_setCell_same w1 _ _ _ _ _ hx1).trans (by rw [HX.out]; rfl)⟩, by simp [intOf]⟩
      have := hb1.size
      simp [World.setCell] at this ⊢
      omega
    · obtain rfl : K = 2 := by omega
      clear hK hk
      have e0 : Hid ((sumCells b p 2)[2]? = some (Value.int .u32 0)) := Lib.hid rfl
      obtain ⟨S, hS⟩ : ∃ S, S = strOfNums [(2 : Int)] := ⟨_, rfl⟩
      have k1 := H1.out 2 S hS
      have hS1 : S.size ≤ 1 := by rw [hS, size_strOfNums]; exact Nat.le_refl _
      have hcv : ∀ (W : World) (n : Nat), W.cell? ⟨n, 0, none⟩ = some (.int .u8 2) → (convert 37 9 (.slice (some ⟨n, 0, none⟩) 1 1)).run Try.prog W = .ok (.string S) W := fun W n h => by rw [hS]; exact one_byte W n 2 h
      clear hS
      obtain ⟨x, hxe⟩ : ∃ x, x = xk b p 2 := ⟨_, rfl⟩
      rw [← hxe] at k1
      have hxr : 0 ≤ x ∧ x < 4294967296 := by rw [hxe]; exact xk_range b p 2
      have hxw : x % 4294967296 = x := by omega
      have HX := Lib.hid hxe
      clear hxe
      go_wp2_with (go_at_call 22; go_loud (with_reducible (refine (k1.out _).mono ?_); rintro e w1 ⟨rfl, hb1⟩; have hx1 := blk_below (blk_alloc hx _) hb1; have hcc := (cell_of_row w1 _ 2 _ _ _ hx1).trans e0.out; have hfz := frozen_of_row w1 _ 2 _ _ hx1))
      refine ⟨⟨3, 3, rfl, by omega, rfl, (bstep (below_alloc hB _) hb1 (by simp; omega)).setCell (Nat.le_succ _) _, ?_, (heap_setCell_other w1 _ _ _ (by simp)).trans (blk_below (blk_alloc hz _) hb1), (heap_setCell_same w1 _ _ _ _ _ hx1).trans (by rw [HX.out]; rfl)⟩, by simp [intOf]⟩
      have := hb1.size
      simp [World.setCell] at this ⊢
      omega
    · obtain rfl : K = 3 := by omega
      clear hK hk
      have e0 : Hid ((sumCells b p 3)[3]? = some (Value.int .u32 0)) := Lib.hid rfl
      obtain ⟨S, hS⟩ : ∃ S, S = strOfNums [(3 : Int)] := ⟨_, rfl⟩
      have k1 := H1.out 3 S hS
      have hS1 : S.size ≤ 1 := by rw [hS, size_strOfNums]; exact Nat.le_refl _
      have hcv : ∀ (W : World) (n : Nat), W.cell? ⟨n, 0, none⟩ = some (.int .u8 3) → (convert 37 9 (.slice (some ⟨n, 0, none⟩) 1 1)).run Try.prog W = .ok (.string S) W := fun W n h => by rw [hS]; exact one_byte W n 3 h
      clear hS
      obtain ⟨x, hxe⟩ : ∃ x, x = xk b p 3 := ⟨_, rfl⟩
      rw [← hxe] at k1
      have hxr : 0 ≤ x ∧ x < 4294967296 := by rw [hxe]; exact xk_range b p 3
      have hxw : x % 4294967296 = x := by omega
      have HX := Lib.hid hxe
      clear hxe
      go_wp2_with (go_at_call 22; go_loud (with_reducible (refine (k1.out _).mono ?_); rintro e w1 ⟨rfl, hb1⟩; have hx1 := blk_below (blk_alloc hx _) hb1; have hcc := (cell_of_row w1 _ 3 _ _ _ hx1).trans e0.out; have hfz := frozen_of_row w1 _ 3 _ _ hx1))
      refine ⟨⟨4, 4, rfl, by omega, rfl, (bstep (below_alloc hB _) hb1 (by simp; omega)).setCell (Nat.le_succ _) _, ?_, (heap_setCell_other w1 _ _ _ (by simp)).trans (blk_below (blk_alloc hz _) hb1), (heap_setCell_same w1 _ _ _ _ _ hx1).trans (by rw [HX.out]; rfl)⟩, by simp [intOf]⟩
      have := hb1.size
      simp [World.setCell] at this ⊢
      omega
    · obtain rfl : K = 4 := by omega
      clear hK hk
      have hd0 := (cell_of_row wr _ 0 _ _ _ hx).trans (Eq.refl (some (Value.int .u32 (xk b p 0))))
      have hd1 := (cell_of_row wr _ 1 _ _ _ hx).trans (Eq.refl (some (Value.int .u32 (xk b p 1))))
      have hd2 := (cell_of_row wr _ 2 _ _ _ hx).trans (Eq.refl (some (Value.int .u32 (xk b p 2))))
      have hd3 := (cell_of_row wr _ 3 _ _ _ hx).trans (Eq.refl (some (Value.int .u32 (xk b p 3))))
      have hz0 := (cell_of_row wr _ 0 _ _ _ hz).trans (Eq.refl (some (Value.int .u32 0)))
      have hz1 := (cell_of_row wr _ 1 _ _ _ hz).trans (Eq.refl (some (Value.int .u32 0)))
      have hz2 := (cell_of_row wr _ 2 _ _ _ hz).trans (Eq.refl (some (Value.int .u32 0)))
      have hz3 := (cell_of_row wr _ 3 _ _ _ hz).trans (Eq.refl (some (Value.int .u32 0)))
      have hf0 := frozen_of_row wr _ 0 _ _ hz
      have hf1 := frozen_of_row wr _ 1 _ _ hz
      have hf2 := frozen_of_row wr _ 2 _ _ hz
      have hf3 := frozen_of_row wr _ 3 _ _ hz
      go_wp2_with fail
      have g1 := heap_setCell_same wr _ 0 _ _ (.int .u32 (xk b p 0)) hz
      have g2 := heap_setCell_same _ _ 1 _ _ (.int .u32 (xk b p 1)) g1
      have g3 := heap_setCell_same _ _ 2 _ _ (.int .u32 (xk b p 2)) g2
      have g4 := heap_setCell_same _ _ 3 _ _ (.int .u32 (xk b p 3)) g3
      refine bodyPost_ret (v := .agg (sumCells b p 4)) ?_ rfl ⟨rfl, ?_⟩
      · exact results_cell_row rfl _ _ w.heap.size 34 (sumCells b p 4) (0, 0) _ rfl g4 Try.underlying34 rfl rfl
      · exact (((hB.setCell (Nat.le_refl _) _).setCell (Nat.le_refl _) _).setCell (Nat.le_refl _) _).setCell (Nat.le_refl _) _
end Go.Proofs.YtgbpfoegimgcjaaOc
