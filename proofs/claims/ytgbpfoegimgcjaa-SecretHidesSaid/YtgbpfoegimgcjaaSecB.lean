/-
  secret: what Hide gives. Condition: the password takes at most 2^40 bytes.
-/
import Derived.Test.YtgbpfoegimgcjaaSecA
namespace Go.Proofs.YtgbpfoegimgcjaaOc
open Go.RowKit Go.Proofs.YtgbpfoegimgcjaaW.PrintWords Go.Proofs.YtgbpfoegimgcjaaW.PrintMore Go.Proofs.Ytgbpfoegimgcjaa.PU
set_option linter.unusedSimpArgs false
set_option linter.unusedVariables false

theorem putS_ok (v : Int) (h0 : 0 ≤ v) (h1 : v < 4294967296) : putS v 4 = (strOfNums (beL 4 v), 0) := by
  unfold putS
  rw [if_neg]
  · rfl
  · show ¬ (_ ∨ _ ∨ _ ∨ v / (256 ^ 4 : Int) ≠ 0)
    omega
theorem putS_no (v : Int) (h : ¬ (0 ≤ v ∧ v < 4294967296)) : putS v 4 = (⟨#[]⟩, 1) := by
  unfold putS
  rw [if_pos]
  show (_ ∨ _ ∨ _ ∨ v / (256 ^ 4 : Int) ≠ 0)
  omega
theorem hexS_size (b : ByteArray) : (hexS b).size = 2 * b.size := by unfold hexS; rw [size_strOfNums, hexL_length, bys_length]
/-- a number's four bytes -/
def b4 (v : Int) : ByteArray := strOfNums (beL 4 v)
theorem b4_size (v : Int) : (b4 v).size = 4 := by unfold b4; rw [size_strOfNums, beL_length]
/-- the hidden text when k sums are written -/
def secPart (b p : ByteArray) : Nat → ByteArray
  | 0 => (⟨#[123, 83, 125]⟩ : ByteArray) ++ hexS b ++ ⟨#[46]⟩
  | k + 1 => secPart b p k ++ hexS (b4 (xk b p k))
theorem secPart_size (b p : ByteArray) (k : Nat) : (secPart b p k).size = 4 + 2 * b.size + 8 * k := by
  induction k with
  | zero => simp only [secPart, ByteArray.size_append, hexS_size]; show 3 + 2 * b.size + 1 = _; omega
  | succ k ih => simp only [secPart, ByteArray.size_append, hexS_size, ih, b4_size]; omega
def hideS (salt : Int) (p : ByteArray) : ByteArray × Int := if ¬ (0 ≤ salt ∧ salt < 4294967296) then (⟨#[]⟩, 1) else if 1024 < p.size then (⟨#[]⟩, 2) else (secPart (b4 salt) p 4, 0)
set_option maxRecDepth 100000 in
set_option maxHeartbeats 1000000 in
theorem c_Hide (salt : Int) (p : ByteArray) (hp : p.size ≤ 4611686018427387904) (w : World) :
    Calls Try.prog 6 #[.int .i64 salt, .string p] w fun e w' => e = .returned (.tuple #[.string (hideS salt p).1, .int .i64 (hideS salt p).2]) ∧ Below w.heap.size w w' := by
  unfold hideS
  by_cases hs : 0 ≤ salt ∧ salt < 4294967296
  case neg =>
    rw [if_pos hs]
    have k1 : Hid (∀ W, Calls Try.prog 12 #[.int .i64 salt, .int .i64 4] W fun e w' => e = .returned (.tuple #[.string ⟨#[]⟩, .int .i64 1]) ∧ Below W.heap.size W w') :=
      Lib.hid fun W => by have := c_Put salt 4 W; rw [putS_no salt hs] at this; exact this
    clear hs
    go_enter Try.func6, Try.ntmps6
    go_wp2_with (go_at_call 12; with_reducible (refine (k1.out _).mono ?_); rintro e w1 ⟨rfl, hb1⟩)
    go_ret2
    exact ⟨rfl, hb1⟩
  rw [if_neg (by simpa using hs)]
  have k1 : Hid (∀ W, Calls Try.prog 12 #[.int .i64 salt, .int .i64 4] W fun e w' => e = .returned (.tuple #[.string (b4 salt), .int .i64 0]) ∧ Below W.heap.size W w') :=
    Lib.hid fun W => by have := c_Put salt 4 W; rw [putS_ok salt hs.1 hs.2] at this; exact this
  clear hs
  by_cases hl : 1024 < p.size
  · rw [if_pos hl]
    have d1 : decide ((1024 : Int) < (p.size : Int)) = true := by simp; omega
    clear hl
    go_enter Try.func6, Try.ntmps6
    go_wp2_with (go_at_call 12; with_reducible (refine (k1.out _).mono ?_); rintro e w1 ⟨rfl, hb1⟩)
    go_ret2
    exact ⟨rfl, hb1⟩
  rw [if_neg hl]
  have hp2 : p.size ≤ 1099511627776 := by omega
  have d1 : decide ((1024 : Int) < (p.size : Int)) = false := by simp; omega
  clear hl
  have hb4 := b4_size salt
  generalize b4 salt = b at *
  have k2 : Hid (∀ W, Calls Try.prog 13 #[.string b] W fun e w' => e = .returned (.string (hexS b)) ∧ Below W.heap.size W w') := Lib.hid fun W => c_Hex b (by omega) W
  have k3 : Hid (∀ W, Calls Try.prog 14 #[.string b, .string p] W fun e w' => e = .returned (.agg (sumCells b p 4)) ∧ Below W.heap.size W w') := Lib.hid fun W => c_sumOf b p (by omega) hp2 W
  have k4 : Hid (∀ j, Hid (∀ W, Calls Try.prog 12 #[.int .i64 (xk b p j), .int .i64 4] W fun e w' => e = .returned (.tuple #[.string (b4 (xk b p j)), .int .i64 0]) ∧ Below W.heap.size W w')) :=
    Lib.hid fun j => Lib.hid fun W => by have := c_Put (xk b p j) 4 W; rw [putS_ok _ (xk_range b p j).1 (xk_range b p j).2] at this; exact this
  have k5 : Hid (∀ j, Hid (∀ W, Calls Try.prog 13 #[.string (b4 (xk b p j))] W fun e w' => e = .returned (.string (hexS (b4 (xk b p j)))) ∧ Below W.heap.size W w')) :=
    Lib.hid fun j => Lib.hid fun W => c_Hex _ (by rw [b4_size]; omega) W
  have hz := hexS_size b
  have HZ := Lib.hid (secPart_size b p)
  have HC := Lib.hid (Eq.refl (secPart b p 0))
  rw [show sumCells b p 4 = #[.int .u32 (xk b p 0), .int .u32 (xk b p 1), .int .u32 (xk b p 2), .int .u32 (xk b p 3)] from rfl] at k3
  go_enter Try.func6, Try.ntmps6
  go_wp2_with (first
    | (go_at_call 12; with_reducible (refine (k1.out _).mono ?_); rintro e w1 ⟨rfl, hb1⟩)
    | (go_at_call 13; with_reducible (refine (k2.out _).mono ?_); rintro e w1 ⟨rfl, hb2⟩; replace hb1 := bstep hb1 hb2 hb1.size; clear hb2)
    | (go_at_call 14; with_reducible (refine (k3.out _).mono ?_); rintro e w1 ⟨rfl, hb2⟩; replace hb1 := bstep hb1 hb2 hb1.size; clear hb2))
  go_loopw [8, 32] (fun o i wr => ∃ (k : Nat) (K : Int), K = k ∧ k ≤ 4 ∧ i = .int .i64 K ∧ o = .string (secPart b p k) ∧ Below w.heap.size w wr) (fun _ i _ => 4 - (intOf i).toNat)
  case atStart => exact ⟨0, 0, rfl, by omega, rfl, rfl, hb1⟩
  case round =>
    clear hb1
    obtain ⟨k, K, hK, hk, rfl, rfl, hB⟩ := hrel
    obtain rfl | rfl | rfl | rfl | rfl : k = 0 ∨ k = 1 ∨ k = 2 ∨ k = 3 ∨ k = 4 := by omega
    · obtain rfl : K = 0 := by omega
      clear hK hk
      have HE : Hid (secPart b p 0 ++ hexS (b4 (xk b p 0)) = secPart b p 1) := Lib.hid rfl
      have hz2 := HZ.out 0
      have e4 := k4.out 0
      have e5 := k5.out 0
      have hz3 := hexS_size (b4 (xk b p 0))
      rw [b4_size] at hz3
      have hxr := xk_range b p 0
      have hi : ∀ W, (Instr.index 34 (.agg #[.int .u32 (xk b p 0), .int .u32 (xk b p 1), .int .u32 (xk b p 2), .int .u32 (xk b p 3)]) (.int .i64 0)).run Try.prog W = .ok (.int .u32 (xk b p 0)) W := fun _ => by kernel_rfl
      clear k1 k2 k3 k4 k5 HZ
      generalize secPart b p 0 = O at *
      generalize xk b p 0 = x at *
      generalize hexS (b4 x) = X at *
      generalize b4 x = B at *
      go_wp2_with (first
        | (go_at_call 12; go_loud (with_reducible (refine (e4.out _).mono ?_); rintro e w2 ⟨rfl, hb2⟩; replace hB := bstep hB hb2 hB.size; clear hb2))
        | (go_at_call 13; go_loud (with_reducible (refine (e5.out _).mono ?_); rintro e w2 ⟨rfl, hb2⟩; replace hB := bstep hB hb2 hB.size; clear hb2)))
      exact ⟨⟨1, 1, rfl, by omega, rfl, by rw [HE.out], hB⟩, by simp [intOf]⟩
    · obtain rfl : K = 1 := by omega
      clear hK hk
      have HE : Hid (secPart b p 1 ++ hexS (b4 (xk b p 1)) = secPart b p 2) := Lib.hid rfl
      have hz2 := HZ.out 1
      have e4 := k4.out 1
      have e5 := k5.out 1
      have hz3 := hexS_size (b4 (xk b p 1))
      rw [b4_size] at hz3
      have hxr := xk_range b p 1
      have hi : ∀ W, (Instr.index 34 (.agg #[.int .u32 (xk b p 0), .int .u32 (xk b p 1), .int .u32 (xk b p 2), .int .u32 (xk b p 3)]) (.int .i64 1)).run Try.prog W = .ok (.int .u32 (xk b p 1)) W := fun _ => by kernel_rfl
      clear k1 k2 k3 k4 k5 HZ
      generalize secPart b p 1 = O at *
      generalize xk b p 1 = x at *
      generalize hexS (b4 x) = X at *
      generalize b4 x = B at *
      go_wp2_with (first
        | (go_at_call 12; go_loud (with_reducible (refine (e4.out _).mono ?_); rintro e w2 ⟨rfl, hb2⟩; replace hB := bstep hB hb2 hB.size; clear hb2))
        | (go_at_call 13; go_loud (with_reducible (refine (e5.out _).mono ?_); rintro e w2 ⟨rfl, hb2⟩; replace hB := bstep hB hb2 hB.size; clear hb2)))
      exact ⟨⟨2, 2, rfl, by omega, rfl, by rw [HE.out], hB⟩, by simp [intOf]⟩
    · obtain rfl : K = 2 := by omega
      clear hK hk
      have HE : Hid (secPart b p 2 ++ hexS (b4 (xk b p 2)) = secPart b p 3) := Lib.hid rfl
      have hz2 := HZ.out 2
      have e4 := k4.out 2
      have e5 := k5.out 2
      have hz3 := hexS_size (b4 (xk b p 2))
      rw [b4_size] at hz3
      have hxr := xk_range b p 2
      have hi : ∀ W, (Instr.index 34 (.agg #[.int .u32 (xk b p 0), .int .u32 (xk b p 1), .int .u32 (xk b p 2), .int .u32 (xk b p 3)]) (.int .i64 2)).run Try.prog W = .ok (.int .u32 (xk b p 2)) W := fun _ => by kernel_rfl
      clear k1 k2 k3 k4 k5 HZ
      generalize secPart b p 2 = O at *
      generalize xk b p 2 = x at *
      generalize hexS (b4 x) = X at *
      generalize b4 x = B at *
      go_wp2_with (first
        | (go_at_call 12; go_loud (with_reducible (refine (e4.out _).mono ?_); rintro e w2 ⟨rfl, hb2⟩; replace hB := bstep hB hb2 hB.size; clear hb2))
        | (go_at_call 13; go_loud (with_reducible (refine (e5.out _).mono ?_); rintro e w2 ⟨rfl, hb2⟩; replace hB := bstep hB hb2 hB.size; clear hb2)))
      exact ⟨⟨3, 3, rfl, by omega, rfl, by rw [HE.out], hB⟩, by simp [intOf]⟩
    · obtain rfl : K = 3 := by omega
      clear hK hk
      have HE : Hid (secPart b p 3 ++ hexS (b4 (xk b p 3)) = secPart b p 4) := Lib.hid rfl
      have hz2 := HZ.out 3
      have e4 := k4.out 3
      have e5 := k5.out 3
      have hz3 := hexS_size (b4 (xk b p 3))
      rw [b4_size] at hz3
      have hxr := xk_range b p 3
      have hi : ∀ W, (Instr.index 34 (.agg #[.int .u32 (xk b p 0), .int .u32 (xk b p 1), .int .u32 (xk b p 2), .int .u32 (xk b p 3)]) (.int .i64 3)).run Try.prog W = .ok (.int .u32 (xk b p 3)) W := fun _ => by kernel_rfl
      clear k1 k2 k3 k4 k5 HZ
      generalize secPart b p 3 = O at *
      generalize xk b p 3 = x at *
      generalize hexS (b4 x) = X at *
      generalize b4 x = B at *
      go_wp2_with (first
        | (go_at_call 12; go_loud (with_reducible (refine (e4.out _).mono ?_); rintro e w2 ⟨rfl, hb2⟩; replace hB := bstep hB hb2 hB.size; clear hb2))
        | (go_at_call 13; go_loud (with_reducible (refine (e5.out _).mono ?_); rintro e w2 ⟨rfl, hb2⟩; replace hB := bstep hB hb2 hB.size; clear hb2)))
      exact ⟨⟨4, 4, rfl, by omega, rfl, by rw [HE.out], hB⟩, by simp [intOf]⟩
    · obtain rfl : K = 4 := by omega
      clear hK hk
      go_wp2_with fail
      go_ret2
      exact ⟨rfl, hB⟩
end Go.Proofs.YtgbpfoegimgcjaaOc
