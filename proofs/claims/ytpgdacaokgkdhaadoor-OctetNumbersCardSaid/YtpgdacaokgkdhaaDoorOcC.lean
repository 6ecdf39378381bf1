/-
  octet's numbers: the plain functions of Put, Get, Signed, PutSigned and of the document's answers come to one and the same plain value. Condition: whole numbers of 64 bits.
-/
import Derived.Test.YtpgdacaokgkdhaaDoorOcB
import Derived.Test.YtpgdacaokgkdhaaDoorPUx
namespace Go.Proofs.YtpgdacaokgkdhaaDoorOc
open Go.RowKit Go.Proofs.YtpgdacaokgkdhaaDoorW.PrintWords Go.Proofs.YtpgdacaokgkdhaaDoorW.PrintMore Go.Proofs.YtpgdacaokgkdhaaDoor.PU
set_option linter.unusedSimpArgs false

/-! ### Signed -/
def sgn (b : ByteArray) : Int := if bt b 0 ≥ 128 then -1 else 0
def signedS (b : ByteArray) : Int × Int := if b.size < 1 ∨ b.size > 8 then (0, 1) else (valL (sgn b) (bys b), 0)
theorem bys_cons (b : ByteArray) (h : 0 < b.size) : bys b = bt b 0 :: (bys b).tail := by
  have h0 := bys_getElem b 0 h
  have hl : 0 < (bys b).length := by rw [bys_length]; exact h
  cases hb : bys b with
  | nil => rw [hb] at hl; simp at hl
  | cons x l =>
    have : x = bt b 0 := by simpa [hb] using h0
    rw [this]; rfl
theorem sgn_bound (b : ByteArray) (i : Nat) (h0 : 1 ≤ i) (hi : i ≤ b.size) : -(128 * 256 ^ (i - 1)) ≤ valL (sgn b) ((bys b).take i) ∧ valL (sgn b) ((bys b).take i) ≤ 128 * 256 ^ (i - 1) - 1 := by
  obtain ⟨j, rfl⟩ : ∃ j, i = j + 1 := ⟨i - 1, by omega⟩
  have hr := bt_range b 0
  rw [bys_cons b (by omega), List.take_succ_cons, valL_cons, Nat.add_sub_cancel]
  have hm : ∀ x ∈ (bys b).tail.take j, 0 ≤ x ∧ x < 256 := fun x hx => bys_mem b x (List.mem_of_mem_tail (List.mem_of_mem_take hx))
  have h := valL_bound _ hm (sgn b * 256 + bt b 0)
  have hl : ((bys b).tail.take j).length = j := by rw [List.length_take, List.length_tail, bys_length]; omega
  rw [hl] at h
  have hp := pow_pos256 j
  have ht : -128 ≤ sgn b * 256 + bt b 0 ∧ sgn b * 256 + bt b 0 ≤ 127 := by unfold sgn; split <;> omega
  generalize sgn b * 256 + bt b 0 = t at *
  generalize (256 : Int) ^ j = m at *
  have a1 : -128 * m ≤ t * m := Int.mul_le_mul_of_nonneg_right ht.1 (Int.le_of_lt hp)
  have a2 : (t + 1) * m ≤ 128 * m := Int.mul_le_mul_of_nonneg_right (by omega) (Int.le_of_lt hp)
  omega
theorem signed_l0 (b : ByteArray) (hb : b.size ≤ 8) : ∀ d i k, i + d = b.size → 1 ≤ i → d < k → octet_Signed.l0 k b (valL (sgn b) ((bys b).take i)) i = some (valL (sgn b) (bys b), 0) := by
  intro d
  induction d with
  | zero =>
    intro i k hi h1 hk
    obtain ⟨k, rfl⟩ : ∃ m, k = m + 1 := ⟨k - 1, by omega⟩
    obtain rfl : i = b.size := by omega
    simp only [octet_Signed.l0]
    rw [if_neg (by omega), bys_take_all]
  | succ d ih =>
    intro i k hi h1 hk
    obtain ⟨k, rfl⟩ : ∃ m, k = m + 1 := ⟨k - 1, by omega⟩
    simp only [octet_Signed.l0]
    have hg := sgn_bound b i h1 (by omega)
    have hp := pow_le6 (i - 1) (by omega)
    have hr := bt_range b i
    have c1 : (i : Int) < (b.size : Int) := by omega
    have c2 : 0 ≤ (i : Int) := by omega
    have w1 : wrap64 (valL (sgn b) ((bys b).take i) * 256) = valL (sgn b) ((bys b).take i) * 256 := w64 (by omega)
    have w2 : wrap64 (bt b i) = bt b i := w64 (by omega)
    have w4 : wrap64 ((i : Int) + 1) = ((i + 1 : Nat) : Int) := (w64 (by omega)).trans (by omega)
    rw [if_pos c1, if_pos c2, w1, w2, w4, i64_shl_or _ _ (by omega) (by omega) hr.1 hr.2, ← valL_snoc, ← bys_take_succ b i (by omega)]
    exact ih (i + 1) k (by omega) (by omega) (by omega)
theorem take_one (b : ByteArray) (h : 0 < b.size) (s : Int) : valL s ((bys b).take 1) = s * 256 + bt b 0 := by
  have := bys_take_succ b 0 h
  rw [Nat.zero_add] at this
  rw [this]
  simp [valL]
theorem i8_wrap (x : Int) (h0 : 0 ≤ x) (h1 : x < 256) : IntKind.i8.wrap x = if x ≥ 128 then x - 256 else x := by
  obtain ⟨n, rfl⟩ := Int.eq_ofNat_of_zero_le h0
  have : ∀ n : Fin 256, IntKind.i8.wrap (n.val : Int) = if (n.val : Int) ≥ 128 then (n.val : Int) - 256 else (n.val : Int) := by decide +kernel
  exact this ⟨n, by omega⟩
theorem signed_eq (b : ByteArray) (k : Nat) (hk : 11 ≤ k) : octet_Signed.f k b = some (signedS b) := by
  obtain ⟨k, rfl⟩ : ∃ m, k = m + 1 := ⟨k - 1, by omega⟩
  have hj : octet_Signed.j0 (k + 1) b true = some (0, 1) := by simp only [octet_Signed.j0]; rfl
  unfold octet_Signed.f signedS
  by_cases h1 : b.size < 1
  · rw [if_pos (by omega), hj, if_pos (.inl h1)]
  by_cases h2 : b.size > 8
  · rw [if_neg (by omega), decide_eq_true (by omega), hj, if_pos (.inr h2)]
  rw [if_neg (by omega), decide_eq_false (by omega), if_neg (by omega)]
  simp only [octet_Signed.j0]
  rw [if_neg (by simp), if_pos (by omega)]
  have hr := bt_range b 0
  have e : wrap64 (IntKind.i8.wrap (bt b 0)) = valL (sgn b) ((bys b).take 1) := by
    rw [take_one b (by omega)]
    have e8 : IntKind.i8.wrap (bt b 0) = sgn b * 256 + bt b 0 := by
      rw [i8_wrap _ hr.1 hr.2]
      unfold sgn
      split <;> omega
    rw [e8]
    exact w64 (by unfold sgn; split <;> omega)
  rw [e]
  exact signed_l0 b (by omega) (b.size - 1) 1 k (by omega) (by omega) (by omega)
theorem rsigned_l0 (b : ByteArray) (hb : b.size ≤ 8) (h0 : 0 < b.size) : ∀ d i k, i + d = b.size → d < k → chanceryref1_Signed.l0 k b (valL (sgn b) ((bys b).take i)) i = some (valL (sgn b) (bys b), 0) := by
  intro d
  induction d with
  | zero =>
    intro i k hi hk
    obtain ⟨k, rfl⟩ : ∃ m, k = m + 1 := ⟨k - 1, by omega⟩
    obtain rfl : i = b.size := by omega
    simp only [chanceryref1_Signed.l0]
    rw [if_neg (by omega), bys_take_all]
  | succ d ih =>
    intro i k hi hk
    obtain ⟨k, rfl⟩ : ∃ m, k = m + 1 := ⟨k - 1, by omega⟩
    simp only [chanceryref1_Signed.l0]
    have hr := bt_range b i
    have hb1 : -9223372036854775808 ≤ valL (sgn b) ((bys b).take i) * 256 ∧ valL (sgn b) ((bys b).take i) * 256 ≤ 9223372036854775552 := by
      by_cases h1 : 1 ≤ i
      · have hg := sgn_bound b i h1 (by omega)
        have hp := pow_le6 (i - 1) (by omega)
        omega
      · obtain rfl : i = 0 := by omega
        simp only [List.take_zero, valL_nil]
        unfold sgn; split <;> omega
    have c1 : (i : Int) < (b.size : Int) := by omega
    have c2 : 0 ≤ (i : Int) := by omega
    have w1 : wrap64 (valL (sgn b) ((bys b).take i) * 256) = valL (sgn b) ((bys b).take i) * 256 := w64 (by omega)
    have w2 : wrap64 (bt b i) = bt b i := w64 (by omega)
    have w3 : wrap64 (valL (sgn b) ((bys b).take i) * 256 + bt b i) = valL (sgn b) ((bys b).take i) * 256 + bt b i := w64 (by omega)
    have w4 : wrap64 ((i : Int) + 1) = ((i + 1 : Nat) : Int) := (w64 (by omega)).trans (by omega)
    rw [if_pos c1, if_pos c2, w1, w2, w3, w4, ← valL_snoc, ← bys_take_succ b i (by omega)]
    exact ih (i + 1) k (by omega) (by omega)
theorem rsigned_eq (b : ByteArray) (k : Nat) (hk : 11 ≤ k) : chanceryref1_Signed.f k b = some (signedS b) := by
  obtain ⟨k, rfl⟩ : ∃ m, k = m + 2 := ⟨k - 2, by omega⟩
  have hj : chanceryref1_Signed.j0 (k + 2) b true = some (0, 1) := by simp only [chanceryref1_Signed.j0]; rfl
  unfold chanceryref1_Signed.f signedS
  by_cases h1 : b.size < 1
  · rw [if_pos (by omega), hj, if_pos (.inl h1)]
  by_cases h2 : b.size > 8
  · rw [if_neg (by omega), decide_eq_true (by omega), hj, if_pos (.inr h2)]
  rw [if_neg (by omega), decide_eq_false (by omega), if_neg (by omega)]
  simp only [chanceryref1_Signed.j0]
  rw [if_neg (by simp), if_pos (by omega)]
  have h := rsigned_l0 b (by omega) (by omega) b.size 0 k (by omega) (by omega)
  simp only [List.take_zero, valL_nil] at h
  have hs : sgn b = if bt b 0 ≥ 128 then -1 else 0 := rfl
  by_cases h3 : bt b 0 ≥ 128
  · rw [if_pos h3] at hs ⊢
    simp only [chanceryref1_Signed.j1]
    rw [hs] at h
    rw [hs]; exact h
  · rw [if_neg h3] at hs ⊢
    simp only [chanceryref1_Signed.j1]
    rw [hs] at h
    rw [hs]; exact h

end Go.Proofs.YtpgdacaokgkdhaaDoorOc
