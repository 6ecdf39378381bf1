/-
  octet's numbers: the plain functions of Put, Get, Signed, PutSigned and of the document's answers come to one and the same plain value. Condition: whole numbers of 64 bits.
-/
import Derived.Test.YtpgdacaokgkdhaaDoorOcC
import Derived.Test.YtpgdacaokgkdhaaDoorPUx
namespace Go.Proofs.YtpgdacaokgkdhaaDoorOc
open Go.RowKit Go.Proofs.YtpgdacaokgkdhaaDoorW.PrintWords Go.Proofs.YtpgdacaokgkdhaaDoorW.PrintMore Go.Proofs.YtpgdacaokgkdhaaDoor.PU
set_option linter.unusedSimpArgs false

/-! ### PutSigned -/
/-- v fits in n bytes with a sign -/
def fits (n : Nat) (v : Int) : Prop := -(128 * 256 ^ (n - 1)) ≤ v ∧ v < 128 * 256 ^ (n - 1)
instance (n : Nat) (v : Int) : Decidable (fits n v) := by unfold fits; infer_instance
def wid (v : Int) : Nat := if fits 1 v then 1 else if fits 2 v then 2 else if fits 3 v then 3 else if fits 4 v then 4 else if fits 5 v then 5 else if fits 6 v then 6 else if fits 7 v then 7 else 8
def putSignedS (v : Int) : ByteArray := strOfNums (beL (wid v) v)
theorem wid_range (v : Int) : 1 ≤ wid v ∧ wid v ≤ 8 := by unfold wid; (repeat' split) <;> omega
theorem shr_u64 (v : Int) (i : Nat) (h : i < 8) : shr .u64 (IntKind.u64.wrap v) (8 * (i : Int)) % 256 = v / 256 ^ i % 256 := by
  unfold shr
  rw [show min (8 * (i : Int)).toNat IntKind.u64.bits = 8 * i by simp [IntKind.bits]; omega, pow256]
  have hw : IntKind.u64.wrap v = v % 18446744073709551616 := by simp [IntKind.wrap, IntKind.bits, IntKind.signed]
  rw [hw]
  match i, h with
  | 0, _ => simp only [Int.reducePow]; omega
  | 1, _ => simp only [Int.reducePow]; omega
  | 2, _ => simp only [Int.reducePow]; omega
  | 3, _ => simp only [Int.reducePow]; omega
  | 4, _ => simp only [Int.reducePow]; omega
  | 5, _ => simp only [Int.reducePow]; omega
  | 6, _ => simp only [Int.reducePow]; omega
  | 7, _ => simp only [Int.reducePow]; omega
theorem ps_l1 (v : Int) (n : Nat) (hn : n ≤ 8) : ∀ d i k, i + d = n → d < k →
    octet_PutSigned.l1 k v n (List.replicate (n - i) 0 ++ beL i v) n i = some (strOfNums (beL n v)) := by
  intro d
  induction d with
  | zero =>
    intro i k hi hk
    obtain ⟨k, rfl⟩ : ∃ m, k = m + 1 := ⟨k - 1, by omega⟩
    obtain rfl : i = n := by omega
    simp only [octet_PutSigned.l1]
    rw [if_neg (by omega)]
    simp
  | succ d ih =>
    intro i k hi hk
    obtain ⟨k, rfl⟩ : ∃ m, k = m + 1 := ⟨k - 1, by omega⟩
    simp only [octet_PutSigned.l1]
    have w1 : wrap64 (8 * (i : Int)) = 8 * (i : Int) := w64 (by omega)
    have w2 : wrap64 ((n : Int) - 1) = (n : Int) - 1 := w64 (by omega)
    have w3 : wrap64 ((n : Int) - 1 - (i : Int)) = ((n - 1 - i : Nat) : Int) := by rw [w64 (by omega)]; omega
    have w4 : wrap64 ((i : Int) + 1) = ((i + 1 : Nat) : Int) := (w64 (by omega)).trans (by omega)
    rw [w1, w2, w3, w4, shr_u64 v i (by omega), if_pos (by omega), if_pos (by omega), if_pos (by omega), if_pos (by simp [beL_length]; omega), Int.toNat_natCast,
      show n - i = (n - 1 - i) + 1 by omega, set_step, show n - 1 - i = n - (i + 1) by omega]
    exact ih (i + 1) k (by omega) (by omega)
theorem ps_j1 (v : Int) (n : Nat) (hn : n ≤ 8) (k : Nat) (hk : 11 ≤ k) : octet_PutSigned.j1 k v n = some (strOfNums (beL n v)) := by
  obtain ⟨k, rfl⟩ : ∃ m, k = m + 1 := ⟨k - 1, by omega⟩
  simp only [octet_PutSigned.j1]
  rw [if_pos (by omega), Int.toNat_natCast, if_pos (by omega)]
  simp only [Option.bind_some, List.length_replicate]
  have := ps_l1 v n hn n 0 k (by omega) (by omega)
  simpa [beL] using this
theorem shl_test (v : Int) (h1 : -9223372036854775808 ≤ v) (h2 : v ≤ 9223372036854775807) (n : Nat) (hn : 1 ≤ n) (hn8 : n < 8) :
    (v = shr .i64 (shl .i64 v (64 - 8 * (n : Int))) (64 - 8 * (n : Int))) ↔ fits n v := by
  unfold shr shl fits
  have hw : ∀ m : Int, IntKind.i64.wrap m = (m + 9223372036854775808) % 18446744073709551616 - 9223372036854775808 := IntKind.wrap_i64
  rw [hw]
  match n, hn, hn8 with
  | 1, _, _ => simp [IntKind.bits]; omega
  | 2, _, _ => simp [IntKind.bits]; omega
  | 3, _, _ => simp [IntKind.bits]; omega
  | 4, _, _ => simp [IntKind.bits]; omega
  | 5, _, _ => simp [IntKind.bits]; omega
  | 6, _, _ => simp [IntKind.bits]; omega
  | 7, _, _ => simp [IntKind.bits]; omega
theorem ps_l0 (v : Int) (h1 : -9223372036854775808 ≤ v) (h2 : v ≤ 9223372036854775807) (n : Nat) (hn : 1 ≤ n) (hn8 : n < 8) (k : Nat) (hk : 12 ≤ k) :
    octet_PutSigned.l0 (k + 1) v n = if fits n v then some (strOfNums (beL n v)) else octet_PutSigned.l0 k v ((n + 1 : Nat) : Int) := by
  have w1 : wrap64 (8 * (n : Int)) = 8 * (n : Int) := w64 (by omega)
  have w2 : wrap64 (64 - 8 * (n : Int)) = 64 - 8 * (n : Int) := w64 (by omega)
  have w4 : wrap64 ((n : Int) + 1) = ((n + 1 : Nat) : Int) := by rw [w64 (by omega)]; omega
  simp only [octet_PutSigned.l0]
  rw [w1, w2, w4, if_pos (by omega), if_pos (by omega)]
  by_cases hf : fits n v
  · rw [if_pos ((shl_test v h1 h2 n hn hn8).2 hf), if_pos hf, ps_j1 v n (by omega) k (by omega)]
  · rw [if_neg (fun h => hf ((shl_test v h1 h2 n hn hn8).1 h)), if_neg hf]
theorem putSigned_eq (v : Int) (h1 : -9223372036854775808 ≤ v) (h2 : v ≤ 9223372036854775807) (k : Nat) (hk : 25 ≤ k) : octet_PutSigned.f k v = some (putSignedS v) := by
  obtain ⟨k, rfl⟩ : ∃ m, k = m + 8 := ⟨k - 8, by omega⟩
  have h8 : octet_PutSigned.l0 (k + 1) v ((8 : Nat) : Int) = some (strOfNums (beL 8 v)) := by
    simp only [octet_PutSigned.l0]
    rw [if_neg (by omega)]
    exact ps_j1 v 8 (by omega) k (by omega)
  have g1 := ps_l0 v h1 h2 1 (by omega) (by omega) (k + 7) (by omega)
  have g2 := ps_l0 v h1 h2 2 (by omega) (by omega) (k + 6) (by omega)
  have g3 := ps_l0 v h1 h2 3 (by omega) (by omega) (k + 5) (by omega)
  have g4 := ps_l0 v h1 h2 4 (by omega) (by omega) (k + 4) (by omega)
  have g5 := ps_l0 v h1 h2 5 (by omega) (by omega) (k + 3) (by omega)
  have g6 := ps_l0 v h1 h2 6 (by omega) (by omega) (k + 2) (by omega)
  have g7 := ps_l0 v h1 h2 7 (by omega) (by omega) (k + 1) (by omega)
  unfold octet_PutSigned.f putSignedS wid
  rw [show (1 : Int) = ((1 : Nat) : Int) from rfl, show k + 8 = k + 7 + 1 by omega, g1, show k + 7 = k + 6 + 1 by omega, g2, show k + 6 = k + 5 + 1 by omega, g3, show k + 5 = k + 4 + 1 by omega, g4,
    show k + 4 = k + 3 + 1 by omega, g5, show k + 3 = k + 2 + 1 by omega, g6, show k + 2 = k + 1 + 1 by omega, g7, h8]
  repeat' split
  all_goals rfl
theorem i64_and255 (x : Int) : bits .and .i64 x 255 = x % 256 := by
  show IntKind.i64.wrap ((BitVec.ofInt 64 x &&& BitVec.ofInt 64 255).toNat : Int) = _
  rw [BitVec.toNat_and, BitVec.toNat_ofInt, BitVec.toNat_ofInt, IntKind.wrap_i64]
  simp only [Nat.reducePow]
  have e1 : ((255 : Int) % ((18446744073709551616 : Nat) : Int)).toNat = 2 ^ 8 - 1 := by omega
  rw [e1, Nat.and_two_pow_sub_one_eq_mod]
  omega
theorem rps_l1 (v : Int) (h1 : -9223372036854775808 ≤ v) (h2 : v ≤ 9223372036854775807) (n : Nat) (hn : n ≤ 8) : ∀ j k, j ≤ n → 12 + j ≤ k →
    chanceryref1_PutSigned.l1 k v n (List.replicate j 0 ++ beL (n - j) v) (v / 256 ^ (n - j)) ((j : Int) - 1) = chanceryref1_PutSigned.l1 (k - j) v n (beL n v) (v / 256 ^ n) (-1) := by
  intro j
  induction j with
  | zero => intro k _ _; simp
  | succ j ih =>
    intro k hj hk
    obtain ⟨k, rfl⟩ : ∃ m, k = m + 1 := ⟨k - 1, by omega⟩
    simp only [chanceryref1_PutSigned.l1]
    have hp := pow_pos256 (n - (j + 1))
    have hq : -9223372036854775808 ≤ v / 256 ^ (n - (j + 1)) ∧ v / 256 ^ (n - (j + 1)) ≤ 9223372036854775807 := by
      constructor
      · rcases Int.le_total 0 v with h | h
        · have := Int.ediv_nonneg h (Int.le_of_lt hp); omega
        · have : v ≤ v / 256 ^ (n - (j + 1)) := by
            apply (Int.le_ediv_iff_mul_le hp).2
            have h5 := Int.mul_nonneg (a := -v) (b := 256 ^ (n - (j + 1)) - 1) (by omega) (by omega)
            rw [Int.mul_sub, Int.neg_mul, Int.mul_one] at h5
            omega
          omega
      · rcases Int.le_total 0 v with h | h
        · have := Int.ediv_le_self (256 ^ (n - (j + 1))) h; omega
        · have : v / 256 ^ (n - (j + 1)) < 1 := (Int.ediv_lt_iff_lt_mul hp).2 (by omega)
          omega
    have w0 : ((j + 1 : Nat) : Int) - 1 = (j : Int) := by omega
    have w1 : wrap64 ((j : Int) - 1) = (j : Int) - 1 := w64 (by omega)
    rw [w0, w1, if_pos (by omega), if_pos (by omega), if_pos (by simp [beL_length]; omega), i64_and255 _, Int.emod_emod, div_pow_pow, Int.toNat_natCast, set_step,
      show n - (j + 1) + 1 = n - j by omega, ih k (by omega) (by omega), show k + 1 - (j + 1) = k - j by omega]
theorem signed_beL (v : Int) (h1 : -9223372036854775808 ≤ v) (h2 : v ≤ 9223372036854775807) (n : Nat) (hn : 1 ≤ n) (hn8 : n ≤ 8) : ((signedS (strOfNums (beL n v))).1 = v ↔ fits n v) ∧ (signedS (strOfNums (beL n v))).2 = 0 := by
  have hsz : (strOfNums (beL n v)).size = n := by rw [size_strOfNums, beL_length]
  have hb : bys (strOfNums (beL n v)) = beL n v := bys_strOfNums _ (beL_mem n v)
  have h0 : bt (strOfNums (beL n v)) 0 = v / 256 ^ (n - 1) % 256 := by
    have := bys_getElem (strOfNums (beL n v)) 0 (by omega)
    rw [show ((0 : Nat) : Int) = 0 from rfl] at this
    rw [← this]
    obtain ⟨m, rfl⟩ : ∃ m, n = m + 1 := ⟨n - 1, by omega⟩
    simp only [hb]
    rfl
  unfold signedS
  rw [if_neg (by omega), hb, valL_beL]
  refine ⟨?_, rfl⟩
  unfold sgn fits
  rw [h0]
  match n, hn, hn8 with
  | 1, _, _ => simp only [Nat.sub_self, Nat.add_one_sub_one, Int.reducePow]; split <;> omega
  | 2, _, _ => simp only [Nat.reduceSub, Int.reducePow]; split <;> omega
  | 3, _, _ => simp only [Nat.reduceSub, Int.reducePow]; split <;> omega
  | 4, _, _ => simp only [Nat.reduceSub, Int.reducePow]; split <;> omega
  | 5, _, _ => simp only [Nat.reduceSub, Int.reducePow]; split <;> omega
  | 6, _, _ => simp only [Nat.reduceSub, Int.reducePow]; split <;> omega
  | 7, _, _ => simp only [Nat.reduceSub, Int.reducePow]; split <;> omega
  | 8, _, _ => simp only [Nat.reduceSub, Int.reducePow]; split <;> omega
theorem rps_l0 (v : Int) (h1 : -9223372036854775808 ≤ v) (h2 : v ≤ 9223372036854775807) (n : Nat) (hn : 1 ≤ n) (hn8 : n ≤ 8) (k : Nat) (hk : 25 ≤ k) :
    chanceryref1_PutSigned.l0 (k + 1) v n = if fits n v then some (strOfNums (beL n v)) else chanceryref1_PutSigned.l0 (k - n - 1) v ((n + 1 : Nat) : Int) := by
  have w2 : wrap64 ((n : Int) - 1) = (n : Int) - 1 := w64 (by omega)
  have w4 : wrap64 ((n : Int) + 1) = ((n + 1 : Nat) : Int) := by rw [w64 (by omega)]; omega
  simp only [chanceryref1_PutSigned.l0]
  rw [if_pos (by omega), Int.toNat_natCast, if_pos (by omega), w2]
  have h := rps_l1 v h1 h2 n hn8 n k (by omega) (by omega)
  simp only [Nat.sub_self, Int.pow_zero, Int.ediv_one, beL, List.append_nil] at h
  rw [h]
  obtain ⟨m, hm⟩ : ∃ m, k - n = m + 1 := ⟨k - n - 1, by omega⟩
  rw [hm]
  simp only [chanceryref1_PutSigned.l1]
  obtain ⟨s1, s2⟩ := signed_beL v h1 h2 n hn hn8
  rw [if_neg (by omega), rsigned_eq _ m (by omega), Option.bind_some, w4]
  by_cases hf : fits n v
  · rw [if_pos (s1.2 hf), if_pos hf]
  · rw [if_neg (fun h => hf (s1.1 h)), if_neg hf]
    rfl
theorem rputSigned_eq (v : Int) (h1 : -9223372036854775808 ≤ v) (h2 : v ≤ 9223372036854775807) : ∃ k, chanceryref1_PutSigned.f k v = some (putSignedS v) := by
  refine ⟨201, ?_⟩
  have g1 := rps_l0 v h1 h2 1 (by omega) (by omega) 200 (by omega)
  have g2 := rps_l0 v h1 h2 2 (by omega) (by omega) 197 (by omega)
  have g3 := rps_l0 v h1 h2 3 (by omega) (by omega) 193 (by omega)
  have g4 := rps_l0 v h1 h2 4 (by omega) (by omega) 188 (by omega)
  have g5 := rps_l0 v h1 h2 5 (by omega) (by omega) 182 (by omega)
  have g6 := rps_l0 v h1 h2 6 (by omega) (by omega) 175 (by omega)
  have g7 := rps_l0 v h1 h2 7 (by omega) (by omega) 167 (by omega)
  have g8 := rps_l0 v h1 h2 8 (by omega) (by omega) 158 (by omega)
  simp only [Nat.reduceSub, Nat.reduceAdd] at g1 g2 g3 g4 g5 g6 g7 g8
  have f8 : fits 8 v := by unfold fits; simp only [Nat.reduceSub, Int.reducePow]; omega
  rw [if_pos f8] at g8
  unfold chanceryref1_PutSigned.f putSignedS wid
  rw [show (1 : Int) = ((1 : Nat) : Int) from rfl, g1, g2, g3, g4, g5, g6, g7, g8]
  repeat' split
  all_goals rfl
end Go.Proofs.YtpgdacaokgkdhaaDoorOc
