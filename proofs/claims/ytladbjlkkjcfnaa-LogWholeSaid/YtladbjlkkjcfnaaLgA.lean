/-
  octet's Put and Get as plain functions, and their contracts. Condition: none.
-/
import Derived.Test.YtladbjlkkjcfnaaOcA
import Derived.Test.YtladbjlkkjcfnaaPUx
namespace Go.Proofs.YtladbjlkkjcfnaaOc
open Go.RowKit Go.Proofs.YtladbjlkkjcfnaaW.PrintWords Go.Proofs.YtladbjlkkjcfnaaW.PrintMore Go.Proofs.Ytladbjlkkjcfnaa.PU
set_option linter.unusedSimpArgs false

theorem pow_le7 (i : Nat) (h : i ≤ 7) : (256 : Int) ^ i ≤ 72057594037927936 := by
  have : ∀ i : Fin 8, (256 : Int) ^ i.val ≤ 72057594037927936 := by decide
  exact this ⟨i, by omega⟩
theorem pow_le6 (i : Nat) (h : i ≤ 6) : (256 : Int) ^ i ≤ 281474976710656 := by
  have : ∀ i : Fin 7, (256 : Int) ^ i.val ≤ 281474976710656 := by decide
  exact this ⟨i, by omega⟩
theorem set_step (m i : Nat) (v : Int) : (List.replicate (m + 1) 0 ++ beL i v).set m (v / 256 ^ i % 256) = List.replicate m 0 ++ beL (i + 1) v := by
  rw [List.replicate_succ', List.append_assoc, List.set_append_right m _ (by simp)]
  simp [beL]
theorem shr_i64 (v : Int) (i : Nat) (h : i ≤ 8) : shr .i64 v (8 * (i : Int)) = v / 256 ^ i := by
  unfold shr
  rw [show min (8 * (i : Int)).toNat IntKind.i64.bits = 8 * i by simp [IntKind.bits]; omega, pow256]

/-! ### Put -/
def putS (v n : Int) : ByteArray × Int := if n < 1 ∨ n > 7 ∨ v < 0 ∨ v / 256 ^ n.toNat ≠ 0 then (⟨#[]⟩, 1) else (strOfNums (beL n.toNat v), 0)

theorem put_l0 (v : Int) (n : Nat) (hn : n ≤ 7) : ∀ d i k, i + d = n → d < k →
    octet_Put.l0 k v n (List.replicate (n - i) 0 ++ beL i v) n i = some (strOfNums (beL n v), 0) := by
  intro d
  induction d with
  | zero =>
    intro i k hi hk
    obtain ⟨k, rfl⟩ : ∃ m, k = m + 1 := ⟨k - 1, by omega⟩
    obtain rfl : i = n := by omega
    simp only [octet_Put.l0]
    rw [if_neg (by omega)]
    simp
  | succ d ih =>
    intro i k hi hk
    obtain ⟨k, rfl⟩ : ∃ m, k = m + 1 := ⟨k - 1, by omega⟩
    simp only [octet_Put.l0]
    have w1 : wrap64 (8 * (i : Int)) = 8 * (i : Int) := w64 (by omega)
    have w2 : wrap64 ((n : Int) - 1) = (n : Int) - 1 := w64 (by omega)
    have w3 : wrap64 ((n : Int) - 1 - (i : Int)) = ((n - 1 - i : Nat) : Int) := by rw [w64 (by omega)]; omega
    have w4 : wrap64 ((i : Int) + 1) = ((i + 1 : Nat) : Int) := (w64 (by omega)).trans (by omega)
    rw [w1, w2, w3, w4, shr_i64 v i (by omega), if_pos (by omega), if_pos (by omega), if_pos (by omega), if_pos (by simp [beL_length]; omega), Int.toNat_natCast,
      show n - i = (n - 1 - i) + 1 by omega, set_step, show n - 1 - i = n - (i + 1) by omega]
    exact ih (i + 1) k (by omega) (by omega)

theorem put_eq (v n : Int) (k : Nat) (hk : 10 ≤ k) : octet_Put.f k v n = some (putS v n) := by
  obtain ⟨k, rfl⟩ : ∃ m, k = m + 1 := ⟨k - 1, by omega⟩
  have hj : octet_Put.j0 (k + 1) v n true = some (⟨#[]⟩, 1) := by simp only [octet_Put.j0]; rfl
  unfold octet_Put.f putS
  by_cases h1 : n < 1
  · rw [if_pos h1, hj, if_pos (.inl h1)]
  by_cases h2 : n > 7
  · rw [if_neg h1, if_pos h2, hj, if_pos (.inr (.inl h2))]
  by_cases h3 : v < 0
  · rw [if_neg h1, if_neg h2, if_pos h3, hj, if_pos (.inr (.inr (.inl h3)))]
  obtain ⟨m, rfl⟩ := Int.eq_ofNat_of_zero_le (a := n) (by omega)
  rw [if_neg h1, if_neg h2, if_neg h3, w64 (n := 8 * (m : Int)) (by omega), if_pos (by omega), shr_i64 v m (by omega), Int.toNat_natCast]
  by_cases h4 : v / 256 ^ m = 0
  · rw [if_neg (by rintro (h | h | h | h) <;> omega)]
    rw [show ((v / 256 ^ m) != 0) = false by simp [h4]]
    simp only [octet_Put.j0]
    rw [if_neg (by simp), if_pos (by omega), Int.toNat_natCast, if_pos (by omega)]
    simp only [Option.bind_some, List.length_replicate]
    have := put_l0 v m (by omega) m 0 k (by omega) (by omega)
    simpa [beL] using this
  · rw [if_pos (.inr (.inr (.inr h4))), show ((v / 256 ^ m) != 0) = true by simp [h4], hj]

/-! ### Get -/
def getS (b : ByteArray) : Int × Int := if b.size < 1 ∨ b.size > 7 then (0, 1) else (valL 0 (bys b), 0)
theorem take_mem (b : ByteArray) (i : Nat) : ∀ x ∈ (bys b).take i, 0 ≤ x ∧ x < 256 := fun x hx => bys_mem b x (List.mem_of_mem_take hx)
theorem get_bound (b : ByteArray) (i : Nat) (hi : i ≤ b.size) : 0 ≤ valL 0 ((bys b).take i) ∧ valL 0 ((bys b).take i) < 256 ^ i := by
  have h := valL_bound _ (take_mem b i) 0
  rw [List.length_take, bys_length, Nat.min_eq_left hi] at h
  omega
theorem get_l0 (b : ByteArray) (hb : b.size ≤ 7) : ∀ d i k, i + d = b.size → d < k → octet_Get.l0 k b (valL 0 ((bys b).take i)) b.size i = some (valL 0 (bys b), 0) := by
  intro d
  induction d with
  | zero =>
    intro i k hi hk
    obtain ⟨k, rfl⟩ : ∃ m, k = m + 1 := ⟨k - 1, by omega⟩
    obtain rfl : i = b.size := by omega
    simp only [octet_Get.l0]
    rw [if_neg (by omega), bys_take_all]
  | succ d ih =>
    intro i k hi hk
    obtain ⟨k, rfl⟩ : ∃ m, k = m + 1 := ⟨k - 1, by omega⟩
    simp only [octet_Get.l0]
    have hg := get_bound b i (by omega)
    have hp := pow_le6 i (by omega)
    have hr := bt_range b i
    have c1 : (i : Int) < (b.size : Int) := by omega
    have c2 : 0 ≤ (i : Int) := by omega
    have w1 : wrap64 (valL 0 ((bys b).take i) * 256) = valL 0 ((bys b).take i) * 256 := w64 (by omega)
    have w2 : wrap64 (bt b i) = bt b i := w64 (by omega)
    have w4 : wrap64 ((i : Int) + 1) = ((i + 1 : Nat) : Int) := (w64 (by omega)).trans (by omega)
    rw [if_pos c1, if_pos c2, if_pos c1, w1, w2, w4, i64_shl_or _ _ (by omega) (by omega) hr.1 hr.2, ← valL_snoc, ← bys_take_succ b i (by omega)]
    exact ih (i + 1) k (by omega) (by omega)
theorem get_eq (b : ByteArray) (k : Nat) (hk : 10 ≤ k) : octet_Get.f k b = some (getS b) := by
  obtain ⟨k, rfl⟩ : ∃ m, k = m + 1 := ⟨k - 1, by omega⟩
  have hj : octet_Get.j0 (k + 1) b true = some (0, 1) := by simp only [octet_Get.j0]; rfl
  unfold octet_Get.f getS
  by_cases h1 : b.size < 1
  · rw [if_pos (by omega), hj, if_pos (.inl h1)]
  by_cases h2 : b.size > 7
  · rw [if_neg (by omega), decide_eq_true (by omega), hj, if_pos (.inr h2)]
  rw [if_neg (by omega), decide_eq_false (by omega), if_neg (by omega)]
  simp only [octet_Get.j0]
  rw [if_neg (by simp)]
  exact get_l0 b (by omega) b.size 0 k (by omega) (by omega)
theorem c_Put (v n : Int) (w : World) : Calls Try.prog 35 #[.int .i64 v, .int .i64 n] w fun e w' => e = .returned (.tuple #[.string (putS v n).1, .int .i64 (putS v n).2]) ∧ Below w.heap.size w w' :=
  octet_Put.calls 10 v n _ _ w (put_eq v n 10 (by omega))
theorem c_Get (b : ByteArray) (w : World) : Calls Try.prog 33 #[.string b] w fun e w' => e = .returned (.tuple #[.int .i64 (getS b).1, .int .i64 (getS b).2]) ∧ Below w.heap.size w w' :=
  (octet_Get.calls 10 b _ _ w (get_eq b 10 (by omega))).mono fun _ _ ⟨he, hd⟩ => ⟨he, hd.below⟩
end Go.Proofs.YtladbjlkkjcfnaaOc
