/-
  Plain mathematics of octet, without Go: a number's last bytes, the number of bytes, 'or' as a sum, shifts. Condition: none.
-/
import Derived.Laws.BitsAllLaws
import Derived.RowKit
import Derived.IntWalk
import Derived.Laws.BytesArg
import Derived.Test.YtladbjlkkjcfnaaWWords
import Derived.Test.YtladbjlkkjcfnaaWMore
namespace Go.Proofs.YtladbjlkkjcfnaaOc
open Go.RowKit Go.Proofs.YtladbjlkkjcfnaaW.PrintWords Go.Proofs.YtladbjlkkjcfnaaW.PrintMore

theorem w64 {n : Int} (h : -9223372036854775808 ≤ n ∧ n ≤ 9223372036854775807) : wrap64 n = n := by unfold wrap64; omega
/-- the last n bytes of v, the greatest first -/
def beL : Nat → Int → List Int
  | 0, _ => []
  | i + 1, v => (v / 256 ^ i % 256) :: beL i v
theorem beL_length (n : Nat) (v : Int) : (beL n v).length = n := by
  induction n with
  | zero => rfl
  | succ n ih => simp [beL, ih]
theorem beL_mem (n : Nat) (v : Int) : ∀ x ∈ beL n v, 0 ≤ x ∧ x < 256 := by
  induction n with
  | zero => intro x hx; simp [beL] at hx
  | succ n ih =>
    intro x hx
    simp only [beL, List.mem_cons] at hx
    rcases hx with rfl | hx
    · omega
    · exact ih x hx
def valL (s : Int) (l : List Int) : Int := l.foldl (fun a x => a * 256 + x) s
theorem valL_nil (s : Int) : valL s [] = s := rfl
theorem valL_cons (s x : Int) (l : List Int) : valL s (x :: l) = valL (s * 256 + x) l := rfl
theorem valL_snoc (s : Int) (l : List Int) (x : Int) : valL s (l ++ [x]) = valL s l * 256 + x := by simp [valL]
theorem pow_pos256 (n : Nat) : (0 : Int) < 256 ^ n := Int.pow_pos (by omega)
theorem mod_pow_succ (v : Int) (n : Nat) : v % 256 ^ (n + 1) = (v / 256 ^ n % 256) * 256 ^ n + v % 256 ^ n := by
  have hm := pow_pos256 n
  rw [Int.pow_succ]
  generalize (256 : Int) ^ n = m at hm
  have h1 := Int.emod_add_mul_ediv v m
  have h2 := Int.emod_add_mul_ediv (v / m) 256
  have h3 := Int.emod_nonneg v (Int.ne_of_gt hm)
  have h4 := Int.emod_lt_of_pos v hm
  have h5 : 0 ≤ v / m % 256 := Int.emod_nonneg _ (by omega)
  have h6 : v / m % 256 < 256 := Int.emod_lt_of_pos _ (by omega)
  generalize v / m % 256 = c at *
  generalize v / m / 256 = q at *
  generalize v / m = d at *
  generalize v % m = r at *
  have e : v = (c * m + r) + (m * 256) * q := by
    rw [← h1, ← h2, Int.mul_add, ← Int.mul_assoc, Int.mul_comm c m]
    omega
  rw [e, Int.add_mul_emod_self_left]
  apply Int.emod_eq_of_lt
  · have := Int.mul_nonneg h5 (Int.le_of_lt hm); omega
  · have : c * m ≤ 255 * m := Int.mul_le_mul_of_nonneg_right (by omega) (Int.le_of_lt hm)
    omega
theorem valL_beL (v : Int) (n : Nat) : ∀ s : Int, valL s (beL n v) = s * 256 ^ n + v % 256 ^ n := by
  induction n with
  | zero => intro s; simp [beL, valL, Int.emod_one]
  | succ n ih =>
    intro s
    rw [beL, valL_cons, ih, mod_pow_succ, Int.pow_succ, Int.add_mul, Int.mul_assoc s 256, Int.mul_comm 256 ((256 : Int) ^ n)]
    omega
theorem div_pow_pow (v : Int) (i : Nat) : v / 256 ^ i / 256 = v / 256 ^ (i + 1) := by
  rw [Int.pow_succ, Int.ediv_ediv_of_nonneg (Int.le_of_lt (pow_pos256 i))]
theorem pow256 (i : Nat) : (2 : Int) ^ (8 * i) = 256 ^ i := by rw [Int.pow_mul]; rfl

theorem i64_shl_or (y b : Int) (h1 : -9223372036854775808 ≤ y * 256) (h2 : y * 256 ≤ 9223372036854775807) (h3 : 0 ≤ b) (h4 : b < 256) : bits .or .i64 (y * 256) b = y * 256 + b := by
  show IntKind.i64.wrap ((BitVec.ofInt 64 (y * 256) ||| BitVec.ofInt 64 b).toNat : Int) = _
  rw [BitVec.toNat_or, BitVec.toNat_ofInt, BitVec.toNat_ofInt, IntKind.wrap_i64]
  simp only [Nat.reducePow]
  have e1 : (b % ((18446744073709551616 : Nat) : Int)).toNat = b.toNat := by omega
  obtain ⟨q, hq⟩ : ∃ q : Nat, (y * 256 % ((18446744073709551616 : Nat) : Int)).toNat = 2 ^ 8 * q := ⟨(y * 256 % ((18446744073709551616 : Nat) : Int)).toNat / 256, by omega⟩
  rw [e1, hq, ← Nat.two_pow_add_eq_or_of_lt (by omega), ← hq]
  omega

/-- the bytes of a string as numbers -/
def bys (s : ByteArray) : List Int := s.data.toList.map fun b => (b.toNat : Int)
theorem bys_length (s : ByteArray) : (bys s).length = s.size := by simp [bys]
theorem bys_getElem (s : ByteArray) (i : Nat) (h : i < s.size) : (bys s)[i]'(by rw [bys_length]; exact h) = bt s i := by
  simp [bys, bt, h]; rfl
theorem bys_mem (s : ByteArray) : ∀ x ∈ bys s, 0 ≤ x ∧ x < 256 := by
  intro x hx
  simp only [bys, List.mem_map] at hx
  obtain ⟨b, _, rfl⟩ := hx
  have := b.toNat_lt
  omega
theorem bt_range (s : ByteArray) (i : Int) : 0 ≤ bt s i ∧ bt s i < 256 := by
  unfold bt
  split
  · have := (s[i.toNat]).toNat_lt
    omega
  · omega
theorem bys_take_succ (s : ByteArray) (i : Nat) (h : i < s.size) : (bys s).take (i + 1) = (bys s).take i ++ [bt s i] := by
  rw [List.take_succ_eq_append_getElem (by rw [bys_length]; exact h), bys_getElem s i h]
theorem bys_take_all (s : ByteArray) : (bys s).take s.size = bys s := by rw [← bys_length]; exact List.take_length
theorem bys_strOfNums (l : List Int) (h : ∀ x ∈ l, 0 ≤ x ∧ x < 256) : bys (strOfNums l) = l := by
  simp only [bys, strOfNums, List.map_map]
  rw [List.map_congr_left (g := id)]
  · simp
  · intro x hx
    obtain ⟨h0, h1⟩ := h x hx
    simp
    omega
theorem size_strOfNums (l : List Int) : (strOfNums l).size = l.length := by simp [strOfNums, ByteArray.size]
theorem bys_inj {a b : ByteArray} (h : bys a = bys b) : a = b := by
  obtain ⟨⟨a⟩⟩ := a
  obtain ⟨⟨b⟩⟩ := b
  simp only [bys] at h
  congr 2
  exact (List.map_inj_right (fun x y hxy => by
    have : x.toNat = y.toNat := by omega
    exact UInt8.toNat_inj.1 this)).1 h
theorem strOfNums_bys (s : ByteArray) : strOfNums (bys s) = s := bys_inj (bys_strOfNums _ (bys_mem s))
theorem valL_bound (l : List Int) (h : ∀ x ∈ l, 0 ≤ x ∧ x < 256) : ∀ s : Int, s * 256 ^ l.length ≤ valL s l ∧ valL s l < (s + 1) * 256 ^ l.length := by
  induction l with
  | nil => intro s; simp [valL]; omega
  | cons x l ih =>
    intro s
    rw [valL_cons]
    obtain ⟨h1, h2⟩ := h x List.mem_cons_self
    obtain ⟨i1, i2⟩ := ih (fun y hy => h y (List.mem_cons_of_mem _ hy)) (s * 256 + x)
    have hm := pow_pos256 l.length
    rw [List.length_cons, Int.pow_succ]
    generalize (256 : Int) ^ l.length = m at *
    have hx1 : 0 ≤ x * m := Int.mul_nonneg h1 (Int.le_of_lt hm)
    have hx2 : x * m ≤ 255 * m := Int.mul_le_mul_of_nonneg_right (by omega) (Int.le_of_lt hm)
    rw [Int.add_mul] at i1
    have e1 : s * (m * 256) = s * 256 * m := by rw [Int.mul_comm m 256, Int.mul_assoc]
    have e2 : (s * 256 + x + 1) * m = s * 256 * m + x * m + m := by rw [Int.add_mul, Int.add_mul]; omega
    have e3 : (s + 1) * (m * 256) = s * 256 * m + 256 * m := by rw [Int.add_mul, e1]; omega
    omega
end Go.Proofs.YtladbjlkkjcfnaaOc
