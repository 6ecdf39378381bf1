/-
  octet's sums and hexadecimal texts: the plain functions of Sum, Hex, Unhex, Digit and of the document's answers come to one and the same plain value. Condition: sizes at most 2^46.
-/
import Derived.Test.YtgbpfoegimgcjaaOcA
import Derived.Test.YtgbpfoegimgcjaaPUx
import Derived.Lib.Bytealg
namespace Go.Proofs.YtgbpfoegimgcjaaOc
open Go.RowKit Go.Proofs.YtgbpfoegimgcjaaW.PrintWords Go.Proofs.YtgbpfoegimgcjaaW.PrintMore Go.Proofs.Ytgbpfoegimgcjaa.PU
set_option linter.unusedSimpArgs false

theorem bys_drop (b : ByteArray) (i : Nat) (h : i < b.size) : (bys b).drop i = bt b i :: (bys b).drop (i + 1) := by
  rw [List.drop_eq_getElem_cons (by rw [bys_length]; exact h), bys_getElem b i h]
theorem bys_drop_end (b : ByteArray) (i : Nat) (h : b.size ≤ i) : (bys b).drop i = [] := List.drop_eq_nil_of_le (by rw [bys_length]; exact h)

/-! ### Sum -/
def sumStep (x c : Int) : Int := ((x.toNat ^^^ c.toNat : Nat) : Int) * 16777619 % 4294967296
def sumL (x : Int) (l : List Int) : Int := l.foldl sumStep x
def sumS (b : ByteArray) : Int := sumL 2166136261 (bys b)
theorem sumStep_range (x c : Int) : 0 ≤ sumStep x c ∧ sumStep x c < 4294967296 := by unfold sumStep; omega
theorem sumL_range (l : List Int) : ∀ x, 0 ≤ x → x < 4294967296 → 0 ≤ sumL x l ∧ sumL x l < 4294967296 := by
  induction l with
  | nil => intro x h1 h2; exact ⟨h1, h2⟩
  | cons c l ih => intro x _ _; exact ih _ (sumStep_range x c).1 (sumStep_range x c).2
theorem sumS_range (b : ByteArray) : 0 ≤ sumS b ∧ sumS b < 4294967296 := sumL_range _ _ (by omega) (by omega)
theorem u32_step (x c : Int) (h0 : 0 ≤ x) (h1 : x < 4294967296) (h2 : 0 ≤ c) (h3 : c < 256) : (bits .xor .u32 x (c % 4294967296) * 16777619) % 4294967296 = sumStep x c := by
  rw [Int.emod_eq_of_lt h2 (by omega), u32_xor x c h0 h1 h2 (by omega)]
  rfl
theorem ofInt_i64 (a : Nat) (ha : a < 9223372036854775808) : (BitVec.ofInt 64 (a : Int)).toNat = a := by
  rw [BitVec.ofInt_natCast, BitVec.toNat_ofNat]; exact Nat.mod_eq_of_lt (by omega)
theorem i64_xor_nat (a b : Nat) (ha : a < 4294967296) (hb : b < 4294967296) : bits .xor .i64 (a : Int) (b : Int) = ((a ^^^ b : Nat) : Int) ∧ a ^^^ b < 4294967296 := by
  have hx : a ^^^ b < 2 ^ 32 := Nat.xor_lt_two_pow (by omega) (by omega)
  refine ⟨?_, by omega⟩
  show IntKind.i64.wrap ((BitVec.ofInt 64 (a : Int) ^^^ BitVec.ofInt 64 (b : Int)).toNat : Int) = _
  rw [BitVec.toNat_xor, ofInt_i64 a (by omega), ofInt_i64 b (by omega), IntKind.wrap_i64]
  omega
theorem i64_step (x c : Int) (h0 : 0 ≤ x) (h1 : x < 4294967296) (h2 : 0 ≤ c) (h3 : c < 256) : Int.tmod (wrap64 (bits .xor .i64 x (wrap64 c) * 16777619)) 4294967296 = sumStep x c := by
  obtain ⟨a, rfl⟩ := Int.eq_ofNat_of_zero_le h0
  obtain ⟨b, rfl⟩ := Int.eq_ofNat_of_zero_le h2
  obtain ⟨e, hlt⟩ := i64_xor_nat a b (by omega) (by omega)
  rw [w64 (n := (b : Int)) (by omega), e, w64 (by omega), Int.tmod_eq_emod_of_nonneg (by omega)]
  rfl
theorem sum_l0 (b : ByteArray) (hb : b.size ≤ 4611686018427387904) : ∀ d i k x, i + d = b.size → d < k → 0 ≤ x → x < 4294967296 → octet_Sum.l0 k b x b.size i = some (sumL x ((bys b).drop i)) := by
  intro d
  induction d with
  | zero =>
    intro i k x hi hk h0 h1
    obtain ⟨k, rfl⟩ : ∃ m, k = m + 1 := ⟨k - 1, by omega⟩
    simp only [octet_Sum.l0]
    rw [if_neg (by omega), bys_drop_end b i (by omega), w64 (by omega)]
    rfl
  | succ d ih =>
    intro i k x hi hk h0 h1
    obtain ⟨k, rfl⟩ : ∃ m, k = m + 1 := ⟨k - 1, by omega⟩
    simp only [octet_Sum.l0]
    have hr := bt_range b i
    have c1 : (i : Int) < (b.size : Int) := by omega
    have w4 : wrap64 ((i : Int) + 1) = ((i + 1 : Nat) : Int) := (w64 (by omega)).trans (by omega)
    rw [if_pos c1, if_pos (Int.natCast_nonneg i), if_pos c1, w4, u32_step x _ h0 h1 hr.1 hr.2, bys_drop b i (by omega)]
    exact ih (i + 1) k _ (by omega) (by omega) (sumStep_range _ _).1 (sumStep_range _ _).2
theorem sum_eq (b : ByteArray) (hb : b.size ≤ 4611686018427387904) : octet_Sum.f (b.size + 1) b = some (sumS b) := by
  have := sum_l0 b hb b.size 0 (b.size + 1) 2166136261 (by omega) (by omega) (by omega) (by omega)
  unfold octet_Sum.f sumS
  simpa using this
theorem rsum_l0 (b : ByteArray) (hb : b.size ≤ 4611686018427387904) : ∀ d i k x, i + d = b.size → d < k → 0 ≤ x → x < 4294967296 → chanceryref1_Sum.l0 k b x i = some (sumL x ((bys b).drop i)) := by
  intro d
  induction d with
  | zero =>
    intro i k x hi hk h0 h1
    obtain ⟨k, rfl⟩ : ∃ m, k = m + 1 := ⟨k - 1, by omega⟩
    simp only [chanceryref1_Sum.l0]
    rw [if_neg (by omega), bys_drop_end b i (by omega)]
    rfl
  | succ d ih =>
    intro i k x hi hk h0 h1
    obtain ⟨k, rfl⟩ : ∃ m, k = m + 1 := ⟨k - 1, by omega⟩
    simp only [chanceryref1_Sum.l0]
    have hr := bt_range b i
    have c1 : (i : Int) < (b.size : Int) := by omega
    have w4 : wrap64 ((i : Int) + 1) = ((i + 1 : Nat) : Int) := (w64 (by omega)).trans (by omega)
    rw [if_pos c1, if_pos (Int.natCast_nonneg i), w4, i64_step x _ h0 h1 hr.1 hr.2, bys_drop b i (by omega)]
    exact ih (i + 1) k _ (by omega) (by omega) (sumStep_range _ _).1 (sumStep_range _ _).2
theorem rsum_eq (b : ByteArray) (hb : b.size ≤ 4611686018427387904) : chanceryref1_Sum.f (b.size + 1) b = some (sumS b) := by
  have := rsum_l0 b hb b.size 0 (b.size + 1) 2166136261 (by omega) (by omega) (by omega) (by omega)
  unfold chanceryref1_Sum.f sumS
  simpa using this
theorem bys_append (a b : ByteArray) : bys (a ++ b) = bys a ++ bys b := by
  simp [bys, ByteArray.data_append]
theorem sumS_snoc (a b : ByteArray) (c : Int) (h : bys b = [c]) : sumS (a ++ b) = sumStep (sumS a) c := by
  unfold sumS
  rw [bys_append, h]
  simp [sumL]

/-! ### Hex -/
def hd (c : Int) : Int := if c < 10 then 48 + c else 87 + c
def hexL : List Int → List Int
  | [] => []
  | c :: l => hd (c / 16) :: hd (c % 16) :: hexL l
def hexS (b : ByteArray) : ByteArray := strOfNums (hexL (bys b))
theorem hexL_length (l : List Int) : (hexL l).length = 2 * l.length := by
  induction l with
  | nil => rfl
  | cons c l ih => simp [hexL, ih]; omega
theorem hexL_append (l m : List Int) : hexL (l ++ m) = hexL l ++ hexL m := by
  induction l with
  | nil => rfl
  | cons c l ih => simp [hexL, ih]
theorem digits_at (c : Int) (h0 : 0 ≤ c) (h1 : c < 16) : bt (⟨#[48, 49, 50, 51, 52, 53, 54, 55, 56, 57, 97, 98, 99, 100, 101, 102]⟩ : ByteArray) c = hd c := by
  obtain ⟨n, rfl⟩ := Int.eq_ofNat_of_zero_le h0
  have : ∀ n : Fin 16, bt (⟨#[48, 49, 50, 51, 52, 53, 54, 55, 56, 57, 97, 98, 99, 100, 101, 102]⟩ : ByteArray) (n.val : Int) = hd n.val := by decide +kernel
  exact this ⟨n, by omega⟩
theorem u8_and15 (c : Int) (h0 : 0 ≤ c) (h1 : c < 256) : bits .and .u8 c 15 = c % 16 := by
  rw [u8_and c 15 h0 h1 (by omega) (by omega)]
  have : (15 : Int).toNat = 2 ^ 4 - 1 := rfl
  rw [this, Nat.and_two_pow_sub_one_eq_mod]
  omega
theorem hex_l0 (b : ByteArray) (hb : b.size ≤ 35184372088832) : ∀ d i k acc, i + d = b.size → d < k → acc.length = 2 * i → octet_Hex.l0 k b acc b.size i = some (strOfNums (acc ++ hexL ((bys b).drop i))) := by
  intro d
  induction d with
  | zero =>
    intro i k acc hi hk ha
    obtain ⟨k, rfl⟩ : ∃ m, k = m + 1 := ⟨k - 1, by omega⟩
    simp only [octet_Hex.l0]
    rw [if_neg (by omega), bys_drop_end b i (by omega)]
    simp [hexL]
  | succ d ih =>
    intro i k acc hi hk ha
    obtain ⟨k, rfl⟩ : ∃ m, k = m + 1 := ⟨k - 1, by omega⟩
    simp only [octet_Hex.l0]
    have hr := bt_range b i
    have c1 : (i : Int) < (b.size : Int) := by omega
    have w4 : wrap64 ((i : Int) + 1) = ((i + 1 : Nat) : Int) := (w64 (by omega)).trans (by omega)
    rw [u8_and15 _ hr.1 hr.2, if_pos c1, if_pos (Int.natCast_nonneg i), if_pos c1, if_pos (by omega), if_pos (by omega), if_pos (by omega), if_pos (by omega), digits_at _ (by omega) (by omega), digits_at _ (by omega) (by omega)]
    simp only [Option.bind_some, List.length_cons, List.length_nil]
    rw [if_pos (by omega), w4, ih (i + 1) k _ (by omega) (by omega) (by simp; omega), bys_drop b i (by omega)]
    simp [hexL]
theorem hex_eq (b : ByteArray) (hb : b.size ≤ 35184372088832) : octet_Hex.f (b.size + 1) b = some (hexS b) := by
  unfold octet_Hex.f hexS
  rw [w64 (by omega), if_pos (by omega), if_pos (by omega)]
  have := hex_l0 b hb b.size 0 (b.size + 1) [] (by omega) (by omega) rfl
  simpa using this
theorem rhex_l0 (b : ByteArray) (hb : b.size ≤ 35184372088832) : ∀ d i k acc, i + d = b.size → d < k → acc.length = 2 * i → chanceryref1_Hex.l0 k b acc i = some (strOfNums (acc ++ hexL ((bys b).drop i))) := by
  intro d
  induction d with
  | zero =>
    intro i k acc hi hk ha
    obtain ⟨k, rfl⟩ : ∃ m, k = m + 1 := ⟨k - 1, by omega⟩
    simp only [chanceryref1_Hex.l0]
    rw [if_neg (by omega), bys_drop_end b i (by omega)]
    simp [hexL]
  | succ d ih =>
    intro i k acc hi hk ha
    obtain ⟨k, rfl⟩ : ∃ m, k = m + 1 := ⟨k - 1, by omega⟩
    simp only [chanceryref1_Hex.l0]
    have hr := bt_range b i
    have c1 : (i : Int) < (b.size : Int) := by omega
    have w4 : wrap64 ((i : Int) + 1) = ((i + 1 : Nat) : Int) := (w64 (by omega)).trans (by omega)
    rw [Int.tdiv_eq_ediv_of_nonneg hr.1, Int.tmod_eq_emod_of_nonneg hr.1, Int.emod_eq_of_lt (a := bt b i / 16) (b := 256) (by omega) (by omega), if_pos c1, if_pos (Int.natCast_nonneg i),
      if_pos (by omega), if_pos (by omega), if_pos (by omega), if_pos (by omega), digits_at _ (by omega) (by omega), digits_at _ (by omega) (by omega)]
    simp only [Option.bind_some, List.length_cons, List.length_nil]
    rw [if_pos (by omega), w4, ih (i + 1) k _ (by omega) (by omega) (by simp; omega), bys_drop b i (by omega)]
    simp [hexL]
theorem rhex_eq (b : ByteArray) (hb : b.size ≤ 35184372088832) : chanceryref1_Hex.f (b.size + 1) b = some (hexS b) := by
  unfold chanceryref1_Hex.f hexS
  rw [w64 (by omega), if_pos (by omega), if_pos (by omega)]
  have := rhex_l0 b hb b.size 0 (b.size + 1) [] (by omega) (by omega) rfl
  simpa using this

/-! ### Unhex -/
def dig (c : Int) : Int := if 48 ≤ c ∧ c ≤ 57 then c - 48 else if 97 ≤ c ∧ c ≤ 102 then c - 87 else if 65 ≤ c ∧ c ≤ 70 then c - 55 else -1
theorem dig_range (c : Int) : -1 ≤ dig c ∧ dig c < 16 := by unfold dig; repeat' split <;> omega
theorem dig_eq (c : Int) (h0 : 0 ≤ c) (h1 : c < 256) (k : Nat) (hk : 2 ≤ k) : octet_Digit.f k c = some (dig c) := by
  obtain ⟨k, rfl⟩ : ∃ m, k = m + 2 := ⟨k - 2, by omega⟩
  unfold octet_Digit.f dig
  simp only [octet_Digit.j0, octet_Digit.j1, decide_eq_true_eq, Bool.false_eq_true, if_false]
  repeat' split
  all_goals first | omega | (congr 1; omega) | rfl
theorem rdig_eq (c : Int) (h0 : 0 ≤ c) (h1 : c < 256) (k : Nat) (hk : 2 ≤ k) : chanceryref1_Digit.f k c = some (dig c) := by
  obtain ⟨k, rfl⟩ : ∃ m, k = m + 2 := ⟨k - 2, by omega⟩
  unfold chanceryref1_Digit.f dig
  simp only [chanceryref1_Digit.j0, chanceryref1_Digit.j1, decide_eq_true_eq, Bool.false_eq_true, if_false]
  repeat' split
  all_goals first | omega | (congr 1; omega) | rfl
/-- digits two by two; none: one of them is no digit (or one is left over) -/
def unhexL : List Int → Option (List Int)
  | [] => some []
  | [_] => none
  | a :: b :: l => if dig a < 0 then none else if dig b < 0 then none else (unhexL l).map fun r => (dig a * 16 + dig b) :: r
def unhexS (s : ByteArray) : ByteArray × Int := if s.size % 2 = 1 then (⟨#[]⟩, 11) else match unhexL (bys s) with | some l => (strOfNums l, 0) | none => (⟨#[]⟩, 11)
theorem or16 (a b : Int) (h0 : 0 ≤ a) (h1 : a < 16) (h2 : 0 ≤ b) (h3 : b < 16) : bits .or .i64 (wrap64 (a * 16)) b % 256 = a * 16 + b := by
  rw [w64 (by omega)]
  obtain ⟨a, rfl⟩ := Int.eq_ofNat_of_zero_le h0
  obtain ⟨b, rfl⟩ := Int.eq_ofNat_of_zero_le h2
  show IntKind.i64.wrap ((BitVec.ofInt 64 ((a : Int) * 16) ||| BitVec.ofInt 64 (b : Int)).toNat : Int) % 256 = _
  rw [show (a : Int) * 16 = ((2 ^ 4 * a : Nat) : Int) by omega, BitVec.toNat_or, ofInt_i64 _ (by omega), ofInt_i64 b (by omega), ← Nat.two_pow_add_eq_or_of_lt (by omega), IntKind.wrap_i64]
  omega
theorem unhex_l0 (s : ByteArray) (hs : s.size ≤ 70368744177664) (he : s.size % 2 = 0) : ∀ d i k acc, i + 2 * d = s.size → d + 2 < k → acc.length ≤ i →
    octet_Unhex.l0 k s acc i = some (match unhexL ((bys s).drop i) with | some l => (strOfNums (acc ++ l), 0) | none => (⟨#[]⟩, 11)) := by
  intro d
  induction d with
  | zero =>
    intro i k acc hi hk ha
    obtain ⟨k, rfl⟩ : ∃ m, k = m + 1 := ⟨k - 1, by omega⟩
    simp only [octet_Unhex.l0]
    rw [if_neg (by omega), bys_drop_end s i (by omega)]
    simp [unhexL]
  | succ d ih =>
    intro i k acc hi hk ha
    obtain ⟨k, rfl⟩ : ∃ m, k = m + 1 := ⟨k - 1, by omega⟩
    simp only [octet_Unhex.l0]
    have hr := bt_range s i
    have hr2 := bt_range s ((i + 1 : Nat) : Int)
    have c1 : (i : Int) < (s.size : Int) := by omega
    have c2 : ((i + 1 : Nat) : Int) < (s.size : Int) := by omega
    have w4 : wrap64 ((i : Int) + 1) = ((i + 1 : Nat) : Int) := (w64 (by omega)).trans (by omega)
    have w5 : wrap64 ((i : Int) + 2) = ((i + 2 : Nat) : Int) := (w64 (by omega)).trans (by omega)
    have d1 := dig_range (bt s i)
    have d2 := dig_range (bt s ((i + 1 : Nat) : Int))
    rw [if_pos c1, if_pos (Int.natCast_nonneg i), dig_eq _ hr.1 hr.2 k (by omega), Option.bind_some, w4, if_pos (Int.natCast_nonneg _), if_pos c2, dig_eq _ hr2.1 hr2.2 k (by omega), Option.bind_some,
      bys_drop s i (by omega), bys_drop s (i + 1) (by omega)]
    simp only [unhexL]
    by_cases h1 : dig (bt s i) < 0
    · rw [if_pos h1, if_pos h1]
    by_cases h2 : dig (bt s ((i + 1 : Nat) : Int)) < 0
    · rw [if_neg h1, if_pos h2, if_neg h1, if_pos h2]
    rw [if_neg h1, if_neg h2, if_neg h1, if_neg h2, if_pos (by omega), or16 _ _ (by omega) d1.2 (by omega) d2.2, w5, ih (i + 2) k _ (by omega) (by omega) (by simp; omega)]
    cases unhexL ((bys s).drop (i + 1 + 1)) <;> simp
theorem unhex_eq (s : ByteArray) (hs : s.size ≤ 70368744177664) : octet_Unhex.f (s.size + 3) s = some (unhexS s) := by
  unfold octet_Unhex.f unhexS
  by_cases h1 : s.size % 2 = 1
  · rw [if_neg (by omega), if_pos h1]
  rw [if_pos (by omega), w64 (by omega), if_pos (by omega), if_pos (by omega), if_neg h1]
  have := unhex_l0 s hs (by omega) (s.size / 2) 0 (s.size + 3) [] (by omega) (by omega) (by simp)
  simpa using this
theorem runhex_l0 (s : ByteArray) (hs : s.size ≤ 70368744177664) (he : s.size % 2 = 0) : ∀ d i k acc, i + 2 * d = s.size → d + 2 < k → acc.length ≤ i →
    chanceryref1_Unhex.l0 k s acc i = some (match unhexL ((bys s).drop i) with | some l => (strOfNums (acc ++ l), 0) | none => (⟨#[]⟩, 11)) := by
  intro d
  induction d with
  | zero =>
    intro i k acc hi hk ha
    obtain ⟨k, rfl⟩ : ∃ m, k = m + 1 := ⟨k - 1, by omega⟩
    simp only [chanceryref1_Unhex.l0]
    rw [if_neg (by omega), bys_drop_end s i (by omega)]
    simp [unhexL]
  | succ d ih =>
    intro i k acc hi hk ha
    obtain ⟨k, rfl⟩ : ∃ m, k = m + 1 := ⟨k - 1, by omega⟩
    simp only [chanceryref1_Unhex.l0]
    have hr := bt_range s i
    have hr2 := bt_range s ((i + 1 : Nat) : Int)
    have c1 : (i : Int) < (s.size : Int) := by omega
    have c2 : ((i + 1 : Nat) : Int) < (s.size : Int) := by omega
    have w4 : wrap64 ((i : Int) + 1) = ((i + 1 : Nat) : Int) := (w64 (by omega)).trans (by omega)
    have w5 : wrap64 ((i : Int) + 2) = ((i + 2 : Nat) : Int) := (w64 (by omega)).trans (by omega)
    have d1 := dig_range (bt s i)
    have d2 := dig_range (bt s ((i + 1 : Nat) : Int))
    rw [if_pos c1, if_pos (Int.natCast_nonneg i), rdig_eq _ hr.1 hr.2 k (by omega), Option.bind_some, w4, if_pos (Int.natCast_nonneg _), if_pos c2, rdig_eq _ hr2.1 hr2.2 k (by omega), Option.bind_some,
      bys_drop s i (by omega), bys_drop s (i + 1) (by omega)]
    simp only [unhexL]
    by_cases h1 : dig (bt s i) < 0
    · rw [if_pos h1, if_pos h1]
    by_cases h2 : dig (bt s ((i + 1 : Nat) : Int)) < 0
    · rw [if_neg h1, if_pos h2, if_neg h1, if_pos h2]
    have e16 : wrap64 (wrap64 (16 * dig (bt s i)) + dig (bt s ((i + 1 : Nat) : Int))) % 256 = dig (bt s i) * 16 + dig (bt s ((i + 1 : Nat) : Int)) := by
      rw [w64 (n := 16 * dig (bt s i)) (by omega), w64 (by omega)]; omega
    rw [if_neg h1, if_neg h2, if_neg h1, if_neg h2, if_pos (by omega), e16, w5, ih (i + 2) k _ (by omega) (by omega) (by simp; omega)]
    cases unhexL ((bys s).drop (i + 1 + 1)) <;> simp
theorem runhex_eq (s : ByteArray) (hs : s.size ≤ 70368744177664) : chanceryref1_Unhex.f (s.size + 3) s = some (unhexS s) := by
  unfold chanceryref1_Unhex.f unhexS
  by_cases h1 : s.size % 2 = 1
  · rw [if_neg (by omega), if_pos h1]
  rw [if_pos (by omega), w64 (by omega), if_pos (by omega), if_pos (by omega), if_neg h1]
  have := runhex_l0 s hs (by omega) (s.size / 2) 0 (s.size + 3) [] (by omega) (by omega) (by simp)
  simpa using this
theorem dig_hd (c : Int) (h0 : 0 ≤ c) (h1 : c < 16) : dig (hd c) = c := by unfold dig hd; repeat' split <;> omega
theorem unhex_hex (l : List Int) (h : ∀ x ∈ l, 0 ≤ x ∧ x < 256) : unhexL (hexL l) = some l := by
  induction l with
  | nil => rfl
  | cons c l ih =>
    obtain ⟨h0, h1⟩ := h c List.mem_cons_self
    rw [hexL, unhexL, dig_hd _ (by omega) (by omega), dig_hd _ (by omega) (by omega), if_neg (by omega), if_neg (by omega), ih (fun x hx => h x (List.mem_cons_of_mem _ hx))]
    simp
    omega
theorem hexL_mem (l : List Int) (h : ∀ x ∈ l, 0 ≤ x ∧ x < 256) : ∀ x ∈ hexL l, 0 ≤ x ∧ x < 256 := by
  induction l with
  | nil => simp [hexL]
  | cons c l ih =>
    obtain ⟨h0, h1⟩ := h c List.mem_cons_self
    intro x hx
    simp only [hexL, List.mem_cons] at hx
    rcases hx with rfl | rfl | hx
    · unfold hd; split <;> omega
    · unfold hd; split <;> omega
    · exact ih (fun x hx => h x (List.mem_cons_of_mem _ hx)) x hx
theorem unhexS_hexS (b : ByteArray) : unhexS (hexS b) = (b, 0) := by
  unfold unhexS hexS
  have hl := hexL_length (bys b)
  rw [size_strOfNums, if_neg (by omega), bys_strOfNums _ (hexL_mem _ (bys_mem b)), unhex_hex _ (bys_mem b)]
  simp [strOfNums_bys]

/-! ### Compare -/
def cmpS (a b : ByteArray) : Int := Go.Lib.compareBytes a.data.toList b.data.toList
end Go.Proofs.YtgbpfoegimgcjaaOc
