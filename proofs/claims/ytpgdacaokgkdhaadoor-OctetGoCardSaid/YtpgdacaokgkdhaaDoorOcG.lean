/-
  octet's characters: Text, PutRune, and that a character's bytes are read as the character. Condition: sizes at most 2^61.
-/
import Derived.Test.YtpgdacaokgkdhaaDoorOcF
import Derived.Lib.RuneCountTail
import Derived.Laws.Runes
namespace Go.Proofs.YtpgdacaokgkdhaaDoorOc
open Go.RowKit Go.Proofs.YtpgdacaokgkdhaaDoorW.PrintWords Go.Proofs.YtpgdacaokgkdhaaDoorW.PrintMore Go.Proofs.YtpgdacaokgkdhaaDoor.PU
set_option linter.unusedSimpArgs false

theorem szL (b : ByteArray) : b.data.toList.length = b.size := by rw [Array.length_toList]; rfl
theorem decode_extract (b : ByteArray) (i : Nat) : Utf8.decode (b.extract i b.size) 0 = Utf8.decode b i := by
  rw [Go.Lib.decode_at, Go.Lib.decode_at, Go.Lib.tail_get!, Go.Lib.tail_get!, Go.Lib.tail_get!, Go.Lib.tail_get!]
  simp only [Nat.add_zero, Nat.zero_add, Nat.sub_zero]
  rw [show (b.extract i b.size).size = b.size - i by simp [ByteArray.size_extract]]
theorem decodeGo_extract (b : ByteArray) (i : Nat) (h : i < b.size) : Go.Lib.decodeGo (b.extract i b.size) = Utf8.decode b i := by
  unfold Go.Lib.decodeGo
  rw [if_neg (by simp [ByteArray.size_extract]; omega), decode_extract b i]
theorem toList_extract (b : ByteArray) (i : Nat) : (b.extract i b.size).data.toList = b.data.toList.drop i := by
  rw [ByteArray.data_extract]
  simp only [Array.toList_extract]
  rw [List.extract_eq_take_drop, List.take_of_length_le]
  rw [List.length_drop, szL]
  exact Nat.le_refl _
theorem decodeL_drop (b : ByteArray) (i : Nat) : Go.Lib.decodeL (b.data.toList.drop i) = Utf8.decode b i := by
  unfold Go.Lib.decodeL
  rw [← toList_extract b i, Array.toArray_toList]
  exact decode_extract b i
theorem width_range (b : ByteArray) (i : Nat) (h : i < b.size) : 1 ≤ (Utf8.decode b i).2 ∧ (Utf8.decode b i).2 ≤ b.size - i ∧ (Utf8.decode b i).2 ≤ 4 := by
  rw [Go.Lib.decode_at]
  refine ⟨Go.Lib.decodeN_ge1 _ _ _ _ _, ?_, ?_⟩
  · unfold Go.Lib.decodeN
    repeat' split
    all_goals simp only
    all_goals omega
  · unfold Go.Lib.decodeN
    repeat' split
    all_goals simp only
    all_goals omega
def badAt (b : ByteArray) (i : Nat) : Prop := (Utf8.decode b i).1 = 65533 ∧ (Utf8.decode b i).2 = 1
instance (b : ByteArray) (i : Nat) : Decidable (badAt b i) := by unfold badAt; infer_instance
theorem runeS_at (b : ByteArray) (i : Nat) (h : i < b.size) : runeS b i = (((Utf8.decode b i).1 : Int), ((Utf8.decode b i).2 : Int)) := by
  unfold runeS
  rw [if_neg (by omega), Int.toNat_natCast]
theorem rgood_eq (b : ByteArray) (hb : b.size ≤ 4611686018427387904) (i : Nat) (h : i < b.size) (k : Nat) (hk : 12 ≤ k) : chanceryref1_Good.f k b i = some (!decide (badAt b i)) := by
  unfold chanceryref1_Good.f
  rw [rrune_eq b hb i k hk, Option.bind_some, runeS_at b i h]
  obtain ⟨h1, _, _⟩ := width_range b i h
  show (if ((Utf8.decode b i).2 : Int) > 1 then some true else if ((Utf8.decode b i).2 : Int) = 1 then some (((Utf8.decode b i).1 : Int) != 65533) else some false) = some (!decide (badAt b i))
  by_cases a : ((Utf8.decode b i).2 : Int) > 1
  · rw [if_pos a, decide_eq_false (p := badAt b i) (fun h => by have := h.2; omega)]; rfl
  · rw [if_neg a, if_pos (by omega)]
    by_cases c : (Utf8.decode b i).1 = 65533
    · rw [decide_eq_true (p := badAt b i) ⟨c, by omega⟩, c]; rfl
    · rw [decide_eq_false (p := badAt b i) (fun h => c h.1)]
      have : (((Utf8.decode b i).1 : Int) != 65533) = true := by
        rw [bne_iff_ne]
        omega
      rw [this]; rfl
def validS (b : ByteArray) : Bool := Go.Lib.validD b.data.toList
theorem rtext_l0 (b : ByteArray) (hb : b.size ≤ 2305843009213693952) : ∀ n i k, b.size - i ≤ n → i ≤ b.size → n + 13 ≤ k → chanceryref1_Text.l0 k b i = some (Go.Lib.validGoD n (b.data.toList.drop i)) := by
  intro n
  induction n with
  | zero =>
    intro i k hn hi hk
    obtain ⟨k, rfl⟩ : ∃ m, k = m + 1 := ⟨k - 1, by omega⟩
    simp only [chanceryref1_Text.l0]
    rw [if_neg (by omega)]
    rfl
  | succ n ih =>
    intro i k hn hi hk
    obtain ⟨k, rfl⟩ : ∃ m, k = m + 1 := ⟨k - 1, by omega⟩
    simp only [chanceryref1_Text.l0]
    by_cases h : i < b.size
    · have g3 : (i : Int) < (b.size : Int) := by omega
      have hne : b.data.toList.drop i ≠ [] := by
        intro e
        have := congrArg List.length e
        rw [List.length_drop, szL, List.length_nil] at this
        omega
      obtain ⟨h1, h2, h4⟩ := width_range b i h
      rw [if_pos g3, rgood_eq b (by omega) i h k (by omega), Option.bind_some, Go.Lib.validGoD, if_neg hne, decodeL_drop b i]
      by_cases hbad : badAt b i
      · have hb2 : (Utf8.decode b i).1 = 65533 ∧ (Utf8.decode b i).2 = 1 := hbad
        rw [decide_eq_true hbad, if_neg (by simp), if_pos hb2]
      · have hb2 : ¬ ((Utf8.decode b i).1 = 65533 ∧ (Utf8.decode b i).2 = 1) := hbad
        rw [decide_eq_false hbad, if_pos (by simp), if_neg hb2, rrune_eq b (by omega) i k (by omega), Option.bind_some, runeS_at b i h]
        simp only
        rw [w64 (n := (i : Int) + ((Utf8.decode b i).2 : Int)) (by omega), ← Int.natCast_add, ih (i + (Utf8.decode b i).2) k (by omega) (by omega) (by omega), List.drop_drop]
    · rw [if_neg (by omega), Go.Lib.validGoD, if_pos]
      exact List.drop_eq_nil_of_le (by rw [szL]; omega)
theorem rtext_eq (b : ByteArray) (hb : b.size ≤ 2305843009213693952) : chanceryref1_Text.f (b.size + 13) b = some (validS b) := by
  have := rtext_l0 b hb b.size 0 (b.size + 13) (by omega) (by omega) (by omega)
  unfold chanceryref1_Text.f validS Go.Lib.validD
  rw [show (0 : Int) = ((0 : Nat) : Int) from rfl, this, szL, List.drop_zero]

/-! ### PutRune -/
def putRuneS (r : Int) : ByteArray × Int := if Utf8.valid r = true then (Utf8.encode r, 0) else (⟨#[]⟩, 10)
theorem valid_iff (r : Int) : Utf8.valid r = true ↔ ¬ (r < 0 ∨ r > 1114111 ∨ (r ≥ 55296 ∧ r ≤ 57343)) := by
  unfold Utf8.valid
  simp only [Bool.or_eq_true, Bool.and_eq_true, decide_eq_true_eq]
  omega
theorem u8_of (a : Int) (m : Nat) (h : a.toNat = m) : UInt8.ofNat a.toNat = UInt8.ofNat m := by rw [h]
theorem rputRune_eq (r : Int) (h1 : -2147483648 ≤ r) (h2 : r ≤ 2147483647) (k : Nat) (hk : 3 ≤ k) : chanceryref1_PutRune.f k r = some (putRuneS r) := by
  obtain ⟨k, rfl⟩ : ∃ m, k = m + 1 := ⟨k - 1, by omega⟩
  have hj : chanceryref1_PutRune.j0 (k + 1) r true = some (⟨#[]⟩, 10) := by simp only [chanceryref1_PutRune.j0]; rfl
  unfold chanceryref1_PutRune.f putRuneS
  rw [w64 (n := r) (by omega)]
  by_cases a1 : r < 0
  · rw [if_pos a1, hj, if_neg (fun h => (valid_iff r).1 h (.inl a1))]
  by_cases a2 : r > 1114111
  · rw [if_neg a1, if_pos a2, hj, if_neg (fun h => (valid_iff r).1 h (.inr (.inl a2)))]
  by_cases a3 : r ≥ 55296 ∧ r ≤ 57343
  · rw [if_neg a1, if_neg a2, if_pos a3.1, decide_eq_true a3.2, hj, if_neg (fun h => (valid_iff r).1 h (.inr (.inr a3)))]
  have hv : Utf8.valid r = true := (valid_iff r).2 (by omega)
  rw [if_neg a1, if_neg a2, if_pos hv]
  have e : (if r ≥ 55296 then chanceryref1_PutRune.j0 (k + 1) r (decide (r ≤ 57343)) else chanceryref1_PutRune.j0 (k + 1) r false) = chanceryref1_PutRune.j0 (k + 1) r false := by
    by_cases a4 : r ≥ 55296
    · rw [if_pos a4, decide_eq_false (by omega)]
    · rw [if_neg a4]
  rw [e]
  simp only [chanceryref1_PutRune.j0, Bool.false_eq_true, if_false]
  obtain ⟨n, rfl⟩ := Int.eq_ofNat_of_zero_le (a := r) (by omega)
  unfold Utf8.encode
  rw [if_pos hv]
  simp only [Int.toNat_natCast]
  by_cases b1 : (n : Int) < 128
  · rw [if_pos b1, if_pos (show n < 128 by omega)]
    simp only [strOfNums, List.map_cons, List.map_nil]
    rw [show ((n : Int) % 256).toNat = n by omega]
  rw [if_neg b1, if_neg (show ¬ n < 128 by omega)]
  have q1 : Int.tdiv (n : Int) 64 = (n : Int) / 64 := Int.tdiv_eq_ediv_of_nonneg (by omega)
  have q2 : Int.tmod (n : Int) 64 = (n : Int) % 64 := Int.tmod_eq_emod_of_nonneg (by omega)
  have q3 : Int.tdiv (n : Int) 4096 = (n : Int) / 4096 := Int.tdiv_eq_ediv_of_nonneg (by omega)
  have q4 : Int.tdiv (n : Int) 262144 = (n : Int) / 262144 := Int.tdiv_eq_ediv_of_nonneg (by omega)
  have q5 : Int.tmod ((n : Int) / 64) 64 = (n : Int) / 64 % 64 := Int.tmod_eq_emod_of_nonneg (by omega)
  have q6 : Int.tmod ((n : Int) / 4096) 64 = (n : Int) / 4096 % 64 := Int.tmod_eq_emod_of_nonneg (by omega)
  rw [q1, q2, q3, q4, w64 (n := (n : Int) / 64) (by omega), w64 (n := (n : Int) / 4096) (by omega), w64 (n := (n : Int) / 262144) (by omega), q5, q6, w64 (n := 128 + (n : Int) % 64) (by omega),
    w64 (n := 128 + (n : Int) / 64 % 64) (by omega), w64 (n := 128 + (n : Int) / 4096 % 64) (by omega)]
  by_cases b2 : (n : Int) < 2048
  · rw [if_pos b2, if_pos (show n < 2048 by omega), w64 (n := 192 + (n : Int) / 64) (by omega)]
    simp only [strOfNums, List.map_cons, List.map_nil]
    rw [show ((192 + (n : Int) / 64) % 256).toNat = 192 + n / 64 by omega, show ((128 + (n : Int) % 64) % 256).toNat = 128 + n % 64 by omega]
  rw [if_neg b2, if_neg (show ¬ n < 2048 by omega)]
  by_cases b3 : (n : Int) < 65536
  · rw [if_pos b3, if_pos (show n < 65536 by omega), w64 (n := 224 + (n : Int) / 4096) (by omega)]
    simp only [strOfNums, List.map_cons, List.map_nil]
    rw [show ((224 + (n : Int) / 4096) % 256).toNat = 224 + n / 4096 by omega, show ((128 + (n : Int) / 64 % 64) % 256).toNat = 128 + n / 64 % 64 by omega, show ((128 + (n : Int) % 64) % 256).toNat = 128 + n % 64 by omega]
  rw [if_neg b3, if_neg (show ¬ n < 65536 by omega), w64 (n := 240 + (n : Int) / 262144) (by omega)]
  simp only [strOfNums, List.map_cons, List.map_nil]
  rw [show ((240 + (n : Int) / 262144) % 256).toNat = 240 + n / 262144 by omega, show ((128 + (n : Int) / 4096 % 64) % 256).toNat = 128 + n / 4096 % 64 by omega, show ((128 + (n : Int) / 64 % 64) % 256).toNat = 128 + n / 64 % 64 by omega, show ((128 + (n : Int) % 64) % 256).toNat = 128 + n % 64 by omega]

theorem of_nat (n : Nat) (h : n < 256) : (UInt8.ofNat n).toNat = n := by simp; omega
theorem decode_encode (r : Int) (hv : Utf8.valid r = true) : Utf8.decode (Utf8.encode r) 0 = (r.toNat, (Utf8.encode r).size) ∧ ¬ badAt (Utf8.encode r) 0 := by
  have hn := (valid_iff r).1 hv
  obtain ⟨n, rfl⟩ := Int.eq_ofNat_of_zero_le (a := r) (by omega)
  unfold badAt
  unfold Utf8.encode
  rw [if_pos hv]
  simp only [Int.toNat_natCast]
  by_cases b1 : n < 128
  · rw [if_pos b1]
    have : Utf8.decode ⟨#[UInt8.ofNat n]⟩ 0 = (n, 1) := by
      rw [Go.Lib.decode_at]
      show Go.Lib.decodeN 1 (UInt8.ofNat n).toNat _ _ _ = _
      rw [of_nat n (by omega)]
      unfold Go.Lib.decodeN
      rw [if_pos b1]
    rw [this]
    exact ⟨rfl, fun h => by have := h.1; simp only at this; omega⟩
  rw [if_neg b1]
  by_cases b2 : n < 2048
  · rw [if_pos b2]
    have : Utf8.decode ⟨#[UInt8.ofNat (192 + n / 64), UInt8.ofNat (128 + n % 64)]⟩ 0 = (n, 2) := by
      rw [Go.Lib.decode_at]
      show Go.Lib.decodeN 2 (UInt8.ofNat (192 + n / 64)).toNat (UInt8.ofNat (128 + n % 64)).toNat _ _ = _
      rw [of_nat _ (by omega), of_nat _ (by omega)]
      unfold Go.Lib.decodeN
      rw [if_neg (by omega), if_pos (by omega), if_pos (by omega)]
      simp only [Prod.mk.injEq, and_true]
      omega
    rw [this]
    exact ⟨rfl, fun h => by have := h.2; simp only at this; omega⟩
  rw [if_neg b2]
  by_cases b3 : n < 65536
  · rw [if_pos b3]
    have : Utf8.decode ⟨#[UInt8.ofNat (224 + n / 4096), UInt8.ofNat (128 + n / 64 % 64), UInt8.ofNat (128 + n % 64)]⟩ 0 = (n, 3) := by
      rw [Go.Lib.decode_at]
      show Go.Lib.decodeN 3 (UInt8.ofNat (224 + n / 4096)).toNat (UInt8.ofNat (128 + n / 64 % 64)).toNat (UInt8.ofNat (128 + n % 64)).toNat _ = _
      rw [of_nat _ (by omega), of_nat _ (by omega), of_nat _ (by omega)]
      unfold Go.Lib.decodeN
      rw [if_neg (by omega), if_neg (by omega), if_pos (by omega), if_pos (by omega)]
      simp only [Prod.mk.injEq, and_true]
      omega
    rw [this]
    exact ⟨rfl, fun h => by have := h.2; simp only at this; omega⟩
  rw [if_neg b3]
  have : Utf8.decode ⟨#[UInt8.ofNat (240 + n / 262144), UInt8.ofNat (128 + n / 4096 % 64), UInt8.ofNat (128 + n / 64 % 64), UInt8.ofNat (128 + n % 64)]⟩ 0 = (n, 4) := by
    rw [Go.Lib.decode_at]
    show Go.Lib.decodeN 4 (UInt8.ofNat (240 + n / 262144)).toNat (UInt8.ofNat (128 + n / 4096 % 64)).toNat (UInt8.ofNat (128 + n / 64 % 64)).toNat (UInt8.ofNat (128 + n % 64)).toNat = _
    rw [of_nat _ (by omega), of_nat _ (by omega), of_nat _ (by omega), of_nat _ (by omega)]
    unfold Go.Lib.decodeN
    rw [if_neg (by omega), if_neg (by omega), if_neg (by omega), if_pos (by omega), if_pos (by omega)]
    simp only [Prod.mk.injEq, and_true]
    omega
  rw [this]
  exact ⟨rfl, fun h => by have := h.2; simp only at this; omega⟩
theorem encode_size_pos (r : Int) (hv : Utf8.valid r = true) : 0 < (Utf8.encode r).size := by
  have h := (decode_encode r hv).1
  have : 1 ≤ (Utf8.decode (Utf8.encode r) 0).2 := by rw [Go.Lib.decode_at]; exact Go.Lib.decodeN_ge1 _ _ _ _ _
  rw [h] at this
  exact this
theorem validS_encode (r : Int) (hv : Utf8.valid r = true) : validS (Utf8.encode r) = true := by
  obtain ⟨h1, h2⟩ := decode_encode r hv
  have h2' : ¬ ((Utf8.decode (Utf8.encode r) 0).1 = 65533 ∧ (Utf8.decode (Utf8.encode r) 0).2 = 1) := h2
  have hp := encode_size_pos r hv
  unfold validS Go.Lib.validD
  have hd := decodeL_drop (Utf8.encode r) 0
  rw [List.drop_zero] at hd
  have hl := szL (Utf8.encode r)
  rw [hl]
  obtain ⟨m, hm⟩ : ∃ m, (Utf8.encode r).size = m + 1 := ⟨(Utf8.encode r).size - 1, by omega⟩
  rw [hm, Go.Lib.validGoD, if_neg (fun e => by rw [e] at hl; simp at hl; omega), hd, if_neg h2', h1, List.drop_eq_nil_of_le (by omega)]
  cases m with
  | zero => rfl
  | succ m => rw [Go.Lib.validGoD, if_pos rfl]
theorem runeS_encode (r : Int) (hv : Utf8.valid r = true) : runeS (Utf8.encode r) 0 = (r, ((Utf8.encode r).size : Int)) := by
  have hp := encode_size_pos r hv
  have h := runeS_at (Utf8.encode r) 0 hp
  rw [show ((0 : Nat) : Int) = 0 from rfl] at h
  rw [h, (decode_encode r hv).1]
  have := (valid_iff r).1 hv
  simp only [Prod.mk.injEq, and_true]
  omega
end Go.Proofs.YtpgdacaokgkdhaaDoorOc
