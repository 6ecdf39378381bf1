/-
  octet's characters: the document's table of well-formed sequences tells the same character as the model's own decoder, at every place of any bytes; PutRune and Text likewise. Condition: sizes at most 2^62.
-/
import Derived.Test.YtpgdacaokgkdhaaDoorOcE
import Derived.Lib.ValidU
import Derived.Lib.DecodeNEq
import Derived.Shelf.Unicode.DecodeSlow
namespace Go.Proofs.YtpgdacaokgkdhaaDoorOc
open Go.RowKit Go.Proofs.YtpgdacaokgkdhaaDoorW.PrintWords Go.Proofs.YtpgdacaokgkdhaaDoorW.PrintMore Go.Proofs.YtpgdacaokgkdhaaDoor.PU
set_option linter.unusedSimpArgs false

theorem get_bt (b : ByteArray) (i : Nat) : ((b.get! i).toNat : Int) = bt b i := by
  unfold bt
  simp only [Int.toNat_natCast]
  obtain ⟨⟨l⟩⟩ := b
  by_cases h : i < l.length
  · rw [dif_pos (by simpa [ByteArray.size] using h)]
    simp [ByteArray.get!, h]
    rfl
  · rw [dif_neg (by simpa [ByteArray.size] using h)]
    simp [ByteArray.get!, h]
    rfl
def runeS (b : ByteArray) (i : Int) : Int × Int := if i < 0 ∨ i ≥ b.size then (0, 0) else (((Utf8.decode b i.toNat).1 : Int), ((Utf8.decode b i.toNat).2 : Int))

def fin_ (v low n : Int) : Int × Int := if v < low ∨ v > 1114111 ∨ (v ≥ 55296 ∧ v ≤ 57343) then (65533, 1) else (v, n)
theorem rl0_end (b : ByteArray) (i n v low : Int) (h0 : 0 ≤ v) (h1 : v < 2147483648) (k : Nat) : chanceryref1_Rune.l0 (k + 1) b i n v low n = some (fin_ v low n) := by
  simp only [chanceryref1_Rune.l0, fin_]
  have w : wrap32 v = v := by unfold wrap32; omega
  rw [if_neg (by omega), w]
  by_cases a1 : v < low
  · rw [if_pos a1, if_pos (.inl a1)]
  by_cases a2 : v > 1114111
  · rw [if_neg a1, if_pos a2, if_pos (.inr (.inl a2))]
  by_cases a3 : v ≥ 55296
  · by_cases a4 : v ≤ 57343
    · rw [if_neg a1, if_neg a2, if_pos a3, if_pos a4, if_pos (.inr (.inr ⟨a3, a4⟩))]
    · rw [if_neg a1, if_neg a2, if_pos a3, if_neg a4, if_neg (by omega)]
  · rw [if_neg a1, if_neg a2, if_neg a3, if_neg (by omega)]
theorem rl0_step (b : ByteArray) (hb : b.size ≤ 4611686018427387904) (i j n : Nat) (v low : Int) (h0 : 0 ≤ v) (h1 : v < 4194304) (hj : j < n) (hn : i + n ≤ b.size) (k : Nat) :
    chanceryref1_Rune.l0 (k + 1) b i n v low j = if bt b ((i + j : Nat) : Int) < 128 ∨ bt b ((i + j : Nat) : Int) > 191 then some (65533, 1) else chanceryref1_Rune.l0 k b i n (v * 64 + bt b ((i + j : Nat) : Int) - 128) low ((j + 1 : Nat) : Int) := by
  simp only [chanceryref1_Rune.l0]
  have hr := bt_range b ((i + j : Nat) : Int)
  have w1 : wrap64 ((i : Int) + (j : Int)) = ((i + j : Nat) : Int) := (w64 (by omega)).trans (by omega)
  have w2 : wrap64 (bt b ((i + j : Nat) : Int)) = bt b ((i + j : Nat) : Int) := w64 (by omega)
  have w3 : wrap64 ((j : Int) + 1) = ((j + 1 : Nat) : Int) := (w64 (by omega)).trans (by omega)
  have c0 : (j : Int) < (n : Int) := by omega
  have c1 : 0 ≤ ((i + j : Nat) : Int) := by omega
  have c2 : ((i + j : Nat) : Int) < (b.size : Int) := by omega
  rw [w1, w2, w3, if_pos c0, if_pos c1, if_pos c2]
  generalize bt b ((i + j : Nat) : Int) = x at *
  rw [w64 (n := v * 64) (by omega), w64 (n := v * 64 + x) (by omega), w64 (n := v * 64 + x - 128) (by omega)]
  by_cases a1 : x < 128
  · rw [if_pos a1, if_pos (.inl a1)]
  by_cases a2 : x > 191
  · rw [if_neg a1, if_pos a2, if_pos (.inr a2)]
  rw [if_neg a1, if_neg a2, if_neg (by omega)]
/-- the document's table as a function of the first four bytes -/
def refN (n : Nat) (c x1 x2 x3 : Int) : Int × Int :=
  if c < 128 then (c, 1) else if 194 ≤ c ∧ c ≤ 223 then (if n < 2 then (65533, 1) else if x1 < 128 ∨ x1 > 191 then (65533, 1) else fin_ ((c - 192) * 64 + x1 - 128) 128 2)
  else if 224 ≤ c ∧ c ≤ 239 then (if n < 3 then (65533, 1) else if x1 < 128 ∨ x1 > 191 then (65533, 1) else if x2 < 128 ∨ x2 > 191 then (65533, 1) else fin_ (((c - 224) * 64 + x1 - 128) * 64 + x2 - 128) 2048 3)
  else if 240 ≤ c ∧ c ≤ 244 then (if n < 4 then (65533, 1) else if x1 < 128 ∨ x1 > 191 then (65533, 1) else if x2 < 128 ∨ x2 > 191 then (65533, 1) else if x3 < 128 ∨ x3 > 191 then (65533, 1)
    else fin_ ((((c - 240) * 64 + x1 - 128) * 64 + x2 - 128) * 64 + x3 - 128) 65536 4)
  else (65533, 1)
theorem rj3 (b : ByteArray) (hb : b.size ≤ 4611686018427387904) (i n : Nat) (hi : i < b.size) (hn4 : n ≤ 4) (v low : Int) (k : Nat) :
    chanceryref1_Rune.j3 (k + 1) b i n v low = if b.size - i < n then some (65533, 1) else chanceryref1_Rune.l0 k b i n v low ((1 : Nat) : Int) := by
  simp only [chanceryref1_Rune.j3]
  rw [w64 (n := (i : Int) + (n : Int)) (by omega)]
  by_cases h : b.size - i < n
  · rw [if_pos (by omega), if_pos h]
  · rw [if_neg (by omega), if_neg h]; rfl
theorem rrune_refN (b : ByteArray) (hb : b.size ≤ 4611686018427387904) (i : Nat) (hi : i < b.size) (k : Nat) (hk : 12 ≤ k) :
    chanceryref1_Rune.f k b i = some (refN (b.size - i) (bt b i) (bt b ((i + 1 : Nat) : Int)) (bt b ((i + 2 : Nat) : Int)) (bt b ((i + 3 : Nat) : Int))) := by
  obtain ⟨k, rfl⟩ : ∃ m, k = m + 12 := ⟨k - 12, by omega⟩
  have hr := bt_range b i
  have r1 := bt_range b ((i + 1 : Nat) : Int)
  have r2 := bt_range b ((i + 2 : Nat) : Int)
  have r3 := bt_range b ((i + 3 : Nat) : Int)
  unfold chanceryref1_Rune.f refN
  have g0 : ¬ ((i : Int) < 0) := by omega
  have g1 : ¬ ((i : Int) ≥ (b.size : Int)) := by omega
  have g2 : 0 ≤ (i : Int) := by omega
  have g3 : (i : Int) < (b.size : Int) := by omega
  rw [if_neg g0, decide_eq_false g1]
  simp only [chanceryref1_Rune.j0]
  rw [if_neg (by simp), if_pos g2, if_pos g3, w64 (n := bt b i) (by omega)]
  by_cases a1 : bt b i < 128
  · have w : wrap32 (bt b i) = bt b i := by unfold wrap32; omega
    rw [if_pos a1, if_pos a1, w]
  rw [if_neg a1, if_neg a1]
  by_cases a2 : 194 ≤ bt b i
  · rw [if_pos a2]
    by_cases a3 : bt b i ≤ 223
    · rw [decide_eq_true a3, if_pos ⟨a2, a3⟩]
      simp only [chanceryref1_Rune.j1, if_true]
      rw [w64 (n := bt b i - 192) (by omega), show (2 : Int) = ((2 : Nat) : Int) from rfl, rj3 b hb i 2 hi (by omega)]
      by_cases h2 : b.size - i < 2
      · rw [if_pos h2, if_pos h2]
      rw [if_neg h2, if_neg h2, rl0_step b hb i 1 2 _ _ (by omega) (by omega) (by omega) (by omega)]
      by_cases h3 : bt b ((i + 1 : Nat) : Int) < 128 ∨ bt b ((i + 1 : Nat) : Int) > 191
      · rw [if_pos h3, if_pos h3]
      rw [if_neg h3, if_neg h3, rl0_end _ _ _ _ _ (by omega) (by omega)]
    rw [decide_eq_false a3, if_neg (fun h => a3 h.2)]
    simp only [chanceryref1_Rune.j1, if_false, Bool.false_eq_true]
    rw [if_pos (show bt b i ≥ 224 by omega)]
    by_cases a4 : bt b i ≤ 239
    · rw [decide_eq_true a4, if_pos ⟨by omega, a4⟩]
      simp only [chanceryref1_Rune.j2, if_true]
      rw [w64 (n := bt b i - 224) (by omega), show (3 : Int) = ((3 : Nat) : Int) from rfl, rj3 b hb i 3 hi (by omega)]
      by_cases h2 : b.size - i < 3
      · rw [if_pos h2, if_pos h2]
      rw [if_neg h2, if_neg h2, rl0_step b hb i 1 3 _ _ (by omega) (by omega) (by omega) (by omega)]
      by_cases h3 : bt b ((i + 1 : Nat) : Int) < 128 ∨ bt b ((i + 1 : Nat) : Int) > 191
      · rw [if_pos h3, if_pos h3]
      rw [if_neg h3, if_neg h3, rl0_step b hb i 2 3 _ _ (by omega) (by omega) (by omega) (by omega)]
      by_cases h4 : bt b ((i + 2 : Nat) : Int) < 128 ∨ bt b ((i + 2 : Nat) : Int) > 191
      · rw [if_pos h4, if_pos h4]
      rw [if_neg h4, if_neg h4, rl0_end _ _ _ _ _ (by omega) (by omega)]
    rw [decide_eq_false a4, if_neg (fun h => a4 h.2)]
    simp only [chanceryref1_Rune.j2, if_false, Bool.false_eq_true]
    rw [if_pos (show bt b i ≥ 240 by omega)]
    by_cases a5 : bt b i ≤ 244
    · rw [if_pos a5, if_pos ⟨by omega, a5⟩, w64 (n := bt b i - 240) (by omega), show (4 : Int) = ((4 : Nat) : Int) from rfl, rj3 b hb i 4 hi (by omega)]
      by_cases h2 : b.size - i < 4
      · rw [if_pos h2, if_pos h2]
      rw [if_neg h2, if_neg h2, rl0_step b hb i 1 4 _ _ (by omega) (by omega) (by omega) (by omega)]
      by_cases h3 : bt b ((i + 1 : Nat) : Int) < 128 ∨ bt b ((i + 1 : Nat) : Int) > 191
      · rw [if_pos h3, if_pos h3]
      rw [if_neg h3, if_neg h3, rl0_step b hb i 2 4 _ _ (by omega) (by omega) (by omega) (by omega)]
      by_cases h4 : bt b ((i + 2 : Nat) : Int) < 128 ∨ bt b ((i + 2 : Nat) : Int) > 191
      · rw [if_pos h4, if_pos h4]
      rw [if_neg h4, if_neg h4, rl0_step b hb i 3 4 _ _ (by omega) (by omega) (by omega) (by omega)]
      by_cases h5 : bt b ((i + 3 : Nat) : Int) < 128 ∨ bt b ((i + 3 : Nat) : Int) > 191
      · rw [if_pos h5, if_pos h5]
      rw [if_neg h5, if_neg h5, rl0_end _ _ _ _ _ (by omega) (by omega)]
    rw [if_neg a5, if_neg (fun h => a5 h.2)]
  · rw [if_neg a2, if_neg (fun h => a2 h.1), if_neg (fun h => a2 (by omega)), if_neg (fun h => a2 (by omega))]
    simp only [chanceryref1_Rune.j1, chanceryref1_Rune.j2, if_false, Bool.false_eq_true]
    rw [if_neg (by omega), if_neg (by omega)]
theorem ref_slow (n b0 b1 b2 b3 sz lo hi : Nat) (h1 : b1 < 256) (h2 : b2 < 256) (h3 : b3 < 256)
    (h : (194 ≤ b0 ∧ b0 < 224 ∧ sz = 2 ∧ lo = 128 ∧ hi = 191) ∨ (b0 = 224 ∧ sz = 3 ∧ lo = 160 ∧ hi = 191) ∨ (((225 ≤ b0 ∧ b0 < 237) ∨ (238 ≤ b0 ∧ b0 < 240)) ∧ sz = 3 ∧ lo = 128 ∧ hi = 191) ∨ (b0 = 237 ∧ sz = 3 ∧ lo = 128 ∧ hi = 159) ∨
      (b0 = 240 ∧ sz = 4 ∧ lo = 144 ∧ hi = 191) ∨ (241 ≤ b0 ∧ b0 < 244 ∧ sz = 4 ∧ lo = 128 ∧ hi = 191) ∨ (b0 = 244 ∧ sz = 4 ∧ lo = 128 ∧ hi = 143)) :
    refN n b0 b1 b2 b3 = (((Go.Lib.slowN n b0 b1 b2 b3 sz lo hi).1 : Int), ((Go.Lib.slowN n b0 b1 b2 b3 sz lo hi).2 : Int)) := by
  obtain ⟨S, hS⟩ : ∃ S, Go.Lib.slowN n b0 b1 b2 b3 sz lo hi = S := ⟨_, rfl⟩
  rw [hS]
  unfold Go.Lib.slowN at hS
  unfold refN fin_
  rw [if_neg (show ¬ ((b0 : Int) < 128) by omega)]
  by_cases a2 : (194 : Int) ≤ b0 ∧ (b0 : Int) ≤ 223
  · rw [if_pos a2]
    repeat' (split at hS)
    all_goals subst hS
    all_goals repeat' split
    all_goals first | rfl | (exfalso; omega) | (simp only [Prod.mk.injEq]; omega)
  rw [if_neg a2]
  by_cases a3 : (224 : Int) ≤ b0 ∧ (b0 : Int) ≤ 239
  · rw [if_pos a3]
    repeat' (split at hS)
    all_goals subst hS
    all_goals repeat' split
    all_goals first | rfl | (exfalso; omega) | (simp only [Prod.mk.injEq]; omega)
  rw [if_neg a3, if_pos (show (240 : Int) ≤ b0 ∧ (b0 : Int) ≤ 244 by omega)]
  repeat' (split at hS)
  all_goals subst hS
  all_goals repeat' split
  all_goals first | rfl | (exfalso; omega) | (simp only [Prod.mk.injEq]; omega)
theorem refN_decodeN (n b0 b1 b2 b3 : Nat) (hn : 1 ≤ n) (h0 : b0 < 256) (h1 : b1 < 256) (h2 : b2 < 256) (h3 : b3 < 256) :
    refN n b0 b1 b2 b3 = (((Go.Lib.decodeN n b0 b1 b2 b3).1 : Int), ((Go.Lib.decodeN n b0 b1 b2 b3).2 : Int)) := by
  by_cases a1 : b0 < 128
  · rw [Go.Lib.ascii_eq n b0 b1 b2 b3 (by unfold Go.Lib.firstT; rw [if_pos a1])]
    unfold refN
    rw [if_pos (by omega)]
    rfl
  by_cases a2 : b0 < 194 ∨ 244 < b0
  · rw [Go.Lib.bad_eq n b0 b1 b2 b3 h0 (by unfold Go.Lib.firstT; (repeat' split) <;> omega)]
    unfold refN
    rw [if_neg (by omega), if_neg (by omega), if_neg (by omega), if_neg (by omega)]
    rfl
  by_cases c1 : b0 < 224
  · rw [← Go.Lib.slow_C2 n b0 b1 b2 b3 hn h1 h2 h3 (by omega)]; exact ref_slow n b0 b1 b2 b3 _ _ _ h1 h2 h3 (by omega)
  by_cases c2 : b0 = 224
  · rw [← Go.Lib.slow_E0 n b0 b1 b2 b3 hn h1 h2 h3 c2]; exact ref_slow n b0 b1 b2 b3 _ _ _ h1 h2 h3 (by omega)
  by_cases c3 : b0 = 237
  · rw [← Go.Lib.slow_ED n b0 b1 b2 b3 hn h1 h2 h3 c3]; exact ref_slow n b0 b1 b2 b3 _ _ _ h1 h2 h3 (by omega)
  by_cases c4 : b0 < 240
  · rw [← Go.Lib.slow_E1 n b0 b1 b2 b3 hn h1 h2 h3 (by omega)]; exact ref_slow n b0 b1 b2 b3 _ _ _ h1 h2 h3 (by omega)
  by_cases c5 : b0 = 240
  · rw [← Go.Lib.slow_F0 n b0 b1 b2 b3 hn h1 h2 h3 c5]; exact ref_slow n b0 b1 b2 b3 _ _ _ h1 h2 h3 (by omega)
  by_cases c6 : b0 = 244
  · rw [← Go.Lib.slow_F4 n b0 b1 b2 b3 hn h1 h2 h3 c6]; exact ref_slow n b0 b1 b2 b3 _ _ _ h1 h2 h3 (by omega)
  rw [← Go.Lib.slow_F1 n b0 b1 b2 b3 hn h1 h2 h3 (by omega)]; exact ref_slow n b0 b1 b2 b3 _ _ _ h1 h2 h3 (by omega)
theorem rrune_eq (b : ByteArray) (hb : b.size ≤ 4611686018427387904) (i : Int) (k : Nat) (hk : 12 ≤ k) : chanceryref1_Rune.f k b i = some (runeS b i) := by
  unfold runeS
  by_cases h : i < 0 ∨ i ≥ b.size
  · rw [if_pos h]
    obtain ⟨k, rfl⟩ : ∃ m, k = m + 1 := ⟨k - 1, by omega⟩
    unfold chanceryref1_Rune.f
    by_cases h0 : i < 0
    · rw [if_pos h0]; simp only [chanceryref1_Rune.j0]; rfl
    · rw [if_neg h0, decide_eq_true (by omega)]; simp only [chanceryref1_Rune.j0]; rfl
  · rw [if_neg h]
    obtain ⟨i, rfl⟩ := Int.eq_ofNat_of_zero_le (a := i) (by omega)
    rw [rrune_refN b hb i (by omega) k hk, Int.toNat_natCast, Go.Lib.decode_at, ← get_bt, ← get_bt, ← get_bt, ← get_bt,
      refN_decodeN _ _ _ _ _ (by omega) (UInt8.toNat_lt _) (UInt8.toNat_lt _) (UInt8.toNat_lt _) (UInt8.toNat_lt _)]
end Go.Proofs.YtpgdacaokgkdhaaDoorOc
