/-
  secret: the document's own answers come to the same plain values. Condition: none on the texts but Go's own sizes.
-/
import Derived.Test.YtgbpfoegimgcjaaSecD
namespace Go.Proofs.YtgbpfoegimgcjaaOc
open Go.Proofs.YtgbpfoegimgcjaaCls Go.RowKit Go.Proofs.YtgbpfoegimgcjaaW.PrintWords Go.Proofs.YtgbpfoegimgcjaaW.PrintMore Go.Proofs.Ytgbpfoegimgcjaa.PU
set_option linter.unusedVariables false
set_option linter.unusedSimpArgs false

theorem hexS_append (a b : ByteArray) : hexS (a ++ b) = hexS a ++ hexS b := by
  apply bys_inj
  rw [bys_append, bys_hexS, bys_hexS, bys_hexS, bys_append, hexL_append]
theorem rsum_k (b : ByteArray) (hb : b.size ≤ 4611686018427387904) (k : Nat) (hk : b.size < k) : chanceryref1_Sum.f k b = some (sumS b) := by
  have := rsum_l0 b hb b.size 0 k 2166136261 (by omega) hk (by omega) (by omega)
  unfold chanceryref1_Sum.f sumS
  simpa using this
theorem rhex_k (b : ByteArray) (hb : b.size ≤ 35184372088832) (k : Nat) (hk : b.size < k) : chanceryref1_Hex.f k b = some (hexS b) := by
  unfold chanceryref1_Hex.f hexS
  rw [w64 (by omega), if_pos (by omega), if_pos (by omega)]
  have := rhex_l0 b hb b.size 0 k [] (by omega) hk rfl
  simpa using this
theorem runhex_k (s : ByteArray) (hs : s.size ≤ 70368744177664) (k : Nat) (hk : s.size + 2 < k) : chanceryref1_Unhex.f k s = some (unhexS s) := by
  unfold chanceryref1_Unhex.f unhexS
  by_cases h1 : s.size % 2 = 1
  · rw [if_neg (by omega), if_pos h1]
  rw [if_pos (by omega), w64 (by omega), if_pos (by omega), if_pos (by omega), if_neg h1]
  have := runhex_l0 s hs (by omega) (s.size / 2) 0 k [] (by omega) (by omega) (by simp)
  simpa using this
/-- the sums' bytes when k of them are there -/
def allSums (b p : ByteArray) : Nat → ByteArray
  | 0 => ⟨#[]⟩
  | k + 1 => allSums b p k ++ b4 (xk b p k)
theorem allSums_size (b p : ByteArray) (k : Nat) : (allSums b p k).size = 4 * k := by
  induction k with
  | zero => rfl
  | succ k ih => simp only [allSums, ByteArray.size_append, ih, b4_size]; omega
theorem secPart_eq (b p : ByteArray) (k : Nat) : secPart b p k = (⟨#[123, 83, 125]⟩ : ByteArray) ++ hexS b ++ ⟨#[46]⟩ ++ hexS (allSums b p k) := by
  induction k with
  | zero =>
    apply bys_inj
    simp only [secPart, allSums, bys_append, bys_hexS]
    simp [bys, hexL]
  | succ k ih =>
    rw [secPart, ih, allSums, hexS_append]
    apply bys_inj
    simp only [bys_append, List.append_assoc]
theorem rhide_l0 (b p : ByteArray) (hb : b.size = 4) (hp : p.size ≤ 1024) : ∀ d (i k : Nat), i + d = 4 → d + 3000 < k → chanceryref17_Hide.l0 k p b (allSums b p i) i = some (secPart b p 4, 0) := by
  intro d
  induction d with
  | zero =>
    intro i k hi hk
    obtain rfl : i = 4 := by omega
    obtain ⟨k, rfl⟩ : ∃ m, k = m + 1 := ⟨k - 1, by omega⟩
    simp only [chanceryref17_Hide.l0]
    have hz := allSums_size b p 4
    have z1 := hexS_size b
    have z2 := hexS_size (allSums b p 4)
    have z3 : ((⟨#[123, 83, 125]⟩ : ByteArray) ++ hexS b).size = 3 + 2 * b.size := by rw [ByteArray.size_append, z1]; rfl
    have z4 : (((⟨#[123, 83, 125]⟩ : ByteArray) ++ hexS b) ++ (⟨#[46]⟩ : ByteArray)).size = 3 + 2 * b.size + 1 := by rw [ByteArray.size_append, z3]; rfl
    rw [if_neg (by omega), rhex_k b (by omega) k (by omega), Option.bind_some, if_pos (by omega), if_pos (by omega), rhex_k _ (by omega) k (by omega), Option.bind_some, if_pos (by omega), secPart_eq]
  | succ d ih =>
    intro i k hi hk
    obtain ⟨k, rfl⟩ : ∃ m, k = m + 1 := ⟨k - 1, by omega⟩
    simp only [chanceryref17_Hide.l0]
    have w4 : wrap64 ((i : Int) + 1) = ((i + 1 : Nat) : Int) := (w64 (by omega)).trans (by omega)
    have e : (i : Int) % 256 = i := by omega
    have hx := xk_range b p i
    have s0 : (strOfNums [(i : Int)]).size = 1 := by rw [size_strOfNums]; rfl
    have s1 : (strOfNums [(i : Int)] ++ b).size = 1 + b.size := by rw [ByteArray.size_append, s0]
    have s2 : (strOfNums [(i : Int)] ++ b ++ p).size = 1 + b.size + p.size := by rw [ByteArray.size_append, s1]
    have s3 : (strOfNums [(i : Int)] ++ b ++ p ++ b).size = 1 + b.size + p.size + b.size := by rw [ByteArray.size_append, s2]
    have s4 : (strOfNums [(i : Int)] ++ b ++ p ++ b ++ p).size = 1 + b.size + p.size + b.size + p.size := by rw [ByteArray.size_append, s3]
    have s5 := allSums_size b p i
    have s6 := b4_size (xk b p i)
    rw [if_pos (by omega), Option.bind_some, e, if_pos (by omega), if_pos (by omega), if_pos (by omega), if_pos (by omega), rsum_k _ (by omega) k (by omega), Option.bind_some]
    show ((chanceryref1_Put.f k (xk b p i) 4).bind _) = _
    rw [rput_eq _ _ (by omega) k (by omega), Option.bind_some, putS_ok _ hx.1 hx.2, w4]
    show (if (allSums b p i).size + (b4 (xk b p i)).size ≤ _ then _ else _) = _
    rw [if_pos (by omega)]
    exact ih (i + 1) k (by omega) (by omega)
theorem rhide_eq (salt : Int) (hs : salt ≤ 9223372036854775807) (p : ByteArray) (k : Nat) (hk : 4000 ≤ k) : chanceryref17_Hide.f k salt p = some (hideS salt p) := by
  unfold chanceryref17_Hide.f hideS
  rw [rput_eq _ _ hs k (by omega), Option.bind_some]
  by_cases h : 0 ≤ salt ∧ salt < 4294967296
  · rw [putS_ok _ h.1 h.2, if_pos rfl]
    rw [if_neg (c := ¬ (0 ≤ salt ∧ salt < 4294967296)) (fun hn => hn h)]
    by_cases h2 : 1024 < p.size
    · rw [if_pos (c := (p.size : Int) > 1024) (by omega), if_pos h2]
    · rw [if_neg (c := (p.size : Int) > 1024) (by omega), if_neg h2]
      exact rhide_l0 (b4 salt) p (b4_size salt) (by omega) 4 0 k (by omega) (by omega)
  · rw [putS_no _ h, if_neg (by decide), if_pos h]

/-! ### Hidden -/
/-- a small hexadecimal digit -/
def isSm (c : Int) : Bool := decide (0 ≤ dig c) && !(decide (65 ≤ c) && decide (c ≤ 70))
theorem hd_dig (c : Int) (h : isSm c = true) : hd (dig c) = c ∧ 0 ≤ dig c ∧ dig c < 16 := by
  simp only [isSm, Bool.and_eq_true, decide_eq_true_eq, Bool.not_eq_true', Bool.and_eq_false_iff, decide_eq_false_iff_not] at h
  unfold dig at h ⊢
  unfold hd
  repeat' split at h
  all_goals (first | omega | (repeat' split) <;> omega)
theorem isSm_hd (c : Int) (h0 : 0 ≤ c) (h1 : c < 16) : isSm (hd c) = true := by
  simp only [isSm, Bool.and_eq_true, decide_eq_true_eq, Bool.not_eq_true', Bool.and_eq_false_iff, decide_eq_false_iff_not]
  rw [dig_hd c h0 h1]
  unfold hd
  split <;> omega
theorem small_l0 (s : ByteArray) (hs : s.size ≤ 4611686018427387904) : ∀ d (i k : Nat), i + d = s.size → d + 2 < k → chanceryref17_small.l0 k s i = some (((bys s).drop i).all isSm) := by
  intro d
  induction d with
  | zero =>
    intro i k hi hk
    obtain ⟨k, rfl⟩ : ∃ m, k = m + 1 := ⟨k - 1, by omega⟩
    simp only [chanceryref17_small.l0]
    rw [if_neg (by omega), bys_drop_end s i (by omega)]
    rfl
  | succ d ih =>
    intro i k hi hk
    obtain ⟨k, rfl⟩ : ∃ m, k = m + 1 := ⟨k - 1, by omega⟩
    simp only [chanceryref17_small.l0]
    have hr := bt_range s i
    have w4 : wrap64 ((i : Int) + 1) = ((i + 1 : Nat) : Int) := (w64 (by omega)).trans (by omega)
    rw [if_pos (by omega), if_pos (by omega), rdig_eq _ hr.1 hr.2 k (by omega), Option.bind_some, w4, ih (i + 1) k (by omega) (by omega), bys_drop s i (by omega), List.all_cons]
    by_cases h1 : dig (bt s i) < 0
    · rw [if_pos h1]
      have : isSm (bt s i) = false := by simp only [isSm, Bool.and_eq_false_iff, decide_eq_false_iff_not]; exact .inl (by omega)
      rw [this]; rfl
    rw [if_neg h1]
    by_cases h2 : bt s i ≥ 65
    · rw [if_pos h2]
      by_cases h3 : bt s i ≤ 70
      · rw [if_pos h3]
        have : isSm (bt s i) = false := by simp [isSm]; intro; omega
        rw [this]; rfl
      · rw [if_neg h3]
        have : isSm (bt s i) = true := by simp [isSm]; omega
        rw [this]; rfl
    · rw [if_neg h2]
      have : isSm (bt s i) = true := by simp [isSm]; omega
      rw [this]; rfl
theorem small_eq (s : ByteArray) (hs : s.size ≤ 4611686018427387904) (k : Nat) (hk : s.size + 2 < k) : chanceryref17_small.f k s = some ((bys s).all isSm) := by
  have := small_l0 s hs s.size 0 k (by omega) hk
  unfold chanceryref17_small.f
  simpa using this
theorem small_hex : ∀ (n : Nat) (l : List Int), l.length = 2 * n → l.all isSm = true → ∃ r, r.length = n ∧ hexL r = l ∧ ∀ x ∈ r, 0 ≤ x ∧ x < 256 := by
  intro n
  induction n with
  | zero => intro l hl _; exact ⟨[], rfl, by cases l with | nil => rfl | cons a l => simp at hl, by simp⟩
  | succ n ih =>
    intro l hl ha
    obtain ⟨a, l, rfl⟩ : ∃ a l', l = a :: l' := by cases l with | nil => simp at hl | cons a l => exact ⟨_, _, rfl⟩
    obtain ⟨b, l, rfl⟩ : ∃ a l', l = a :: l' := by cases l with | nil => simp at hl; omega | cons a l => exact ⟨_, _, rfl⟩
    simp only [List.all_cons, Bool.and_eq_true] at ha
    obtain ⟨r, hr, he, hm⟩ := ih l (by simp at hl; omega) ha.2.2
    obtain ⟨a1, a2, a3⟩ := hd_dig a ha.1
    obtain ⟨b1, b2, b3⟩ := hd_dig b ha.2.1
    refine ⟨(dig a * 16 + dig b) :: r, by simp [hr], ?_, ?_⟩
    · rw [hexL, he, show (dig a * 16 + dig b) / 16 = dig a by omega, show (dig a * 16 + dig b) % 16 = dig b by omega, a1, b1]
    · intro x hx
      rcases List.mem_cons.1 hx with rfl | hx
      · omega
      · exact hm x hx
theorem hex_small (l : List Int) (h : ∀ x ∈ l, 0 ≤ x ∧ x < 256) : (hexL l).all isSm = true := by
  induction l with
  | nil => rfl
  | cons c l ih =>
    obtain ⟨h0, h1⟩ := h c List.mem_cons_self
    simp only [hexL, List.all_cons, Bool.and_eq_true]
    exact ⟨isSm_hd _ (by omega) (by omega), isSm_hd _ (by omega) (by omega), ih fun x hx => h x (List.mem_cons_of_mem _ hx)⟩
theorem small_str (s : ByteArray) (n : Nat) (hs : s.size = 2 * n) (h : (bys s).all isSm = true) : ∃ b : ByteArray, b.size = n ∧ hexS b = s := by
  obtain ⟨r, hr, he, hm⟩ := small_hex n (bys s) (by rw [bys_length, hs]) h
  refine ⟨strOfNums r, by rw [size_strOfNums, hr], bys_inj ?_⟩
  rw [bys_hexS, bys_strOfNums _ hm, he]
theorem rhidden_eq (s : ByteArray) (k : Nat) (hk : 100 ≤ k) : ∃ r : Bool, chanceryref17_Hidden.f k s = some r ∧ (r = true ↔ isHid s) := by
  unfold chanceryref17_Hidden.f
  by_cases hy : isHid s
  · obtain ⟨S, R, hS, hR, rfl⟩ := hy
    have h1 : (hidden S R).size = 44 := by rw [hidden_size]; omega
    refine ⟨true, ?_, by simp only [true_iff]; exact ⟨S, R, hS, hR, rfl⟩⟩
    rw [if_pos (by omega), if_pos (by omega), if_pos (by omega), hidden_0, if_pos (by rw [Go.Lib.toList_data]), if_pos (by omega), hidden_11 hS, if_pos rfl, if_pos (by omega), if_pos (by omega), hidden_3 hS,
      small_eq _ (by rw [hexS_size]; omega) k (by rw [hexS_size]; omega), Option.bind_some, bys_hexS, hex_small _ (bys_mem S), if_pos rfl, if_pos (by omega), h1, hidden_12 hS hR,
      small_eq _ (by rw [hexS_size]; omega) k (by rw [hexS_size]; omega), Option.bind_some, bys_hexS, hex_small _ (bys_mem R)]
  · by_cases h1 : s.size = 44
    · rw [if_pos (by omega), if_pos (by omega), if_pos (by omega)]
      by_cases h2 : (s.extract 0 3).toList = ([123, 83, 125] : List UInt8)
      · rw [if_pos h2, if_pos (by omega)]
        by_cases h3 : bt s 11 = 46
        · have y1 : (s.extract 3 11).size = 8 := by simp; omega
          have y2 : (s.extract 12 44).size = 32 := by simp; omega
          rw [if_pos h3, if_pos (by omega), if_pos (by omega), small_eq _ (by omega) k (by omega), Option.bind_some, h1]
          cases h4 : (bys (s.extract 3 11)).all isSm
          · exact ⟨false, by simp, by simp [hy]⟩
          · rw [if_pos rfl, if_pos (by omega), small_eq _ (by omega) k (by omega), Option.bind_some]
            cases h5 : (bys (s.extract 12 44)).all isSm
            · exact ⟨false, rfl, by simp [hy]⟩
            · exfalso
              obtain ⟨S, hS, eS⟩ := small_str _ 4 (by omega) h4
              obtain ⟨R, hR, eR⟩ := small_str _ 16 (by omega) h5
              refine hy ⟨S, R, hS, hR, ?_⟩
              rw [hidden, eS, eR]
              exact split44 s h1 h2 h3
        · rw [if_neg h3]; exact ⟨false, rfl, by simp [hy]⟩
      · rw [if_neg h2]; exact ⟨false, rfl, by simp [hy]⟩
    · rw [if_neg (by omega)]; exact ⟨false, rfl, by simp [hy]⟩
end Go.Proofs.YtgbpfoegimgcjaaOc
