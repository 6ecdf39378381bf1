/-
  OctetHexes: the law's call answers true at every two strings. Condition: Go's two tables lie as laid; sizes as Go has them.
-/
import Derived.Test.YtpgdacaokgkdhaaDoorOcNumbers
import Derived.Test.YtpgdacaokgkdhaaDoorOcSums
namespace Go.Proofs.YtpgdacaokgkdhaaDoorOc
open Go.RowKit Go.Proofs.YtpgdacaokgkdhaaDoorW.PrintWords Go.Proofs.YtpgdacaokgkdhaaDoorW.PrintMore Go.Proofs.YtpgdacaokgkdhaaDoor.PU

theorem data_drop (a : ByteArray) (i : Nat) (h : i < a.size) : ∃ c : UInt8, a.data.toList.drop i = c :: a.data.toList.drop (i + 1) ∧ bt a i = (c.toNat : Int) := by
  refine ⟨a[i], ?_, ?_⟩
  · rw [List.drop_eq_getElem_cons (by rw [szL]; exact h)]
    rfl
  · unfold bt
    rw [dif_pos (by simpa using h)]
    rfl
theorem data_end (a : ByteArray) (i : Nat) (h : a.size ≤ i) : a.data.toList.drop i = [] := List.drop_eq_nil_of_le (by rw [szL]; exact h)
theorem rcmp_l0 (a b : ByteArray) (ha : a.size ≤ 4611686018427387904) (_hb : b.size ≤ 4611686018427387904) : ∀ d i k, a.size - i ≤ d → i ≤ a.size → i ≤ b.size → 2 * d + 2 ≤ k →
    chanceryref1_Compare.l0 k a b i = some (Go.Lib.compareBytes (a.data.toList.drop i) (b.data.toList.drop i)) := by
  intro d
  induction d with
  | zero =>
    intro i k hd h1 h2 hk
    obtain ⟨k, rfl⟩ : ∃ m, k = m + 2 := ⟨k - 2, by omega⟩
    simp only [chanceryref1_Compare.l0]
    rw [if_neg (by omega)]
    simp only [chanceryref1_Compare.j1]
    rw [if_neg (by simp), data_end a i (by omega)]
    by_cases h : i < b.size
    · obtain ⟨c, hc, _⟩ := data_drop b i h
      rw [hc, if_pos (by omega)]
      rfl
    · rw [data_end b i (by omega), if_neg (by omega), if_neg (by omega)]
      rfl
  | succ d ih =>
    intro i k hd h1 h2 hk
    obtain ⟨k, rfl⟩ : ∃ m, k = m + 2 := ⟨k - 2, by omega⟩
    simp only [chanceryref1_Compare.l0]
    by_cases h : i < a.size
    · obtain ⟨c, hc, hc'⟩ := data_drop a i h
      have g1 : (i : Int) < (a.size : Int) := by omega
      rw [if_pos g1]
      simp only [chanceryref1_Compare.j1]
      by_cases h' : i < b.size
      · obtain ⟨e, he, he'⟩ := data_drop b i h'
        have g2 : (i : Int) < (b.size : Int) := by omega
        rw [decide_eq_true g2, if_pos rfl, if_pos (Int.natCast_nonneg i), if_pos g1, if_pos g2, hc', he', hc, he]
        simp only [Go.Lib.compareBytes, UInt8.lt_iff_toNat_lt]
        by_cases q1 : c.toNat < e.toNat
        · rw [if_pos (by omega), if_pos q1]
        by_cases q2 : e.toNat < c.toNat
        · rw [if_neg (by omega), if_pos (by omega), if_neg q1, if_pos q2]
        · rw [if_neg (by omega), if_neg (by omega), if_neg q1, if_neg q2, show wrap64 ((i : Int) + 1) = ((i + 1 : Nat) : Int) from (w64 (by omega)).trans (by omega)]
          exact ih (i + 1) k (by omega) (by omega) (by omega) (by omega)
      · rw [decide_eq_false (show ¬ (i : Int) < (b.size : Int) by omega), if_neg (by simp), if_neg (by omega), if_pos (by omega), hc, data_end b i (by omega)]
        rfl
    · have g1 : ¬ (i : Int) < (a.size : Int) := by omega
      rw [if_neg g1]
      simp only [chanceryref1_Compare.j1]
      rw [if_neg (by simp), data_end a i (by omega)]
      by_cases h : i < b.size
      · obtain ⟨c, hc, _⟩ := data_drop b i h
        rw [hc, if_pos (by omega)]
        rfl
      · rw [data_end b i (by omega), if_neg (by omega), if_neg (by omega)]
        rfl
theorem rcmp_eq (a b : ByteArray) (ha : a.size ≤ 4611686018427387904) (hb : b.size ≤ 4611686018427387904) : chanceryref1_Compare.f (2 * a.size + 2) a b = some (cmpS a b) :=
  rcmp_l0 a b ha hb a.size 0 _ (by omega) (by omega) (by omega) (by omega)

set_option maxHeartbeats 1000000 in
theorem hexes_yes (a b s h : ByteArray) (e z x : Int) (w : World) (hT : Tabs w) (d1 : decide ((70000 : Int) < (a.size : Int)) = false) (d2 : decide ((70000 : Int) < (b.size : Int)) = false)
    (k1 : Hid (∀ W, Calls Tryd.prog 21 #[.string a] W fun e' w' => e' = .returned (.tuple #[.string s, .int .i64 e]) ∧ Below W.heap.size W w'))
    (k2 : Hid (∀ W, Calls Tryd.prog 22 #[.string a] W fun e' w' => e' = .returned (.tuple #[.string s, .int .i64 e]) ∧ Below W.heap.size W w'))
    (k3 : Hid (∀ W, Calls Tryd.prog 23 #[.string b] W fun e' w' => e' = .returned (.string h) ∧ Below W.heap.size W w'))
    (k4 : Hid (∀ W, Calls Tryd.prog 24 #[.string b] W fun e' w' => e' = .returned (.string h) ∧ Below W.heap.size W w'))
    (k5 : Hid (∀ W, Calls Tryd.prog 11 #[.string a, .string b] W fun e' w' => e' = .returned (.int .i64 z) ∧ Below W.heap.size W w'))
    (k6 : Hid (∀ W, Calls Tryd.prog 25 #[.string a, .string b] W fun e' w' => e' = .returned (.int .i64 z) ∧ Below W.heap.size W w'))
    (k7 : Hid (∀ W, Calls Tryd.prog 12 #[.string a] W fun e' w' => e' = .returned (.int .i64 x) ∧ Below W.heap.size W w'))
    (k8 : Hid (∀ W, Calls Tryd.prog 26 #[.string a] W fun e' w' => e' = .returned (.int .i64 x) ∧ Below W.heap.size W w')) :
    Calls Tryd.prog 6 #[.string a, .string b] w fun e w' => e = .returned (.bool true) ∧ Below w.heap.size w w' := by
  have HT := Lib.hid hT
  clear hT
  go_enter Tryd.func6, Tryd.ntmps6
  go_wp2_with (first
    | (go_at_call 21; with_reducible (refine (k1.out _).mono ?_); rintro e w1 ⟨rfl, hb1⟩)
    | (go_at_call 22; with_reducible (refine (k2.out _).mono ?_); rintro e w2 ⟨rfl, hb2⟩; replace hb2 := bstep hb1 hb2; clear hb1)
    | (go_at_call 10; refine (c_alive _ (Tabs.below HT.out hb2 (Nat.le_refl _))).mono ?_; rintro e w3 ⟨rfl, hb3⟩; replace hb3 := bstep hb2 hb3; clear hb2)
    | (go_at_call 23; with_reducible (refine (k3.out _).mono ?_); rintro e w4 ⟨rfl, hb4⟩; replace hb4 := bstep hb3 hb4; clear hb3)
    | (go_at_call 24; with_reducible (refine (k4.out _).mono ?_); rintro e w5 ⟨rfl, hb5⟩; replace hb5 := bstep hb4 hb5; clear hb4)
    | (go_at_call 11; with_reducible (refine (k5.out _).mono ?_); rintro e w6 ⟨rfl, hb6⟩; replace hb6 := bstep hb5 hb6; clear hb5)
    | (go_at_call 25; with_reducible (refine (k6.out _).mono ?_); rintro e w7 ⟨rfl, hb7⟩; replace hb7 := bstep hb6 hb7; clear hb6)
    | (go_at_call 12; with_reducible (refine (k7.out _).mono ?_); rintro e w8 ⟨rfl, hb8⟩; replace hb8 := bstep hb7 hb8; clear hb7)
    | (go_at_call 26; with_reducible (refine (k8.out _).mono ?_); rintro e w9 ⟨rfl, hb9⟩; replace hb9 := bstep hb8 hb9; clear hb8))
  go_ret
  exact ⟨rfl, hb9⟩
theorem walk_OctetHexes (a b : ByteArray) (_ha : a.size ≤ 140737488351232) (_hb : b.size ≤ 140737488351232) (w : World) (hT : Tabs w) :
    Calls Tryd.prog 6 #[.string a, .string b] w fun e w' => e = .returned (.bool true) ∧ Below w.heap.size w w' := by
  by_cases h1 : (70000 : Int) < (a.size : Int)
  · have d1 := decide_eq_true h1
    go_enter Tryd.func6, Tryd.ntmps6
    go_wp2_with (go_at_call 10; refine (c_alive _ hT).mono ?_; rintro e w' ⟨rfl, hb⟩)
    go_ret
    exact ⟨rfl, hb⟩
  have d1 : decide ((70000 : Int) < (a.size : Int)) = false := decide_eq_false h1
  by_cases h2 : (70000 : Int) < (b.size : Int)
  · have d2 := decide_eq_true h2
    go_enter Tryd.func6, Tryd.ntmps6
    go_wp2_with (go_at_call 10; refine (c_alive _ hT).mono ?_; rintro e w' ⟨rfl, hb⟩)
    go_ret
    exact ⟨rfl, hb⟩
  have d2 : decide ((70000 : Int) < (b.size : Int)) = false := decide_eq_false h2
  exact hexes_yes a b (unhexS a).1 (hexS b) (unhexS a).2 (cmpS a b) (sumS a) w hT d1 d2 (Lib.hid fun W => octet_Unhex.calls (a.size + 3) a _ _ W (unhex_eq a (by omega))) (Lib.hid fun W => chanceryref1_Unhex.calls (a.size + 3) a _ _ W (runhex_eq a (by omega)))
    (Lib.hid fun W => c_Hex b (by omega) W) (Lib.hid fun W => chanceryref1_Hex.calls (b.size + 1) b _ W (rhex_eq b (by omega))) (Lib.hid fun W => (c_Compare a b W).mono fun _ _ ⟨he, hw⟩ => ⟨he, by rw [hw]; exact Below.refl _ _⟩)
    (Lib.hid fun W => (chanceryref1_Compare.calls (2 * a.size + 2) a b _ W (rcmp_eq a b (by omega) (by omega))).mono fun _ _ ⟨he, hd⟩ => ⟨he, hd.below⟩) (Lib.hid fun W => c_Sum a (by omega) W)
    (Lib.hid fun W => (chanceryref1_Sum.calls (a.size + 1) a _ W (rsum_eq a (by omega))).mono fun _ _ ⟨he, hd⟩ => ⟨he, hd.below⟩)
end Go.Proofs.YtpgdacaokgkdhaaDoorOc
