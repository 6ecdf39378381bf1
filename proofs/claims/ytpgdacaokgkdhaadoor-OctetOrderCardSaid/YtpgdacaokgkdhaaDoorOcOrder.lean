/-
  OctetOrder: the law's call answers true at every three strings. Condition: Go's two tables lie as laid; sizes as Go has them.
-/
import Derived.Test.YtpgdacaokgkdhaaDoorOcW
namespace Go.Proofs.YtpgdacaokgkdhaaDoorOc
open Go.RowKit

theorem cmpL_range (a b : List UInt8) : Go.Lib.compareBytes a b = -1 ∨ Go.Lib.compareBytes a b = 0 ∨ Go.Lib.compareBytes a b = 1 := by
  induction a generalizing b with
  | nil => cases b <;> simp [Go.Lib.compareBytes]
  | cons x a ih => cases b with
    | nil => simp [Go.Lib.compareBytes]
    | cons y b =>
      simp only [Go.Lib.compareBytes]
      split
      · exact .inl rfl
      · split
        · exact .inr (.inr rfl)
        · exact ih b
theorem cmpL_anti (a b : List UInt8) : Go.Lib.compareBytes b a = -Go.Lib.compareBytes a b := by
  induction a generalizing b with
  | nil => cases b <;> simp [Go.Lib.compareBytes]
  | cons x a ih => cases b with
    | nil => simp [Go.Lib.compareBytes]
    | cons y b =>
      simp only [Go.Lib.compareBytes]
      by_cases h1 : x < y
      · have h2 : ¬ y < x := by rw [UInt8.lt_iff_toNat_lt] at *; omega
        rw [if_neg h2, if_pos h1, if_pos h1]; rfl
      · by_cases h2 : y < x
        · rw [if_pos h2, if_neg h1, if_pos h2]
        · rw [if_neg h2, if_neg h1, if_neg h1, if_neg h2, ih]
theorem cmpL_zero (a b : List UInt8) : Go.Lib.compareBytes a b = 0 ↔ a = b := by
  induction a generalizing b with
  | nil => cases b <;> simp [Go.Lib.compareBytes]
  | cons x a ih => cases b with
    | nil => simp [Go.Lib.compareBytes]
    | cons y b =>
      simp only [Go.Lib.compareBytes, List.cons.injEq]
      by_cases h1 : x < y
      · rw [if_pos h1]
        constructor
        · intro h; omega
        · rintro ⟨rfl, _⟩; exact absurd h1 (by rw [UInt8.lt_iff_toNat_lt]; omega)
      · by_cases h2 : y < x
        · rw [if_neg h1, if_pos h2]
          constructor
          · intro h; omega
          · rintro ⟨rfl, _⟩; exact absurd h2 (by rw [UInt8.lt_iff_toNat_lt]; omega)
        · rw [if_neg h1, if_neg h2, ih]
          have : x = y := by rw [UInt8.lt_iff_toNat_lt] at *; exact UInt8.toNat_inj.1 (by omega)
          simp [this]
/-- it goes on -/
theorem cmpL_trans (a b c : List UInt8) : (Go.Lib.compareBytes a b ≤ 0 → Go.Lib.compareBytes b c ≤ 0 → Go.Lib.compareBytes a c ≤ 0) ∧ (Go.Lib.compareBytes a b < 0 → Go.Lib.compareBytes b c ≤ 0 → Go.Lib.compareBytes a c < 0) := by
  induction a generalizing b c with
  | nil => cases b <;> cases c <;> simp [Go.Lib.compareBytes]
  | cons x a ih => cases b with
    | nil => simp [Go.Lib.compareBytes]
    | cons y b => cases c with
      | nil => simp [Go.Lib.compareBytes]
      | cons z c =>
        have := ih b c
        simp only [Go.Lib.compareBytes, UInt8.lt_iff_toNat_lt]
        repeat' split
        all_goals omega
theorem cmpL_front (c a b : List UInt8) : Go.Lib.compareBytes (c ++ a) (c ++ b) = Go.Lib.compareBytes a b := by
  induction c with
  | nil => rfl
  | cons x c ih =>
    simp only [List.cons_append, Go.Lib.compareBytes]
    have : ¬ x < x := by rw [UInt8.lt_iff_toNat_lt]; omega
    rw [if_neg this, if_neg this, ih]
theorem cmpS_zero (a b : ByteArray) : cmpS a b = 0 ↔ a = b := by
  unfold cmpS
  rw [cmpL_zero]
  constructor
  · intro h
    obtain ⟨⟨a⟩⟩ := a
    obtain ⟨⟨b⟩⟩ := b
    simp at h
    rw [h]
  · rintro rfl; rfl
theorem cmpS_front (c a b : ByteArray) : cmpS (c ++ a) (c ++ b) = cmpS a b := by
  unfold cmpS
  simp only [ByteArray.data_append, Array.toList_append, cmpL_front]

set_option maxHeartbeats 1000000 in
theorem order_yes (a b c : ByteArray) (x y z : Int) (w : World) (hT : Tabs w) (hs : a.size ≤ 9000 ∧ b.size ≤ 9000 ∧ c.size ≤ 9000) (hsum : ((a.size : Int) + (b.size : Int) + (c.size : Int)) ≤ 9000)
    (hx : x = -1 ∨ x = 0 ∨ x = 1) (hy : y = -1 ∨ y = 0 ∨ y = 1) (hz : z = -1 ∨ z = 0 ∨ z = 1) (h1 : x ≤ 0 → y ≤ 0 → z ≤ 0) (h2 : x < 0 → y ≤ 0 → z < 0)
    (hE : (a.toList == b.toList) = decide (x = 0))
    (k1 : Hid (∀ W, Calls Tryd.prog 11 #[.string a, .string b] W fun e w' => e = .returned (.int .i64 x) ∧ w' = W))
    (k2 : Hid (∀ W, Calls Tryd.prog 11 #[.string b, .string c] W fun e w' => e = .returned (.int .i64 y) ∧ w' = W))
    (k3 : Hid (∀ W, Calls Tryd.prog 11 #[.string a, .string c] W fun e w' => e = .returned (.int .i64 z) ∧ w' = W))
    (k4 : Hid (∀ W, Calls Tryd.prog 11 #[.string b, .string a] W fun e w' => e = .returned (.int .i64 (-x)) ∧ w' = W))
    (k5 : Hid (∀ W, Calls Tryd.prog 11 #[.string (c ++ a), .string (c ++ b)] W fun e w' => e = .returned (.int .i64 x) ∧ w' = W)) :
    Calls Tryd.prog 3 #[.string a, .string b, .string c] w fun e w' => e = .returned (.bool true) ∧ Below w.heap.size w w' := by
  obtain ⟨s1, s2, s3⟩ := hs
  rcases hx with rfl | rfl | rfl <;> rcases hy with rfl | rfl | rfl <;> rcases hz with rfl | rfl | rfl <;> first
    | (exfalso; omega)
    | (clear h1 h2
       simp only [Int.reduceNeg, Int.reduceEq, decide_true, decide_false] at hE
       go_enter Tryd.func3, Tryd.ntmps3
       go_wp2_with (first
         | (go_at_call 11; with_reducible (refine (k1.out _).mono ?_); rintro e w' ⟨rfl, rfl⟩)
         | (go_at_call 11; with_reducible (refine (k2.out _).mono ?_); rintro e w' ⟨rfl, rfl⟩)
         | (go_at_call 11; with_reducible (refine (k3.out _).mono ?_); rintro e w' ⟨rfl, rfl⟩)
         | (go_at_call 11; with_reducible (refine (k4.out _).mono ?_); rintro e w' ⟨rfl, rfl⟩)
         | (go_at_call 11; with_reducible (refine (k5.out _).mono ?_); rintro e w' ⟨rfl, rfl⟩)
         | (go_at_call 10; refine (c_alive _ hT).mono ?_; rintro e w' ⟨rfl, hb⟩))
       go_ret
       exact ⟨rfl, hb⟩)
theorem toList_inj {a b : ByteArray} : a.toList = b.toList ↔ a = b := by
  rw [Go.Lib.toList_data, Go.Lib.toList_data]
  constructor
  · intro h
    obtain ⟨⟨a⟩⟩ := a
    obtain ⟨⟨b⟩⟩ := b
    simp at h
    rw [h]
  · rintro rfl; rfl
theorem walk_OctetOrder (a b c : ByteArray) (ha : a.size ≤ 140737488351232) (hb : b.size ≤ 140737488351232) (hc : c.size ≤ 140737488351232) (w : World) (hT : Tabs w) :
    Calls Tryd.prog 3 #[.string a, .string b, .string c] w fun e w' => e = .returned (.bool true) ∧ Below w.heap.size w w' := by
  by_cases hs : ((a.size : Int) + (b.size : Int) + (c.size : Int)) ≤ 9000
  · have e1 := cmpL_anti a.data.toList b.data.toList
    have e2 := cmpL_trans a.data.toList b.data.toList c.data.toList
    refine order_yes a b c (cmpS a b) (cmpS b c) (cmpS a c) w hT (by omega) hs (cmpL_range _ _) (cmpL_range _ _) (cmpL_range _ _) e2.1 e2.2 ?_ (Lib.hid fun W => c_Compare a b W) (Lib.hid fun W => c_Compare b c W)
      (Lib.hid fun W => c_Compare a c W) (Lib.hid fun W => ?_) (Lib.hid fun W => ?_)
    · rw [Bool.eq_iff_iff, beq_iff_eq, decide_eq_true_eq, toList_inj, cmpS_zero]
    · have := c_Compare b a W
      unfold cmpS at this
      rw [e1] at this
      exact this
    · have := c_Compare (c ++ a) (c ++ b) W
      rw [cmpS_front] at this
      exact this
  · go_enter Tryd.func3, Tryd.ntmps3
    go_wp2_with (go_at_call 10; refine (c_alive _ hT).mono ?_; rintro e w' ⟨rfl, hb⟩)
    go_ret
    exact ⟨rfl, hb⟩
end Go.Proofs.YtpgdacaokgkdhaaDoorOc
