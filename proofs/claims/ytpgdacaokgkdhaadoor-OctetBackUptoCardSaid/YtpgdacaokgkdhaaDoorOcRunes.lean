/-
  OctetRunes: the law's call answers true at every string, place and character. Condition: Go's two tables lie as laid; sizes as Go has them.
-/
import Derived.Test.YtpgdacaokgkdhaaDoorOcNumbers
import Derived.Test.YtpgdacaokgkdhaaDoorSh2
import Derived.LoopTactic
namespace Go.Proofs.YtpgdacaokgkdhaaDoorOc
open Go.RowKit Go.Proofs.YtpgdacaokgkdhaaDoorW.PrintWords Go.Proofs.YtpgdacaokgkdhaaDoorW.PrintMore Go.Proofs.YtpgdacaokgkdhaaDoor.PU

theorem c_Text (b : ByteArray) (hb : b.size ≤ 9223372036854775807) (w : World) (hT : Tabs w) : Calls Tryd.prog 28 #[.string b] w fun e w' => e = .returned (.bool (validS b)) ∧ Below w.heap.size w w' := by
  go_enter Tryd.func28, Tryd.ntmps28
  go_wp2_with (go_at_call 37; refine (Tryd.utf8_ValidString _ _ hb hT).mono ?_; rintro e w' ⟨rfl, hb'⟩)
  go_ret
  exact ⟨rfl, hb'⟩
theorem c_PutRune (r : Int) (w : World) : Calls Tryd.prog 30 #[.int .i32 r] w fun e w' => e = .returned (.tuple #[.string (putRuneS r).1, .int .i64 (putRuneS r).2]) ∧ Below w.heap.size w w' := by
  have hv : Go.Lib.validRune r = Utf8.valid r := (validRune_eq r).symm
  have c := Tryd.utf8_ValidRune r w
  rw [hv] at c
  have C := Lib.hid c
  clear c hv
  unfold putRuneS
  cases h : Utf8.valid r with
  | true =>
    rw [h] at C
    rw [if_pos rfl]
    go_enter Tryd.func30, Tryd.ntmps30
    go_wp2_with (go_at_call 38; with_reducible (refine (C.out).mono ?_); rintro e w' ⟨rfl, rfl⟩)
    go_ret2
    exact ⟨rfl, Below.refl _ _⟩
  | false =>
    rw [h] at C
    rw [if_neg (by simp)]
    go_enter Tryd.func30, Tryd.ntmps30
    go_wp2_with (go_at_call 38; with_reducible (refine (C.out).mono ?_); rintro e w' ⟨rfl, rfl⟩)
    go_ret2
    exact ⟨rfl, Below.refl _ _⟩
set_option maxHeartbeats 1000000 in
set_option maxRecDepth 100000 in
theorem runes_yes (b s : ByteArray) (i r e : Int) (t : Bool) (R N : Int → Int) (w : World) (hT : Tabs w) (hb : b.size ≤ 3000) (hi1 : -9223372036854775808 ≤ i) (hi2 : i ≤ 9223372036854775807)
    (k1 : Hid (∀ k W, -9223372036854775808 ≤ k → k ≤ 9223372036854775807 → Tabs W → Calls Tryd.prog 27 #[.string b, .int .i64 k] W fun e' w' => e' = .returned (.tuple #[.int .i32 (R k), .int .i64 (N k)]) ∧ Below W.heap.size W w'))
    (k2 : Hid (∀ k W, Calls Tryd.prog 29 #[.string b, .int .i64 k] W fun e' w' => e' = .returned (.tuple #[.int .i32 (R k), .int .i64 (N k)]) ∧ Below W.heap.size W w'))
    (k3 : Hid (∀ W, Calls Tryd.prog 30 #[.int .i32 r] W fun e' w' => e' = .returned (.tuple #[.string s, .int .i64 e]) ∧ Below W.heap.size W w'))
    (k4 : Hid (∀ W, Calls Tryd.prog 31 #[.int .i32 r] W fun e' w' => e' = .returned (.tuple #[.string s, .int .i64 e]) ∧ Below W.heap.size W w'))
    (k5 : Hid (∀ W, Tabs W → Calls Tryd.prog 28 #[.string b] W fun e' w' => e' = .returned (.bool t) ∧ Below W.heap.size W w'))
    (k6 : Hid (∀ W, Calls Tryd.prog 32 #[.string b] W fun e' w' => e' = .returned (.bool t) ∧ Below W.heap.size W w')) :
    Calls Tryd.prog 8 #[.string b, .int .i64 i, .int .i32 r] w fun e w' => e = .returned (.bool true) ∧ Below w.heap.size w w' := by
  have HT := Lib.hid hT
  clear hT
  have d1 : decide ((3000 : Int) < (b.size : Int)) = false := by simp; omega
  go_enter Tryd.func8, Tryd.ntmps8
  go_wp2_with fail
  go_loopw [7] (fun v wr => ∃ k : Int, -1 ≤ k ∧ k ≤ (b.size : Int) + 1 ∧ v = .int .i64 k ∧ Below w.heap.size w wr) (fun v _ => ((b.size : Int) + 1 - intOf v).toNat)
  case atStart => exact ⟨-1, by omega, by omega, rfl, Below.refl _ _⟩
  case round =>
    obtain ⟨k, h0, h1, rfl, hbr⟩ := hrel
    by_cases hk : k ≤ (b.size : Int)
    · have d2 : decide (k ≤ (b.size : Int)) = true := decide_eq_true hk
      go_wp2_with (first
        | (go_at_call 27; with_reducible (refine (k1.out _ _ (by omega) (by omega) (Tabs.below HT.out hbr (Nat.le_refl _))).mono ?_); rintro e w1 ⟨rfl, hb1⟩; replace hb1 := bstep hbr hb1; clear hbr)
        | (go_at_call 29; with_reducible (refine (k2.out _ _).mono ?_); rintro e w2 ⟨rfl, hb2⟩; replace hb2 := bstep hb1 hb2; clear hb1))
      go_roundw
      case rel => exact ⟨k + 1, by omega, by omega, rfl, hb2⟩
      case measure => simp [intOf]; omega
    · have d2 : decide (k ≤ (b.size : Int)) = false := decide_eq_false hk
      go_wp2_with (first
        | (go_at_call 27; with_reducible (refine (k1.out _ _ hi1 hi2 (Tabs.below HT.out hbr (Nat.le_refl _))).mono ?_); rintro e w1 ⟨rfl, hb1⟩; replace hb1 := bstep hbr hb1; clear hbr)
        | (go_at_call 29; with_reducible (refine (k2.out _ _).mono ?_); rintro e w2 ⟨rfl, hb2⟩; replace hb2 := bstep hb1 hb2; clear hb1)
        | (go_at_call 30; with_reducible (refine (k3.out _).mono ?_); rintro e w3 ⟨rfl, hb3⟩; replace hb3 := bstep hb2 hb3; clear hb2)
        | (go_at_call 31; with_reducible (refine (k4.out _).mono ?_); rintro e w4 ⟨rfl, hb4⟩; replace hb4 := bstep hb3 hb4; clear hb3)
        | (go_at_call 10; refine (c_alive _ (Tabs.below HT.out hb4 (Nat.le_refl _))).mono ?_; rintro e w5 ⟨rfl, hb5⟩; replace hb5 := bstep hb4 hb5; clear hb4)
        | (go_at_call 28; with_reducible (refine (k5.out _ (Tabs.below HT.out hb5 (Nat.le_refl _))).mono ?_); rintro e w6 ⟨rfl, hb6⟩; replace hb6 := bstep hb5 hb6; clear hb5)
        | (go_at_call 32; with_reducible (refine (k6.out _).mono ?_); rintro e w7 ⟨rfl, hb7⟩; replace hb7 := bstep hb6 hb7; clear hb6))
      go_ret
      exact ⟨by simp, hb7⟩
theorem walk_OctetRunes (b : ByteArray) (i r : Int) (_hb : b.size ≤ 140737488351232) (hi : -9223372036854775808 ≤ i ∧ i ≤ 9223372036854775807) (hr : -2147483648 ≤ r ∧ r ≤ 2147483647) (w : World) (hT : Tabs w) :
    Calls Tryd.prog 8 #[.string b, .int .i64 i, .int .i32 r] w fun e w' => e = .returned (.bool true) ∧ Below w.heap.size w w' := by
  by_cases h1 : (3000 : Int) < (b.size : Int)
  · have d1 := decide_eq_true h1
    go_enter Tryd.func8, Tryd.ntmps8
    go_wp2_with (go_at_call 10; refine (c_alive _ hT).mono ?_; rintro e w' ⟨rfl, hb⟩)
    go_ret
    exact ⟨rfl, hb⟩
  exact runes_yes b (putRuneS r).1 i r (putRuneS r).2 (validS b) (fun k => (runeS b k).1) (fun k => (runeS b k).2) w hT (by omega) hi.1 hi.2 (Lib.hid fun k W h0 h2 hT' => c_Rune b k h0 h2 W hT')
    (Lib.hid fun k W => (chanceryref1_Rune.calls 12 b k _ _ W (rrune_eq b (by omega) k 12 (by omega))).mono fun _ _ ⟨he, hd⟩ => ⟨he, hd.below⟩) (Lib.hid fun W => c_PutRune r W)
    (Lib.hid fun W => chanceryref1_PutRune.calls 3 r _ _ W (rputRune_eq r hr.1 hr.2 3 (by omega))) (Lib.hid fun W hT' => c_Text b (by omega) W hT')
    (Lib.hid fun W => (chanceryref1_Text.calls (b.size + 13) b _ W (rtext_eq b (by omega))).mono fun _ _ ⟨he, hd⟩ => ⟨he, hd.below⟩)
end Go.Proofs.YtpgdacaokgkdhaaDoorOc
