/-
  octet: the contracts of its functions, by the plain values; the laws' first call 'alive'. Condition: Go's two tables of unicode/utf8 lie as their initialisers lay them; sizes as Go has them.
-/
import Derived.Test.YtpgdacaokgkdhaaDoorOcD
import Derived.Test.YtpgdacaokgkdhaaDoorOcG
import Derived.Test.YtpgdacaokgkdhaaDoorSh
import Derived.WalkKit
import Derived.OwnWalk
import Derived.Lib.Hide
import Derived.Deep.QuietTactic
import Derived.BigQuiet
import Derived.Laws.Strings2
namespace Go.Proofs.YtpgdacaokgkdhaaDoorOc
open Go.RowKit Go.Proofs.YtpgdacaokgkdhaaDoorW.PrintWords Go.Proofs.YtpgdacaokgkdhaaDoorW.PrintMore Go.Proofs.YtpgdacaokgkdhaaDoor.PU

abbrev Tabs (w : World) : Prop := Go.Lib.Utf8Tabs 0 1 w
theorem lt_of_cell {w : World} {a : Addr} {v : Value} (h : w.cell? a = some v) : a.block < w.heap.size := by
  unfold World.cell? at h
  rcases Nat.lt_or_ge a.block w.heap.size with hl | hl
  · exact hl
  · rw [Array.getElem?_eq_none hl] at h; cases h
theorem Tabs.below {B : Nat} {w w' : World} (h : Tabs w) (hb : Below B w w') (hB : w.heap.size ≤ B) : Tabs w' :=
  ⟨fun c hc => by have := h.1 c hc; rw [hb.cell (by have := lt_of_cell this; simp at this ⊢; omega)]; exact this,
   fun i hi => ⟨by have := (h.2 i hi).1; rw [hb.cell (by have := lt_of_cell this; simp at this ⊢; omega)]; exact this, by have := (h.2 i hi).2; rw [hb.cell (by have := lt_of_cell this; simp at this ⊢; omega)]; exact this⟩⟩

theorem c_Put (v n : Int) (w : World) : Calls Tryd.prog 13 #[.int .i64 v, .int .i64 n] w fun e w' => e = .returned (.tuple #[.string (putS v n).1, .int .i64 (putS v n).2]) ∧ Below w.heap.size w w' :=
  octet_Put.calls 10 v n _ _ w (put_eq v n 10 (by omega))
theorem c_Compare (a b : ByteArray) (w : World) : Calls Tryd.prog 11 #[.string a, .string b] w fun e w' => e = .returned (.int .i64 (cmpS a b)) ∧ w' = w := by
  go_enter Tryd.func11, Tryd.ntmps11
  go_wp2_with (go_at_call 33; refine (Tryd.strings_Compare _ _ _).mono ?_; rintro e w' ⟨rfl, rfl⟩)
  go_ret
  exact ⟨rfl, rfl⟩
theorem c_Rune (b : ByteArray) (i : Int) (h1 : -9223372036854775808 ≤ i) (h2 : i ≤ 9223372036854775807) (w : World) (hT : Tabs w) :
    Calls Tryd.prog 27 #[.string b, .int .i64 i] w fun e w' => e = .returned (.tuple #[.int .i32 (runeS b i).1, .int .i64 (runeS b i).2]) ∧ Below w.heap.size w w' := by
  unfold runeS
  by_cases h0 : i < 0
  · rw [if_pos (.inl h0)]
    have c1 : decide (i < 0) = true := decide_eq_true h0
    go_enter Tryd.func27, Tryd.ntmps27
    go_wp2_with fail
    go_ret2
    exact ⟨rfl, Below.refl _ _⟩
  · have c1 : decide (i < 0) = false := decide_eq_false h0
    by_cases h3 : i ≥ b.size
    · rw [if_pos (.inr h3)]
      have c2 : decide (i ≥ (b.size : Int)) = true := decide_eq_true h3
      go_enter Tryd.func27, Tryd.ntmps27
      go_wp2_with fail
      go_ret2
      exact ⟨rfl, Below.refl _ _⟩
    · rw [if_neg (fun h => h.elim h0 h3)]
      obtain ⟨n, rfl⟩ := Int.eq_ofNat_of_zero_le (a := i) (by omega)
      rw [Int.toNat_natCast, ← decodeGo_extract b n (by omega)]
      have hn : n < b.size := by omega
      clear h0 h3 c1 h1 h2
      go_enter Tryd.func27, Tryd.ntmps27
      go_wp2_with (go_at_call 36; refine (Tryd.utf8_DecodeRuneInString _ _ hT).mono ?_; rintro e w' ⟨rfl, hb'⟩)
      go_ret2
      exact ⟨rfl, hb'⟩
theorem k_Put (w : World) : Calls Tryd.prog 13 #[.int .i64 258, .int .i64 2] w fun e w' => e = .returned (.tuple #[.string ⟨#[1, 2]⟩, .int .i64 0]) ∧ Below w.heap.size w w' :=
  (c_Put 258 2 w).mono fun e w' ⟨he, hb⟩ => ⟨by rw [he]; kernel_rfl, hb⟩
theorem k_Rune (w : World) (hT : Tabs w) : Calls Tryd.prog 27 #[.string ⟨#[97, 195, 169]⟩, .int .i64 1] w fun e w' => e = .returned (.tuple #[.int .i32 233, .int .i64 2]) ∧ Below w.heap.size w w' :=
  (c_Rune ⟨#[97, 195, 169]⟩ 1 (by omega) (by omega) w hT).mono fun e w' ⟨he, hb⟩ => ⟨by rw [he]; kernel_rfl, hb⟩
theorem c_Hex (b : ByteArray) (hb : b.size ≤ 35184372088832) (w : World) : Calls Tryd.prog 23 #[.string b] w fun e w' => e = .returned (.string (hexS b)) ∧ Below w.heap.size w w' :=
  octet_Hex.calls (b.size + 1) b _ w (hex_eq b hb)
theorem k_Hex (w : World) : Calls Tryd.prog 23 #[.string ⟨#[10, 255]⟩] w fun e w' => e = .returned (.string ⟨#[48, 97, 102, 102]⟩) ∧ Below w.heap.size w w' :=
  (c_Hex ⟨#[10, 255]⟩ (by decide) w).mono fun e w' ⟨he, hb⟩ => ⟨by rw [he]; kernel_rfl, hb⟩
theorem c_alive (w : World) (hT : Tabs w) : Calls Tryd.prog 10 #[] w fun e w' => e = .returned (.bool true) ∧ Below w.heap.size w w' := by
  go_enter Tryd.func10, Tryd.ntmps10
  go_wp2_with (first
    | (go_at_call 13; refine (k_Put _).mono ?_; rintro e w1 ⟨rfl, hb1⟩)
    | (go_at_call 27; refine (k_Rune _ (Tabs.below hT hb1 (Nat.le_refl _))).mono ?_; rintro e w2 ⟨rfl, hb2⟩)
    | (go_at_call 23; refine (k_Hex _).mono ?_; rintro e w3 ⟨rfl, hb3⟩))
  go_ret
  exact ⟨rfl, (hb1.trans (hb2.mono hb1.size)).trans (hb3.mono (Nat.le_trans hb1.size hb2.size))⟩
end Go.Proofs.YtpgdacaokgkdhaaDoorOc
