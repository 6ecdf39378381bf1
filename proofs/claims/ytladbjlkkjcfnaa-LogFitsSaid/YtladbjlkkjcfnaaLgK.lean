/-
  chancerylaw11: alive. Condition: none.
-/
import Derived.Test.YtladbjlkkjcfnaaLgJ
namespace Go.Proofs.YtladbjlkkjcfnaaLg
open Go.RowKit Go.Proofs.YtladbjlkkjcfnaaW.PrintWords Go.Proofs.YtladbjlkkjcfnaaW.PrintMore Go.Proofs.Ytladbjlkkjcfnaa.PU Go.Proofs.YtladbjlkkjcfnaaOc Go.Proofs.YtladbjlkkjcfnaaKp Go.Proofs.YtladbjlkkjcfnaaCm Go.Proofs.YtladbjlkkjcfnaaDk
set_option linter.unusedVariables false
set_option linter.unusedSimpArgs false
variable {w0 w w1 : World} {p l : Nat} {D D' : Dm} {L L' : Lm} {B : List (Nat × Obj)}
theorem new_read (N a : Nat) (ha : a < N) : readS (newD N) (a : Int) = strOfNums zsec := by
  have hask : askS (newD N) (a : Int) = 0 := by
    unfold askS
    rw [if_neg (by simp [newD]), if_neg (by simp [newD]; omega)]
  unfold readS
  rw [if_neg (fun e => e hask), Int.toNat_natCast]
  have : readM (newD N) a = some zsec := by
    show (newD N).secs[a]? = some zsec
    simp [newD, ha]
  rw [this]
  rfl
theorem gen_zero : genS (strOfNums zsec) = 0 := by kernel_rfl
theorem open_new (N fr n : Nat) (h : fr < N) : openL (newD N) fr n = ⟨fr, n, 0, false, 0, []⟩ := by
  unfold openL
  rw [new_read N fr h, gen_zero]
  rfl
theorem new_hl (N : Nat) : Hl (newD N) 0 := ⟨rfl, rfl, rfl, by simp [newD], Nat.le_refl _⟩
theorem new_secs (N : Nat) : (newD N).secs.length = N := by simp [newD]
theorem d_Open_new (N : Nat) (h : Ds w0 w p (newD N) B) (fr n : Nat) (hn : 1 ≤ n) (hs : fr + n ≤ N) (h6 : N ≤ 65536) : Calls Try.prog 8 #[.pointer (some ⟨p, 0, none⟩), .int .i64 fr, .int .i64 n] w fun e w' => ∃ l, e = .returned (.tuple #[.pointer (some ⟨l, 0, none⟩), .int .i64 0]) ∧ Lg w0 w' p l (newD N) ⟨fr, n, 0, false, 0, []⟩ B := by
  have := l_Open h rfl fr n hn (by rw [new_secs]; exact hs) (by rw [new_secs]; exact h6)
  rw [open_new N fr n (by omega)] at this
  exact this
@[reducible] def aS : ByteArray := ⟨#[97]⟩
theorem aS_pcs : (pcs aS).length = 1 := by rw [pcs_count]; rfl
def aL0 : Lm := ⟨2, 4, 0, false, 0, []⟩
def aL1 : Lm := ⟨2, 4, 1, true, 0, []⟩
def aL2 : Lm := ⟨2, 4, 1, true, 1, [aS]⟩
theorem aL0_ok : LOk aL0 := ⟨by decide, by decide, by decide, by decide, by decide, by decide, by decide, by decide, by decide⟩
theorem aL1_ok : LOk aL1 := ⟨by decide, by decide, by decide, by decide, by decide, by decide, by decide, by decide, by decide⟩
theorem aL2_ok : LOk aL2 := ⟨by decide, by decide, by decide, by decide, by decide, by decide, by decide, by decide, by decide⟩
theorem aL2_eq : appL aL1 aS = aL2 := by
  unfold appL
  rw [aS_pcs]
  rfl
theorem a_Reset (h : Lg w0 w p l (newD 8) aL0 B) : Calls Try.prog 9 #[.pointer (some ⟨l, 0, none⟩)] w fun e w' => e = .returned (.int .i64 0) ∧ Lg w0 w' p l (newD 8) aL1 B := l_Reset h aL0_ok rfl (by decide)
theorem a_Append (h : Lg w0 w p l (newD 8) aL1 B) : Calls Try.prog 11 #[.pointer (some ⟨l, 0, none⟩), .string aS] w fun e w' => e = .returned (.int .i64 0) ∧ ∃ D, Lg w0 w' p l D aL2 B := by
  have := l_Append h aL1_ok aS (by decide) rfl (by rw [aS_pcs]; decide) (new_hl 8) (by omega) (by rw [new_secs]; decide) (by rw [new_secs]; omega)
  rw [aL2_eq] at this
  exact this.mono fun e w' ⟨he, h⟩ => ⟨he, _, h⟩
theorem c_alive (w : World) : Calls Try.prog 6 #[] w fun e w' => e = .returned (.bool true) ∧ Below w.heap.size w w' := by
  have k1 := Lib.hid (d_New (w0 := w) (Below.refl _ w) 8 (by omega) (by omega))
  have k2 := Lib.hid (fun (w' : World) (p : Nat) (h : Ds w w' p (newD 8) []) => d_Open_new 8 h 2 4 (by omega) (by omega) (by omega))
  go_enter Try.func6, Try.ntmps6
  go_wp2_with (first
    | (go_at_call 7; refine k1.out.mono ?_; rintro e w1 ⟨p, rfl, hs⟩; have HD := Lib.hid hs; clear hs)
    | (go_at_call 8; refine (k2.out _ _ HD.out).mono ?_; rintro e w2 ⟨l, rfl, hs⟩; have HS0 := (Lib.hid (show Lg w w2 p l (newD 8) aL0 [] from hs)); clear hs)
    | (go_at_call 11; with_reducible refine (l_Append_open HS0.out aS (by decide) rfl).mono ?_; rintro e w3 ⟨rfl, hs⟩; clear HS0; have HS1 := Lib.hid hs; clear hs)
    | (go_at_call 9; refine (a_Reset HS1.out).mono ?_; rintro e w4 ⟨rfl, hs⟩; have HS2 := Lib.hid hs; clear hs)
    | (go_at_call 11; with_reducible refine (a_Append HS2.out).mono ?_; rintro e w5 ⟨rfl, D, hs⟩; clear HS2; have HS := Lib.hid hs; clear hs)
    | (go_at_call 13; refine (l_Free HS.out aL2_ok).mono ?_; rintro e w6 ⟨rfl, hs⟩; clear HS; have HS := Lib.hid hs; clear hs)
    | (go_at_call 15; refine (l_Generation HS.out).mono ?_; rintro e w7 ⟨rfl, hw⟩; have hw := hw.symm; subst hw)
    | (go_at_call 12; refine (l_Records HS.out aL2_ok).mono ?_; rintro e w8 ⟨A, c, rfl, _, hb⟩; have HS9 := Lib.hid (HS.out.b hb); clear hb))
  go_ret
  exact ⟨rfl, HS9.out.below⟩
end Go.Proofs.YtladbjlkkjcfnaaLg
