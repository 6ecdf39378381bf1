/-
  chancerylaw11: LogFits, the walk's main way. Condition: none.
-/
import Derived.Test.YtladbjlkkjcfnaaLgM
namespace Go.Proofs.YtladbjlkkjcfnaaLg
open Go.RowKit Go.Proofs.YtladbjlkkjcfnaaW.PrintWords Go.Proofs.YtladbjlkkjcfnaaW.PrintMore Go.Proofs.Ytladbjlkkjcfnaa.PU Go.Proofs.YtladbjlkkjcfnaaOc Go.Proofs.YtladbjlkkjcfnaaKp Go.Proofs.YtladbjlkkjcfnaaCm Go.Proofs.YtladbjlkkjcfnaaDk
set_option linter.unusedVariables false
set_option linter.unusedSimpArgs false
variable {w0 w w1 : World} {p l : Nat} {D D' : Dm} {L L' : Lm} {B : List (Nat × Obj)}
def fL0 (n : Nat) : Lm := ⟨0, n, 0, false, 0, []⟩
def fL1 (n : Nat) : Lm := ⟨0, n, 1, true, 0, []⟩
theorem fL0_ok {n : Nat} (h : n ≤ 30) : LOk (fL0 n) := ⟨by simp [fL0], by simp [fL0], by simp [fL0], by simp only [fL0]; omega, by simp [fL0], by simp [fL0], by simp [fL0], by simp [fL0], by simp [fL0]⟩
theorem fL1_ok {n : Nat} (h : n ≤ 30) : LOk (fL1 n) := ⟨by simp [fL1], by simp [fL1], by simp [fL1], by simp only [fL1]; omega, by simp [fL1], by simp [fL1], by simp [fL1], by simp [fL1], by simp [fL1]⟩
set_option maxRecDepth 100000 in
set_option maxHeartbeats 4000000 in
theorem fits_main (n k : Nat) (h1 : 1 ≤ n) (h2 : n ≤ 30) (hk : k ≤ 2000) (w : World) : Calls Try.prog 3 #[.int .i64 n, .int .i64 k] w fun e w' => e = .returned (.bool true) ∧ Below w.heap.size w w' := by
  have k1 := Lib.hid (d_New (w0 := w) (Below.refl _ w) 30 (by omega) (by omega))
  have k2 := Lib.hid (fun (w' : World) (p : Nat) (h : Ds w w' p (newD 30) []) => d_Open_new 30 h 0 n h1 (by omega) (by omega))
  obtain ⟨ZS, hmk, hcv⟩ := make_zeros k hk
  have hzsz := zeros_size k
  obtain ⟨N, hN⟩ : ∃ N, N = max 1 ((k + 47) / 48) := ⟨_, rfl⟩
  have hcount : (pcs (zeros k)).length = N := by rw [pcs_count, hzsz, hN]
  have d1 : decide ((n : Int) < 1) = false := decide_eq_false (by omega)
  have d2 : decide ((30 : Int) < (n : Int)) = false := decide_eq_false (by omega)
  have d3 : decide ((k : Int) < 0) = false := decide_eq_false (by omega)
  have d4 : decide ((2000 : Int) < (k : Int)) = false := decide_eq_false (by omega)
  have e1 : IntKind.i64.wrap ((k : Int) + 47) = ((k + 47 : Nat) : Int) := by rw [IntKind.wrap_i64]; omega
  have hR := fun (w' : World) (p l : Nat) (h : Lg w w' p l (newD 30) (fL0 n) []) => l_Reset h (fL0_ok h2) rfl (by simp [fL0])
  replace hR := Lib.hid hR
  have HN := Lib.hid (And.intro hN (And.intro hcount hzsz))
  generalize zeros k = rec at *
  clear hN hcount hzsz
  go_enter Try.func3, Try.ntmps3
  go_upto_region 9 with (first
    | (go_at_call 7; refine k1.out.mono ?_; rintro e w1 ⟨p, rfl, hs⟩; have HD := Lib.hid hs; clear hs)
    | (go_at_call 8; refine (k2.out _ _ HD.out).mono ?_; rintro e w2 ⟨l, rfl, hs⟩; have HS0 := (Lib.hid (show Lg w w2 p l (newD 30) (fL0 n) [] from hs)); clear hs)
    | (go_at_call 9; refine (hR.out _ _ _ HS0.out).mono ?_; rintro e w4 ⟨rfl, hs⟩; have HS := (Lib.hid (show Lg w w4 p l (newD 30) (fL1 n) [] from hs)); clear hs))
  have hm : max 1 (((k : Int) + 47) / 48) = (N : Int) := by have := HN.out.1; omega
  rw [hm]
  have hN1 : 1 ≤ N := by have := HN.out.1; omega
  have hst := HS.out.b ((Below.refl _ _).alloc (Nat.le_refl _) (.cells ZS 5))
  generalize (w4.alloc (.cells ZS 5)) = w5 at *
  clear HS HS0 HD hR k1 k2 hmk hcv hm
  have HS := Lib.hid hst
  clear hst
  have hcnt := HN.out.2.1
  have hrs : rec.size ≤ 1000000 := by have := HN.out.2.2; omega
  by_cases hf : n < N
  · have d5 : decide (n < N) = true := decide_eq_true hf
    have hA := fun (w' : World) (h : Lg w w' p l (newD 30) (fL1 n) []) => l_Append_full h (fL1_ok h2) rec (by omega) rfl (by rw [hcnt]; simp only [fL1]; omega)
    replace hA := Lib.hid hA
    have hLk := Lib.hid (fL1_ok h2)
    clear hcnt hrs hf
    go_wp2_with (first
      | (go_at_call 10; refine (f_Writes HS.out (v := 0) rfl).mono ?_; rintro e w6 ⟨rfl, hw⟩; have hw := hw.symm; subst hw)
      | (go_at_call 11; refine (hA.out _ HS.out).mono ?_; rintro e w6 ⟨rfl, hs⟩; clear HS; have HS := Lib.hid hs; clear hs)
      | (go_at_call 6; refine (l_alive HS.out).mono ?_; rintro e w6 ⟨rfl, hs⟩; clear HS; have HS := Lib.hid hs; clear hs)
      | (go_at_call 12; refine (l_Records HS.out hLk.out).mono ?_; rintro e w8 ⟨A, c, rfl, _, hb⟩; have HS9 := Lib.hid (HS.out.b hb); clear hb))
    go_ret
    exact ⟨rfl, HS9.out.below⟩
  · have d5 : decide (n < N) = false := decide_eq_false hf
    have hA := fun (w' : World) (h : Lg w w' p l (newD 30) (fL1 n) []) => l_Append h (fL1_ok h2) rec hrs rfl (by rw [hcnt]; simp only [fL1]; omega) (new_hl 30) (by omega) (by rw [new_secs]; simp only [fL1]; omega) (by rw [new_secs]; omega)
    replace hA := Lib.hid hA
    have hwr : (appD (newD 30) (fL1 n) rec).writes = (N : Int) := by
      unfold appD
      have := wrI_writes (fr := (fL1 n).fr) (gen := (fL1 n).gen) (used := (fL1 n).used) (parts := pcs rec) (new_hl 30) (pcs_sizes rec) (by simp [fL1]) (by simp [fL1]) (by simp [fL1]) (by rw [hcnt, new_secs]; simp only [fL1]; omega) (by rw [new_secs]; omega) rfl (pcs rec).length (Nat.le_refl _)
      rw [this, hcnt]
    have hL2 : appL (fL1 n) rec = ⟨0, n, 1, true, (N : Int), [rec]⟩ := by
      unfold appL
      rw [hcnt]
      simp [fL1]
    have hok2 : LOk ⟨0, n, 1, true, (N : Int), [rec]⟩ := ⟨by simp, by simp, by simp, by simp only; omega, by simp, by simp only; omega, by simp, by simp, by simp⟩
    rw [hL2] at hA
    generalize appD (newD 30) (fL1 n) rec = D2 at *
    have HW := Lib.hid (And.intro hwr hok2)
    have e2 : IntKind.i64.wrap ((n : Int) - (N : Int)) = (n : Int) - (N : Int) := by rw [IntKind.wrap_i64]; omega
    have e3 : IntKind.i64.wrap (0 + (N : Int)) = (N : Int) := by rw [IntKind.wrap_i64]; omega
    have e4 : IntKind.i64.wrap (N : Int) = (N : Int) := by rw [IntKind.wrap_i64]; omega
    clear hcnt hrs hf hwr hok2 hL2
    go_wp2_with (first
      | (go_at_call 10; with_reducible refine (f_Writes HS.out (v := 0) rfl).mono ?_; rintro e w6 ⟨rfl, hw⟩; have hw := hw.symm; subst hw)
      | (go_at_call 10; with_reducible refine (f_Writes HX.out HW.out.1).mono ?_; rintro e w6 ⟨rfl, hw⟩; have hw := hw.symm; subst hw)
      | (go_at_call 11; refine (hA.out _ HS.out).mono ?_; rintro e w6 ⟨rfl, hs⟩; clear HS; have HX := Lib.hid hs; clear hs)
      | (go_at_call 12; refine (l_Records1 HX.out HW.out.2 rfl).mono ?_; rintro e w8 ⟨g, c, cs, rfl, hc, hs⟩; have HC := Lib.hid hc; clear HX hc; have HX := Lib.hid hs; clear hs)
      | (go_at_call 6; refine (l_alive HX.out).mono ?_; rintro e w6 ⟨rfl, hs⟩; clear HX; have HX := Lib.hid hs; clear hs)
      | (go_at_call 13; refine (l_Free HX.out HW.out.2).mono ?_; rintro e w7 ⟨rfl, hs⟩; clear HX; have c0 := (cell_of_row _ _ 0 _ _ _ (hs.at List.mem_cons_self)).trans HC.out; have HX := Lib.hid hs; clear hs))
    go_ret
    exact ⟨rfl, HX.out.below⟩
theorem walk_LogFits (n size : Int) (hn : -9223372036854775808 ≤ n ∧ n ≤ 9223372036854775807) (hs : -9223372036854775808 ≤ size ∧ size ≤ 9223372036854775807) (w : World) : Calls Try.prog 3 #[.int .i64 n, .int .i64 size] w fun e w' => e = .returned (.bool true) ∧ Below w.heap.size w w' := by
  by_cases h : n < 1 ∨ 30 < n ∨ size < 0 ∨ 2000 < size
  · exact fits_early n size h w
  · obtain ⟨m, rfl⟩ := Int.eq_ofNat_of_zero_le (show 0 ≤ n by omega)
    obtain ⟨k, rfl⟩ := Int.eq_ofNat_of_zero_le (show 0 ≤ size by omega)
    exact fits_main m k (by omega) (by omega) (by omega) w
end Go.Proofs.YtladbjlkkjcfnaaLg
