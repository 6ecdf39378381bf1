/-
  chancerylaw10: DiskFuse. Condition: none.
-/
import Derived.Test.YtcbaflnmfiofeaaDkO
namespace Go.Proofs.YtcbaflnmfiofeaaDk
open Go.RowKit Go.Maps Go.Proofs.YtcbaflnmfiofeaaKp Go.Proofs.YtcbaflnmfiofeaaCm Go.Proofs.YtcbaflnmfiofeaaW.PrintWords
set_option linter.unusedVariables false
set_option linter.unusedSimpArgs false
theorem tornS_length (secs : List (List Int)) (x : Int × List Int) (t : Nat) : (tornS secs x t).length = secs.length := by simp [tornS]
theorem crashSecs_length (D : Dm) (k t : Nat) : (crashSecs D k t).length = D.secs.length := by
  unfold crashSecs
  split
  · rw [tornS_length, layK_length]
  · rw [layK_length]
/-- DiskFuse's disk behind k writes -/
def fuseQ (k : Nat) : List (Int × List Int) := (List.range k).map fun (i : Nat) => (((i % 4 : Nat) : Int), rowN ((i : Int) + 1))
theorem fuseQ_succ (k : Nat) : fuseQ (k + 1) = fuseQ k ++ [(((k % 4 : Nat) : Int), rowN ((k : Int) + 1))] := by simp [fuseQ, List.range_succ]
theorem fuseQ_length (k : Nat) : (fuseQ k).length = k := by simp [fuseQ]
def fuseD (keep : Int) (n k : Nat) : Dm := { newD 4 with fset := true, fn := (n : Int) - k, fk := keep, ft := 0, q := fuseQ k, writes := k }
theorem fuse_ask (keep : Int) (n k i : Nat) (hi : i < 4) : askS (fuseD keep n k) i = 0 := by
  unfold askS
  rw [if_neg (by simp [fuseD, newD]), if_neg (by simp [fuseD, newD]; omega)]
theorem fuseD_ok {keep : Int} {n k : Nat} (hn : n ≤ 60) (hk : k ≤ n) : DOk (fuseD keep n k) := ⟨by simp [fuseD, newD], by simp [fuseD, newD], by simp only [fuseD]; omega, by simp only [fuseD, fuseQ_length]; omega⟩
theorem fuse_writeE {keep : Int} {n k : Nat} (hk : k < n) (v : Int) : writeE (fuseD keep n k) ((k % 4 : Nat) : Int) (rowB v) = 0 := by
  unfold writeE
  rw [if_neg (fun e => e (fuse_ask keep n k _ (Nat.mod_lt _ (by omega)))), if_neg (fun e => e (rowB_size v)), if_neg (show ¬ (fuseD keep n k).room = 0 by simp [fuseD, newD]), if_neg (show ¬ ((fuseD keep n k).fset = true ∧ (fuseD keep n k).fn ≤ 0) from fun e => by have := e.2; simp only [fuseD] at this; omega)]
theorem fuse_writeD {keep : Int} {n k : Nat} (hk : k < n) (hn : n ≤ 60) : writeD (fuseD keep n k) ((k % 4 : Nat) : Int) (rowB ((k : Int) + 1)) = fuseD keep n (k + 1) := by
  unfold writeD
  rw [if_neg (fun e => e (fuse_ask keep n k _ (Nat.mod_lt _ (by omega)))), if_neg (fun e => e (rowB_size _)), if_neg (show ¬ (fuseD keep n k).room = 0 by simp [fuseD, newD]), if_neg (show ¬ ((fuseD keep n k).fset = true ∧ (fuseD keep n k).fn ≤ 0) from fun e => by have := e.2; simp only [fuseD] at this; omega), rowB_bts]
  unfold writeS takenS
  have e2 : wrap64 ((fuseD keep n k).writes + 1) = ((k + 1 : Nat) : Int) := by
    simp only [fuseD]
    rw [wrap_small (by omega)]
    omega
  have e3 : (fuseD keep n k).fn - 1 = (n : Int) - ((k + 1 : Nat) : Int) := by simp only [fuseD]; omega
  simp only [e2, e3]
  simp [fuseD, newD, fuseQ_succ]
  omega
/-- behind the write at which the power fails -/
def fuseX (keep : Int) (n : Nat) : Dm := burnedS (fuseD keep n n)
theorem fuse_full (keep : Int) (n : Nat) (v : Int) : writeE (fuseD keep n n) 0 (rowB v) = 80 ∧ writeD (fuseD keep n n) 0 (rowB v) = fuseX keep n := by
  have ha : askS (fuseD keep n n) 0 = 0 := fuse_ask keep n n 0 (by omega)
  have h1 : ¬ (fuseD keep n n).room = 0 := by simp [fuseD, newD]
  have h2 : (fuseD keep n n).fset = true ∧ (fuseD keep n n).fn ≤ 0 := ⟨rfl, by simp only [fuseD]; omega⟩
  unfold writeE writeD
  rw [if_neg (fun e => e ha), if_neg (fun e => e (rowB_size v)), if_neg h1, if_pos h2, if_neg (fun e => e ha), if_neg (fun e => e (rowB_size v)), if_neg h1, if_pos h2]
  exact ⟨rfl, rfl⟩
theorem fuseX_is (keep : Int) (n : Nat) : (fuseX keep n).on = false ∧ (fuseX keep n).secs.length = 4 ∧ (fuseX keep n).fset = false ∧ (fuseX keep n).room = -1 ∧ (fuseX keep n).writes = n ∧ (fuseX keep n).q = [] ∧ (fuseX keep n).fn = 0 := by
  unfold fuseX burnedS crashS
  rw [if_pos (show (fuseD keep n n).on = true by rfl)]
  refine ⟨rfl, ?_, rfl, rfl, rfl, rfl, rfl⟩
  simp only [crashSecs_length]
  rfl
theorem fuse_begin (keep : Int) (n : Nat) : fuseS (newD 4) n keep 0 = fuseD keep n 0 := by
  unfold fuseS
  rw [if_neg (by omega)]
  simp [fuseD, fuseQ, newD]
theorem fuse_last {D : Dm} {n : Nat} (hn : n ≤ 60) (h2 : D.secs.length = 4) (h3 : D.fset = false) (h4 : D.room = -1) (h5 : D.writes = n) (v : Int) : writeE { D with on := true } 0 (rowB v) = 0 ∧ (writeD { D with on := true } 0 (rowB v)).writes = (n : Int) + 1 := by
  have ha : askS { D with on := true } 0 = 0 := by
    unfold askS
    rw [if_neg (by simp), if_neg (by simp [h2])]
  have r1 : ¬ ({ D with on := true } : Dm).room = 0 := by simp [h4]
  have r2 : ¬ (({ D with on := true } : Dm).fset = true ∧ ({ D with on := true } : Dm).fn ≤ 0) := by simp [h3]
  unfold writeE writeD
  rw [if_neg (fun e => e ha), if_neg (fun e => e (rowB_size v)), if_neg r1, if_neg r2, if_neg (fun e => e ha), if_neg (fun e => e (rowB_size v)), if_neg r1, if_neg r2]
  refine ⟨rfl, ?_⟩
  show wrap64 (D.writes + 1) = _
  rw [h5]
  exact wrap_small (by omega)
set_option maxRecDepth 100000 in
theorem walk_DiskFuse (n : Int) (keep : Int) (hb : -9223372036854775808 ≤ n ∧ n ≤ 9223372036854775807) (hb2 : -9223372036854775808 ≤ keep ∧ keep ≤ 9223372036854775807) (w : World) : Calls Try.prog 5 #[.int .i64 n, .int .i64 keep] w fun e w' => e = .returned (.bool true) ∧ Below w.heap.size w w' := by
  have ka : ∀ w0, Calls Try.prog 9 #[] w0 fun e w' => e = .returned (.bool true) ∧ Below w0.heap.size w0 w' := c_alive
  replace ka := Lib.hid ka
  by_cases h1 : n < 0
  · have d1 : decide (n < 0) = true := decide_eq_true h1
    go_enter Try.func5, Try.ntmps5
    go_wp2_with (go_at_call 9; refine (ka.out _).mono ?_; rintro e w1 ⟨rfl, hb⟩; have HB := Lib.hid hb; clear hb)
    go_ret
    exact ⟨rfl, HB.out⟩
  by_cases h2 : 60 < n
  · have d1 : decide (n < 0) = false := decide_eq_false h1
    have d2 : decide (60 < n) = true := decide_eq_true h2
    go_enter Try.func5, Try.ntmps5
    go_wp2_with (go_at_call 9; refine (ka.out _).mono ?_; rintro e w1 ⟨rfl, hb⟩; have HB := Lib.hid hb; clear hb)
    go_ret
    exact ⟨rfl, HB.out⟩
  obtain ⟨n, rfl⟩ := Int.eq_ofNat_of_zero_le (show 0 ≤ n by omega)
  have hn : n ≤ 60 := by omega
  have d1 : decide ((n : Int) < 0) = false := decide_eq_false h1
  have d2 : decide ((60 : Int) < (n : Int)) = false := decide_eq_false h2
  clear h1 h2 hb hb2
  have k1 := Lib.hid (s_New (w0 := w) (B := []) (Below.refl _ w) 4 (by omega) (by omega) (fun x hx => by cases hx))
  go_enter Try.func5, Try.ntmps5
  go_wp2_with (first
    | (go_at_call 10; refine k1.out.mono ?_; rintro e w1 ⟨p, rfl, hs⟩; have k2 := s_Fuse hs n keep 0; rw [fuse_begin] at k2; replace k2 := Lib.hid k2; clear hs)
    | (go_at_call 20; refine k2.out.mono ?_; rintro e w2 ⟨rfl, hs⟩; have HS := Lib.hid hs; clear hs))
  go_loopw [7] (fun i wr => ∃ k : Nat, k ≤ n ∧ i = .int .i64 k ∧ St w wr p (fuseD keep n k) []) (fun i _ => n - (intOf i).toNat)
  case atStart => exact ⟨0, Nat.zero_le _, rfl, HS.out⟩
  case round =>
    obtain ⟨k, hk, rfl, hst⟩ := hrel
    by_cases hkn : k < n
    · have d3 : decide ((k : Int) < (n : Int)) = true := by simp; omega
      have hk1 : Hid (k + 1 ≤ n) := Lib.hid (by omega)
      have k3 := Lib.hid (s_rowB hst ((k : Int) + 1))
      have d4 : bits .and .i64 (k : Int) 3 = (k : Int) % 4 := i64_and3 _
      have H4 : ∀ w4, St w w4 p (fuseD keep n k) [] → Calls Try.prog 13 #[.pointer (some ⟨p, 0, none⟩), .int .i64 ((k : Int) % 4), .string (rowB ((k : Int) + 1))] w4 fun e w' => e = .returned (.int .i64 0) ∧ St w w' p (fuseD keep n (k + 1)) [] := fun w4 h => by
        rw [show (k : Int) % 4 = ((k % 4 : Nat) : Int) by omega]
        have := s_Write h (fuseD_ok hn (Nat.le_of_lt hkn)) ((k % 4 : Nat) : Int) (rowB ((k : Int) + 1))
        rw [fuse_writeE hkn, fuse_writeD hkn hn] at this
        exact this
      replace H4 := Lib.hid H4
      clear hst hkn
      go_wp2_with (first
        | (go_at_call 11; refine k3.out.mono ?_; rintro e w3 ⟨rfl, hs⟩; have HS3 := Lib.hid hs; clear hs)
        | (go_at_call 13; with_reducible refine (H4.out _ HS3.out).mono ?_; rintro e w4 ⟨rfl, hs⟩; have HS4 := Lib.hid hs; clear hs))
      exact ⟨⟨k + 1, hk1.out, by simp, HS4.out⟩, by have := hk1.out; simp [intOf]; omega⟩
    · obtain rfl : k = n := by omega
      have d3 : decide ((k : Int) < (k : Int)) = false := by simp
      have HS := Lib.hid hst
      obtain ⟨x1, x2, x3, x4, x5, x6, x7⟩ := fuseX_is keep k
      have W1 : ∀ w4, St w w4 p (fuseD keep k k) [] → Calls Try.prog 13 #[.pointer (some ⟨p, 0, none⟩), .int .i64 0, .string (rowB 99)] w4 fun e w' => e = .returned (.int .i64 80) ∧ St w w' p (fuseX keep k) [] := fun w4 h => by
        have := s_Write h (fuseD_ok hn (Nat.le_refl _)) 0 (rowB 99)
        rw [(fuse_full keep k 99).1, (fuse_full keep k 99).2] at this
        exact this
      obtain ⟨D1, hD1⟩ : ∃ D1, D1 = fuseX keep k := ⟨_, rfl⟩
      rw [← hD1] at x1 x2 x3 x4 x5 x6 x7 W1
      have G1 : ∀ w4, St w w4 p D1 [] → Calls Try.prog 21 #[.pointer (some ⟨p, 0, none⟩)] w4 fun e w' => e = .returned (.bool false) ∧ w4 = w' := fun w4 h => by
        have := s_On h
        rw [x1] at this
        exact this
      have hok : DOk D1 := ⟨by omega, by omega, by omega, by rw [x6]; simp⟩
      have S1 : ∀ w4, St w w4 p D1 [] → Calls Try.prog 12 #[.pointer (some ⟨p, 0, none⟩)] w4 fun e w' => e = .returned (.int .i64 80) ∧ St w w' p D1 [] := fun w4 h => by
        have := s_Sync h hok
        rw [show syncE D1 = 80 by unfold syncE; rw [if_pos x1], show syncD D1 = D1 by unfold syncD; rw [if_pos x1]] at this
        exact this
      have R1 : ∀ w4, St w w4 p D1 [] → Calls Try.prog 16 #[.pointer (some ⟨p, 0, none⟩), .int .i64 0] w4 fun e w' => e = .returned (.tuple #[.string ⟨#[]⟩, .int .i64 80]) ∧ St w w' p D1 [] := fun w4 h => by
        have := s_Read h 0
        have ha : askS D1 0 = 80 := by unfold askS; rw [if_pos x1]
        rw [show readE D1 0 = 80 from ha, show readS D1 0 = ⟨#[]⟩ by unfold readS; rw [if_pos (by rw [ha]; omega)]] at this
        exact this
      have T1 : ∀ w4, St w w4 p D1 [] → Calls Try.prog 15 #[.pointer (some ⟨p, 0, none⟩)] w4 fun e w' => e = .returned (.tuple #[]) ∧ St w w' p { D1 with on := true } [] := fun w4 h => s_Restore h
      have hL := fuse_last (D := D1) hn x2 x3 x4 x5 98
      obtain ⟨D2, hD2⟩ : ∃ D2 : Dm, D2 = { D1 with on := true } := ⟨_, rfl⟩
      have hok2 : DOk D2 := by rw [hD2]; exact ⟨hok.r1, hok.r2, hok.f2, hok.q1⟩
      rw [← hD2] at hL T1
      obtain ⟨DL, hDL⟩ : ∃ DL, DL = writeD D2 0 (rowB 98) := ⟨_, rfl⟩
      have W2 : ∀ w4, St w w4 p D2 [] → Calls Try.prog 13 #[.pointer (some ⟨p, 0, none⟩), .int .i64 0, .string (rowB 98)] w4 fun e w' => e = .returned (.int .i64 0) ∧ St w w' p DL [] := fun w4 h => by
        have := s_Write h hok2 0 (rowB 98)
        rw [hL.1, ← hDL] at this
        exact this
      have N1 : ∀ w4, St w w4 p DL [] → Calls Try.prog 19 #[.pointer (some ⟨p, 0, none⟩)] w4 fun e w' => e = .returned (.int .i64 ((k : Int) + 1)) ∧ w4 = w' := fun w4 h => by
        have := s_Writes h
        rw [hDL, hL.2] at this
        exact this
      replace W1 := Lib.hid W1
      replace S1 := Lib.hid S1
      replace R1 := Lib.hid R1
      replace T1 := Lib.hid T1
      replace G1 := Lib.hid G1
      replace W2 := Lib.hid W2
      replace N1 := Lib.hid N1
      clear hst hDL hkn hL hD2 hD1 x1 x2 x3 x4 x5 x6 x7 hok hok2
      go_wp2_with (first
        | (go_at_call 11; refine (s_rowB HS.out _).mono ?_; rintro e w3 ⟨rfl, hs⟩; clear HS; have HS := Lib.hid hs; clear hs)
        | (go_at_call 13; (first | (with_reducible refine (W1.out _ HS.out).mono ?_) | (with_reducible refine (W2.out _ HS.out).mono ?_)); rintro e w3 ⟨rfl, hs⟩; clear HS; have HS := Lib.hid hs; clear hs)
        | (go_at_call 21; refine (G1.out _ HS.out).mono ?_; rintro e w3 ⟨rfl, hw⟩; subst hw)
        | (go_at_call 12; refine (S1.out _ HS.out).mono ?_; rintro e w3 ⟨rfl, hs⟩; clear HS; have HS := Lib.hid hs; clear hs)
        | (go_at_call 16; refine (R1.out _ HS.out).mono ?_; rintro e w3 ⟨rfl, hs⟩; clear HS; have HS := Lib.hid hs; clear hs)
        | (go_at_call 15; refine (T1.out _ HS.out).mono ?_; rintro e w3 ⟨rfl, hs⟩; clear HS; have HS := Lib.hid hs; clear hs)
        | (go_at_call 9; refine (s_alive HS.out).mono ?_; rintro e w3 ⟨rfl, hs⟩; clear HS; have HS := Lib.hid hs; clear hs)
        | (go_at_call 19; refine (N1.out _ HS.out).mono ?_; rintro e w3 ⟨rfl, hw⟩; subst hw))
      go_ret
      exact ⟨rfl, HS.out.below⟩
end Go.Proofs.YtcbaflnmfiofeaaDk
