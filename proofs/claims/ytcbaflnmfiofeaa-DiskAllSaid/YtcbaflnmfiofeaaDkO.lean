/-
  chancerylaw10: DiskRoom. Condition: none.
-/
import Derived.Test.YtcbaflnmfiofeaaDkN
namespace Go.Proofs.YtcbaflnmfiofeaaDk
open Go.RowKit Go.Maps Go.Proofs.YtcbaflnmfiofeaaKp Go.Proofs.YtcbaflnmfiofeaaCm Go.Proofs.YtcbaflnmfiofeaaW.PrintWords
set_option linter.unusedVariables false
set_option linter.unusedSimpArgs false
def rowN (v : Int) : List Int := List.replicate 64 (v % 256)
def rowB (v : Int) : ByteArray := strOfNums (rowN v)
theorem rowB_size (v : Int) : (rowB v).size = 64 := by rw [rowB, strOfNums_size, rowN, List.length_replicate]
theorem rowB_bts (v : Int) : bts (rowB v) = rowN v := bts_strOfNums _ (by
  intro x hx
  obtain rfl := List.eq_of_mem_replicate hx
  omega)
theorem s_rowB {w0 w : World} {p : Nat} {D : Dm} {B : List (Nat × Obj)} (h : St w0 w p D B) (v : Int) : Calls Try.prog 11 #[.int .i64 v] w fun e w' => e = .returned (.string (rowB v)) ∧ St w0 w' p D B := s_row h v
theorem s_alive {w0 w : World} {p : Nat} {D : Dm} {B : List (Nat × Obj)} (h : St w0 w p D B) : Calls Try.prog 9 #[] w fun e w' => e = .returned (.bool true) ∧ St w0 w' p D B := Calls.ob h (c_alive w)
theorem rowN_zero : rowN 0 = zsec := by rfl
theorem wrap_small {n : Int} (h : -9223372036854775808 ≤ n ∧ n ≤ 9223372036854775807) : wrap64 n = n := by unfold wrap64; omega
/-- DiskRoom's disk behind k writes -/
def roomQ (k : Nat) : List (Int × List Int) := (List.range k).map fun (i : Nat) => ((1 : Int), rowN ((i : Int) + 1))
theorem roomQ_succ (k : Nat) : roomQ (k + 1) = roomQ k ++ [((1 : Int), rowN ((k : Int) + 1))] := by simp [roomQ, List.range_succ]
theorem roomQ_length (k : Nat) : (roomQ k).length = k := by simp [roomQ]
def roomD (n k : Nat) : Dm := { newD 4 with room := (n : Int) - k, q := roomQ k, writes := k }
theorem room_ask (n k : Nat) : askS (roomD n k) 1 = 0 := by
  unfold askS
  rw [if_neg (by simp [roomD, newD]), if_neg (by simp [roomD, newD])]
theorem roomD_ok {n k : Nat} (hn : n ≤ 60) (hk : k ≤ n) : DOk (roomD n k) := ⟨by simp only [roomD]; omega, by simp only [roomD]; omega, by simp [roomD, newD], by simp only [roomD, roomQ_length]; omega⟩
theorem room_writeE {n k : Nat} (hk : k < n) (v : Int) : writeE (roomD n k) 1 (rowB v) = 0 := by
  unfold writeE
  rw [if_neg (fun e => e (room_ask n k)), if_neg (fun e => e (rowB_size v)), if_neg (show ¬ (roomD n k).room = 0 by simp only [roomD]; omega), if_neg (by simp [roomD, newD])]
theorem room_writeD {n k : Nat} (hk : k < n) (hn : n ≤ 60) : writeD (roomD n k) 1 (rowB ((k : Int) + 1)) = roomD n (k + 1) := by
  unfold writeD
  rw [if_neg (fun e => e (room_ask n k)), if_neg (fun e => e (rowB_size _)), if_neg (show ¬ (roomD n k).room = 0 by simp only [roomD]; omega), if_neg (by simp [roomD, newD]), rowB_bts]
  unfold writeS takenS
  have e1 : (if (0 : Int) < (roomD n k).room then (roomD n k).room - 1 else (roomD n k).room) = (n : Int) - ((k + 1 : Nat) : Int) := by
    rw [if_pos (show (0 : Int) < (roomD n k).room by simp only [roomD]; omega)]
    simp only [roomD]
    omega
  have e2 : wrap64 ((roomD n k).writes + 1) = ((k + 1 : Nat) : Int) := by
    simp only [roomD]
    rw [wrap_small (by omega)]
    omega
  simp only [e1, e2]
  simp [roomD, newD, roomQ_succ]
theorem room_full (n : Nat) (v : Int) : writeE (roomD n n) 1 (rowB v) = 83 ∧ writeD (roomD n n) 1 (rowB v) = roomD n n := by
  unfold writeE writeD
  constructor
  · rw [if_neg (fun e => e (room_ask n n)), if_neg (fun e => e (rowB_size v)), if_pos (show (roomD n n).room = 0 by simp only [roomD]; omega)]
  · rw [if_neg (fun e => e (room_ask n n)), if_neg (fun e => e (rowB_size v)), if_pos (show (roomD n n).room = 0 by simp only [roomD]; omega)]
theorem room_lay (n : Nat) : ∀ k, k ≤ n → layK (List.replicate 4 zsec) (roomQ n) k = [zsec, rowN k, zsec, zsec]
  | 0, _ => by rfl
  | k + 1, h => by
    have hg : (roomQ n)[k]? = some ((1 : Int), rowN ((k : Int) + 1)) := by
      rw [roomQ, List.getElem?_map, List.getElem?_range (by omega)]
      rfl
    rw [layK_succ hg, room_lay n k (by omega)]
    simp
/-- behind its sync -/
def roomE (n : Nat) (r : Int) : Dm := { newD 4 with secs := [zsec, rowN n, zsec, zsec], room := r, writes := n }
theorem room_sync (n : Nat) : syncE (roomD n n) = 0 ∧ syncD (roomD n n) = roomE n 0 := by
  unfold syncE syncD
  rw [if_neg (by simp [roomD, newD]), if_neg (by simp [roomD, newD]), if_neg (by simp [roomD, newD]), if_neg (by simp [roomD, newD])]
  refine ⟨rfl, ?_⟩
  have e : layK (roomD n n).secs (roomD n n).q (roomD n n).q.length = [zsec, rowN n, zsec, zsec] := by
    have := room_lay n n (Nat.le_refl _)
    simp only [roomD, newD, roomQ_length]
    exact this
  simp only [e]
  simp [roomD, roomE, newD]
theorem roomE_read (n : Nat) (r : Int) : readE (roomE n r) 1 = 0 ∧ readS (roomE n r) 1 = rowB n := by
  have h : askS (roomE n r) 1 = 0 := by
    unfold askS
    rw [if_neg (by simp [roomE, newD]), if_neg (by simp [roomE])]
  refine ⟨h, ?_⟩
  unfold readS
  rw [if_neg (fun e => e h)]
  rfl
theorem roomE_last (n : Nat) (h : n ≤ 60) (v : Int) : writeE (roomE n (-1)) 1 (rowB v) = 0 ∧ (writeD (roomE n (-1)) 1 (rowB v)).writes = (n : Int) + 1 := by
  have ha : askS (roomE n (-1)) 1 = 0 := by
    unfold askS
    rw [if_neg (by simp [roomE, newD]), if_neg (by simp [roomE])]
  unfold writeE writeD
  rw [if_neg (fun e => e ha), if_neg (fun e => e (rowB_size v)), if_neg (by simp [roomE]), if_neg (by simp [roomE, newD]), if_neg (fun e => e ha), if_neg (fun e => e (rowB_size v)), if_neg (by simp [roomE]), if_neg (by simp [roomE, newD])]
  refine ⟨rfl, ?_⟩
  show wrap64 ((n : Int) + 1) = _
  exact wrap_small (by omega)
theorem roomE_ok (n : Nat) (r : Int) (h1 : -1 ≤ r) (h2 : r ≤ 100) : DOk (roomE n r) := ⟨by simpa [roomE] using h1, by simp only [roomE]; omega, by simp [roomE, newD], by simp [roomE, newD]⟩
theorem roomE_room (n : Nat) : ({ roomE n 0 with room := roomS (-1) } : Dm) = roomE n (-1) := by simp [roomE, roomS]
theorem room_begin (n : Nat) : ({ newD 4 with room := roomS n } : Dm) = roomD n 0 := by
  have : roomS (n : Int) = n := by unfold roomS; rw [if_neg (by omega)]
  rw [this]
  simp [roomD, roomQ, newD]
set_option maxRecDepth 100000 in
theorem walk_DiskRoom (n : Int) (hb : -9223372036854775808 ≤ n ∧ n ≤ 9223372036854775807) (w : World) : Calls Try.prog 4 #[.int .i64 n] w fun e w' => e = .returned (.bool true) ∧ Below w.heap.size w w' := by
  have ka : ∀ w0, Calls Try.prog 9 #[] w0 fun e w' => e = .returned (.bool true) ∧ Below w0.heap.size w0 w' := c_alive
  replace ka := Lib.hid ka
  by_cases h1 : n < 0
  · have d1 : decide (n < 0) = true := decide_eq_true h1
    go_enter Try.func4, Try.ntmps4
    go_wp2_with (go_at_call 9; refine (ka.out _).mono ?_; rintro e w1 ⟨rfl, hb⟩; have HB := Lib.hid hb; clear hb)
    go_ret
    exact ⟨rfl, HB.out⟩
  by_cases h2 : 60 < n
  · have d1 : decide (n < 0) = false := decide_eq_false h1
    have d2 : decide (60 < n) = true := decide_eq_true h2
    go_enter Try.func4, Try.ntmps4
    go_wp2_with (go_at_call 9; refine (ka.out _).mono ?_; rintro e w1 ⟨rfl, hb⟩; have HB := Lib.hid hb; clear hb)
    go_ret
    exact ⟨rfl, HB.out⟩
  obtain ⟨n, rfl⟩ := Int.eq_ofNat_of_zero_le (show 0 ≤ n by omega)
  have hn : n ≤ 60 := by omega
  have d1 : decide ((n : Int) < 0) = false := decide_eq_false h1
  have d2 : decide ((60 : Int) < (n : Int)) = false := decide_eq_false h2
  clear h1 h2 hb
  have k1 := Lib.hid (s_New (w0 := w) (B := []) (Below.refl _ w) 4 (by omega) (by omega) (fun x hx => by cases hx))
  go_enter Try.func4, Try.ntmps4
  go_wp2_with (first
    | (go_at_call 10; refine k1.out.mono ?_; rintro e w1 ⟨p, rfl, hs⟩; have k2 := s_Room hs n; rw [room_begin] at k2; replace k2 := Lib.hid k2; clear hs)
    | (go_at_call 18; refine k2.out.mono ?_; rintro e w2 ⟨rfl, hs⟩; have HS := Lib.hid hs; clear hs))
  go_loopw [5] (fun i wr => ∃ k : Nat, k ≤ n ∧ i = .int .i64 k ∧ St w wr p (roomD n k) []) (fun i _ => n - (intOf i).toNat)
  case atStart => exact ⟨0, Nat.zero_le _, rfl, HS.out⟩
  case round =>
    obtain ⟨k, hk, rfl, hst⟩ := hrel
    by_cases hkn : k < n
    · have d3 : decide ((k : Int) < (n : Int)) = true := by simp; omega
      have hk1 : Hid (k + 1 ≤ n) := Lib.hid (by omega)
      have k3 := Lib.hid (s_row hst ((k : Int) + 1))
      have H4 : ∀ w4, St w w4 p (roomD n k) [] → Calls Try.prog 13 #[.pointer (some ⟨p, 0, none⟩), .int .i64 1, .string (rowB ((k : Int) + 1))] w4 fun e w' => e = .returned (.int .i64 0) ∧ St w w' p (roomD n (k + 1)) [] := fun w4 h => by
        have := s_Write h (roomD_ok hn (Nat.le_of_lt hkn)) 1 (rowB ((k : Int) + 1))
        rw [room_writeE hkn, room_writeD hkn hn] at this
        exact this
      replace H4 := Lib.hid H4
      clear hst hkn
      go_wp2_with (first
        | (go_at_call 11; refine k3.out.mono ?_; rintro e w3 ⟨rfl, hs⟩; have HS3 := Lib.hid hs; clear hs)
        | (go_at_call 13; refine (H4.out _ HS3.out).mono ?_; rintro e w4 ⟨rfl, hs⟩; have HS4 := Lib.hid hs; clear hs))
      exact ⟨⟨k + 1, hk1.out, by simp, HS4.out⟩, by have := hk1.out; simp [intOf]; omega⟩
    · obtain rfl : k = n := by omega
      have d3 : decide ((k : Int) < (k : Int)) = false := by simp
      have HS := Lib.hid hst
      have W1 : ∀ w4, St w w4 p (roomD k k) [] → Calls Try.prog 13 #[.pointer (some ⟨p, 0, none⟩), .int .i64 1, .string (rowB 99)] w4 fun e w' => e = .returned (.int .i64 83) ∧ St w w' p (roomD k k) [] := fun w4 h => by
        have := s_Write h (roomD_ok hn (Nat.le_refl _)) 1 (rowB 99)
        rw [(room_full k 99).1, (room_full k 99).2] at this
        exact this
      have S1 : ∀ w4, St w w4 p (roomD k k) [] → Calls Try.prog 12 #[.pointer (some ⟨p, 0, none⟩)] w4 fun e w' => e = .returned (.int .i64 0) ∧ St w w' p (roomE k 0) [] := fun w4 h => by
        have := s_Sync h (roomD_ok hn (Nat.le_refl _))
        rw [(room_sync k).1, (room_sync k).2] at this
        exact this
      have R1 : ∀ w4, St w w4 p (roomE k 0) [] → Calls Try.prog 16 #[.pointer (some ⟨p, 0, none⟩), .int .i64 1] w4 fun e w' => e = .returned (.tuple #[.string (rowB k), .int .i64 0]) ∧ St w w' p (roomE k 0) [] := fun w4 h => by
        have := s_Read h 1
        rw [(roomE_read k 0).1, (roomE_read k 0).2] at this
        exact this
      have O1 : ∀ w4, St w w4 p (roomE k 0) [] → Calls Try.prog 18 #[.pointer (some ⟨p, 0, none⟩), .int .i64 (-1)] w4 fun e w' => e = .returned (.tuple #[]) ∧ St w w' p (roomE k (-1)) [] := fun w4 h => by
        have := s_Room h (-1)
        rw [roomE_room] at this
        exact this
      obtain ⟨DL, hDL⟩ : ∃ DL, DL = writeD (roomE k (-1)) 1 (rowB 99) := ⟨_, rfl⟩
      have W2 : ∀ w4, St w w4 p (roomE k (-1)) [] → Calls Try.prog 13 #[.pointer (some ⟨p, 0, none⟩), .int .i64 1, .string (rowB 99)] w4 fun e w' => e = .returned (.int .i64 0) ∧ St w w' p DL [] := fun w4 h => by
        have := s_Write h (roomE_ok k (-1) (by omega) (by omega)) 1 (rowB 99)
        rw [(roomE_last k hn 99).1, ← hDL] at this
        exact this
      have N1 : ∀ w4, St w w4 p DL [] → Calls Try.prog 19 #[.pointer (some ⟨p, 0, none⟩)] w4 fun e w' => e = .returned (.int .i64 ((k : Int) + 1)) ∧ w4 = w' := fun w4 h => by
        have := s_Writes h
        rw [hDL, (roomE_last k hn 99).2] at this
        exact this
      replace W1 := Lib.hid W1
      replace S1 := Lib.hid S1
      replace R1 := Lib.hid R1
      replace O1 := Lib.hid O1
      replace W2 := Lib.hid W2
      replace N1 := Lib.hid N1
      clear hst hDL hkn
      go_wp2_with (first
        | (go_at_call 11; refine (s_rowB HS.out _).mono ?_; rintro e w3 ⟨rfl, hs⟩; clear HS; have HS := Lib.hid hs; clear hs)
        | (go_at_call 13; (first | (with_reducible refine (W1.out _ HS.out).mono ?_) | (with_reducible refine (W2.out _ HS.out).mono ?_)); rintro e w3 ⟨rfl, hs⟩; clear HS; have HS := Lib.hid hs; clear hs)
        | (go_at_call 12; refine (S1.out _ HS.out).mono ?_; rintro e w3 ⟨rfl, hs⟩; clear HS; have HS := Lib.hid hs; clear hs)
        | (go_at_call 16; refine (R1.out _ HS.out).mono ?_; rintro e w3 ⟨rfl, hs⟩; clear HS; have HS := Lib.hid hs; clear hs)
        | (go_at_call 18; refine (O1.out _ HS.out).mono ?_; rintro e w3 ⟨rfl, hs⟩; clear HS; have HS := Lib.hid hs; clear hs)
        | (go_at_call 9; refine (s_alive HS.out).mono ?_; rintro e w3 ⟨rfl, hs⟩; clear HS; have HS := Lib.hid hs; clear hs)
        | (go_at_call 19; refine (N1.out _ HS.out).mono ?_; rintro e w3 ⟨rfl, hw⟩; subst hw))
      go_ret
      exact ⟨rfl, HS.out.below⟩
end Go.Proofs.YtcbaflnmfiofeaaDk
