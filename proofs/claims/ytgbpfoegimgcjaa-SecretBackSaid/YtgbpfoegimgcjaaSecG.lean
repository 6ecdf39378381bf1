/-
  SecretHides and SecretBack: the laws' calls answer true. Condition: Go's own sizes.
-/
import Derived.Test.YtgbpfoegimgcjaaSecF
namespace Go.Proofs.YtgbpfoegimgcjaaOc
open Go.Proofs.YtgbpfoegimgcjaaCls Go.RowKit Go.Proofs.YtgbpfoegimgcjaaW.PrintWords Go.Proofs.YtgbpfoegimgcjaaW.PrintMore Go.Proofs.Ytgbpfoegimgcjaa.PU
set_option linter.unusedVariables false
set_option linter.unusedSimpArgs false

theorem cls_below (w w0 : World) (h0 : Below w.heap.size w w0) : ∃ (ι : Type) (φ : ι → World), Nonempty ι ∧ (∃ i, w0 = φ i) ∧ Hid ((∀ i, Below w.heap.size w (φ i)) ∧ (∀ W, Below w.heap.size w W → ∃ i, W = φ i) ∧ (∀ W W', Below w.heap.size w W → Below W.heap.size W W' → Below w.heap.size w W')) := by
  obtain ⟨ι, φ, hι, hD, hS⟩ := cls_of (fun W => Below w.heap.size w W) w0 h0
  exact ⟨ι, φ, hι, hS _ h0, Lib.hid ⟨hD, hS, fun W W' h hb => bstep h hb h.size⟩⟩
set_option maxRecDepth 100000 in
set_option maxHeartbeats 1000000 in
theorem walk_SecretHides (salt : Int) (p s : ByteArray) (hs0 : -9223372036854775808 ≤ salt ∧ salt ≤ 9223372036854775807) (hp : p.size ≤ 140737488351232) (hst : s.size ≤ 140737488351232) (w : World) :
    Calls Try.prog 3 #[.int .i64 salt, .string p, .string s] w fun e w' => e = .returned (.bool true) ∧ Below w.heap.size w w' := by
  have hs := hs0.2
  clear hs0
  by_cases h1 : (3000 : Int) < (p.size : Int)
  · have d1 := decide_eq_true h1
    go_enter Try.func3, Try.ntmps3
    go_wp2_with (go_at_call 5; refine (c_alive _).mono ?_; rintro e w' ⟨rfl, hb⟩)
    go_ret
    exact ⟨rfl, hb⟩
  have d1 : decide ((3000 : Int) < (p.size : Int)) = false := decide_eq_false h1
  by_cases h2 : (3000 : Int) < (s.size : Int)
  · have d2 := decide_eq_true h2
    go_enter Try.func3, Try.ntmps3
    go_wp2_with (go_at_call 5; refine (c_alive _).mono ?_; rintro e w' ⟨rfl, hb⟩)
    go_ret
    exact ⟨rfl, hb⟩
  have d2 : decide ((3000 : Int) < (s.size : Int)) = false := decide_eq_false h2
  have k0 : Hid (∀ W, Calls Try.prog 5 #[] W fun e w' => e = .returned (.bool true) ∧ Below W.heap.size W w') := Lib.hid fun W => c_alive W
  have k1 : Hid (∀ W, Calls Try.prog 6 #[.int .i64 salt, .string p] W fun e w' => e = .returned (.tuple #[.string (hideS salt p).1, .int .i64 (hideS salt p).2]) ∧ Below W.heap.size W w') := Lib.hid fun W => c_Hide salt p (by omega) W
  have k2 : Hid (∀ W, Calls Try.prog 7 #[.int .i64 salt, .string p] W fun e w' => e = .returned (.tuple #[.string (hideS salt p).1, .int .i64 (hideS salt p).2]) ∧ Below W.heap.size W w') :=
    Lib.hid fun W => chanceryref17_Hide.calls 5000 salt p _ _ W (rhide_eq salt hs p 5000 (by omega))
  obtain ⟨r1, hr1, hr2⟩ := hidden_same s (by omega)
  obtain ⟨r2, hr3, hr4⟩ := check_same s p (by omega) (by omega)
  have k3 := Lib.hid hr1
  have k4 : Hid (∀ W, Calls Try.prog 9 #[.string s] W fun e w' => e = .returned (.bool r1) ∧ Below W.heap.size W w') := Lib.hid fun W => (chanceryref17_Hidden.calls 5000 s r1 W hr2).mono fun _ _ ⟨he, hd⟩ => ⟨he, hd.below⟩
  have k5 := Lib.hid hr3
  have k6 : Hid (∀ W, Calls Try.prog 11 #[.string s, .string p] W fun e w' => e = .returned (.bool r2) ∧ Below W.heap.size W w') := Lib.hid fun W => chanceryref17_Check.calls 5000 s p r2 W hr4
  generalize hideS salt p = H at *
  obtain ⟨T, E⟩ := H
  simp only at k1 k2
  clear hr1 hr2 hr3 hr4 h1 h2 hs hp hst
  go_enter Try.func3, Try.ntmps3
  have hb1 := Below.refl w.heap.size w
  go_wp2_with (first
    | (go_at_call 6; with_reducible (refine (k1.out _).mono ?_); rintro e w1 ⟨rfl, hb2⟩; replace hb1 := bstep hb1 hb2 hb1.size; clear hb2)
    | (go_at_call 7; with_reducible (refine (k2.out _).mono ?_); rintro e w1 ⟨rfl, hb2⟩; replace hb1 := bstep hb1 hb2 hb1.size; clear hb2)
    | (go_at_call 5; with_reducible (refine (k0.out _).mono ?_); rintro e w1 ⟨rfl, hb2⟩; replace hb1 := bstep hb1 hb2 hb1.size; clear hb2)
    | (go_at_call 8; with_reducible (refine (k3.out _).mono ?_); rintro e w1 ⟨rfl, hb2⟩; replace hb1 := bstep hb1 hb2 hb1.size; clear hb2)
    | (go_at_call 9; with_reducible (refine (k4.out _).mono ?_); rintro e w1 ⟨rfl, hb2⟩; replace hb1 := bstep hb1 hb2 hb1.size; clear hb2)
    | (go_at_call 10; with_reducible (refine (k5.out _).mono ?_); rintro e w1 ⟨rfl, hb2⟩; replace hb1 := bstep hb1 hb2 hb1.size; clear hb2)
    | (go_at_call 11; with_reducible (refine (k6.out _).mono ?_); rintro e w1 ⟨rfl, hb2⟩; replace hb1 := bstep hb1 hb2 hb1.size; clear hb2))
  go_ret
  exact ⟨by simp, hb1⟩
theorem hideS_ok {a : Int} {p : ByteArray} (h : (hideS a p).2 = 0) : (0 ≤ a ∧ a < 4294967296) ∧ p.size ≤ 1024 ∧ (hideS a p).1 = secPart (b4 a) p 4 := by
  unfold hideS at h ⊢
  by_cases h1 : 0 ≤ a ∧ a < 4294967296
  · rw [if_neg (c := ¬ (0 ≤ a ∧ a < 4294967296)) (fun hn => hn h1)] at h ⊢
    by_cases h2 : 1024 < p.size
    · rw [if_pos h2] at h; cases h
    · rw [if_neg h2]; exact ⟨h1, by omega, rfl⟩
  · rw [if_pos h1] at h; cases h
theorem hideS_err {a : Int} {p : ByteArray} (h : (hideS a p).2 ≠ 0) : (a < 0 ∨ a ≥ 4294967296) ∨ 1024 < p.size := by
  unfold hideS at h
  by_cases h1 : 0 ≤ a ∧ a < 4294967296
  · rw [if_neg (c := ¬ (0 ≤ a ∧ a < 4294967296)) (fun hn => hn h1)] at h
    by_cases h2 : 1024 < p.size
    · exact .inr h2
    · rw [if_neg h2] at h; exact absurd rfl h
  · exact .inl (by omega)
theorem secPart_inj {a b : Int} {p : ByteArray} (ha : 0 ≤ a ∧ a < 4294967296) (hb : 0 ≤ b ∧ b < 4294967296) (h : secPart (b4 a) p 4 = secPart (b4 b) p 4) : a = b := by
  rw [secPart_eq, secPart_eq] at h
  have h1 := hidden_3 (b4_size a) (allSums (b4 a) p 4)
  have h2 := hidden_3 (b4_size b) (allSums (b4 b) p 4)
  have h3 : hidden (b4 a) (allSums (b4 a) p 4) = hidden (b4 b) (allSums (b4 b) p 4) := h
  rw [h3, h2] at h1
  exact b4_inj a b ha hb (hexS_inj h1).symm
set_option maxRecDepth 100000 in
set_option maxHeartbeats 1000000 in
theorem back_yes (a b : Int) (p T U : ByteArray) (he : (T.toList == U.toList) = (a == b)) (w : World)
    (k0 : Hid (∀ W, Calls Try.prog 5 #[] W fun e w' => e = .returned (.bool true) ∧ Below W.heap.size W w'))
    (k1 : Hid (∀ W, Calls Try.prog 6 #[.int .i64 a, .string p] W fun e w' => e = .returned (.tuple #[.string T, .int .i64 0]) ∧ Below W.heap.size W w'))
    (k2 : Hid (∀ W, Calls Try.prog 6 #[.int .i64 b, .string p] W fun e w' => e = .returned (.tuple #[.string U, .int .i64 0]) ∧ Below W.heap.size W w'))
    (k3 : Hid (∀ W, Calls Try.prog 10 #[.string T, .string p] W fun e w' => e = .returned (.bool true) ∧ Below W.heap.size W w'))
    (k4 : Hid (∀ W, Calls Try.prog 10 #[.string U, .string p] W fun e w' => e = .returned (.bool true) ∧ Below W.heap.size W w'))
    (k5 : Hid (∀ W, Calls Try.prog 8 #[.string T] W fun e w' => e = .returned (.bool true) ∧ Below W.heap.size W w')) :
    Calls Try.prog 4 #[.int .i64 a, .int .i64 b, .string p] w fun e w' => e = .returned (.bool true) ∧ Below w.heap.size w w' := by
  have hb1 := Below.refl w.heap.size w
  have HE := Lib.hid he
  clear he
  go_enter Try.func4, Try.ntmps4
  go_wp2_with (first
    | (go_at_call_of 6 a; with_reducible (refine (k1.out _).mono ?_); rintro e w1 ⟨rfl, hb2⟩; replace hb1 := bstep hb1 hb2 hb1.size; clear hb2)
    | (go_at_call_of 6 b; with_reducible (refine (k2.out _).mono ?_); rintro e w1 ⟨rfl, hb2⟩; replace hb1 := bstep hb1 hb2 hb1.size; clear hb2)
    | (go_at_call 5; with_reducible (refine (k0.out _).mono ?_); rintro e w1 ⟨rfl, hb2⟩; replace hb1 := bstep hb1 hb2 hb1.size; clear hb2)
    | (go_at_call_of 10 T; with_reducible (refine (k3.out _).mono ?_); rintro e w1 ⟨rfl, hb2⟩; replace hb1 := bstep hb1 hb2 hb1.size; clear hb2)
    | (go_at_call_of 10 U; with_reducible (refine (k4.out _).mono ?_); rintro e w1 ⟨rfl, hb2⟩; replace hb1 := bstep hb1 hb2 hb1.size; clear hb2)
    | (go_at_call 8; with_reducible (refine (k5.out _).mono ?_); rintro e w1 ⟨rfl, hb2⟩; replace hb1 := bstep hb1 hb2 hb1.size; clear hb2))
  go_ret
  exact ⟨by rw [← HE.out]; simp, hb1⟩
set_option maxRecDepth 100000 in
set_option maxHeartbeats 1000000 in
theorem back_no (a b : Int) (p T U : ByteArray) (E F : Int) (hE : E ≠ 0 ∨ F ≠ 0) (hr : (a < 0 ∨ a ≥ 4294967296) ∨ (b < 0 ∨ b ≥ 4294967296) ∨ 1024 < p.size) (w : World)
    (k0 : Hid (∀ W, Calls Try.prog 5 #[] W fun e w' => e = .returned (.bool true) ∧ Below W.heap.size W w'))
    (k1 : Hid (∀ W, Calls Try.prog 6 #[.int .i64 a, .string p] W fun e w' => e = .returned (.tuple #[.string T, .int .i64 E]) ∧ Below W.heap.size W w'))
    (k2 : Hid (∀ W, Calls Try.prog 6 #[.int .i64 b, .string p] W fun e w' => e = .returned (.tuple #[.string U, .int .i64 F]) ∧ Below W.heap.size W w')) :
    Calls Try.prog 4 #[.int .i64 a, .int .i64 b, .string p] w fun e w' => e = .returned (.bool true) ∧ Below w.heap.size w w' := by
  have hb1 := Below.refl w.heap.size w
  have H : ((E != 0) = true ∨ ((E != 0) = false ∧ (F != 0) = true)) := by
    by_cases h : E = 0
    · right; exact ⟨by simp [h], by simpa using hE.resolve_left (fun hn => hn h)⟩
    · left; simpa using h
  have R : (decide (a < 0) = true) ∨ (decide (a < 0) = false ∧ decide (4294967296 ≤ a) = true) ∨ (decide (a < 0) = false ∧ decide (4294967296 ≤ a) = false ∧ decide (b < 0) = true) ∨
      (decide (a < 0) = false ∧ decide (4294967296 ≤ a) = false ∧ decide (b < 0) = false ∧ decide (4294967296 ≤ b) = true) ∨
      (decide (a < 0) = false ∧ decide (4294967296 ≤ a) = false ∧ decide (b < 0) = false ∧ decide (4294967296 ≤ b) = false ∧ decide ((1024 : Int) < (p.size : Int)) = true) := by
    simp only [decide_eq_true_eq, decide_eq_false_iff_not]
    omega
  clear hE hr
  rcases H with d1 | ⟨d1, d2⟩ <;> rcases R with d3 | ⟨d3, d4⟩ | ⟨d3, d4, d5⟩ | ⟨d3, d4, d5, d6⟩ | ⟨d3, d4, d5, d6, d7⟩
  all_goals
    go_enter Try.func4, Try.ntmps4
    go_wp2_with (first
      | (go_at_call_of 6 a; with_reducible (refine (k1.out _).mono ?_); rintro e w1 ⟨rfl, hb2⟩; replace hb1 := bstep hb1 hb2 hb1.size; clear hb2)
      | (go_at_call_of 6 b; with_reducible (refine (k2.out _).mono ?_); rintro e w1 ⟨rfl, hb2⟩; replace hb1 := bstep hb1 hb2 hb1.size; clear hb2)
      | (go_at_call 5; with_reducible (refine (k0.out _).mono ?_); rintro e w1 ⟨rfl, hb2⟩; replace hb1 := bstep hb1 hb2 hb1.size; clear hb2))
    go_ret
    exact ⟨by simp [*], hb1⟩
theorem walk_SecretBack (a b : Int) (p : ByteArray) (_ha : -9223372036854775808 ≤ a ∧ a ≤ 9223372036854775807) (_hb : -9223372036854775808 ≤ b ∧ b ≤ 9223372036854775807) (hp : p.size ≤ 140737488351232) (w : World) :
    Calls Try.prog 4 #[.int .i64 a, .int .i64 b, .string p] w fun e w' => e = .returned (.bool true) ∧ Below w.heap.size w w' := by
  have k0 : Hid (∀ W, Calls Try.prog 5 #[] W fun e w' => e = .returned (.bool true) ∧ Below W.heap.size W w') := Lib.hid fun W => c_alive W
  have kk : ∀ c, Hid (∀ W, Calls Try.prog 6 #[.int .i64 c, .string p] W fun e w' => e = .returned (.tuple #[.string (hideS c p).1, .int .i64 (hideS c p).2]) ∧ Below W.heap.size W w') := fun c => Lib.hid fun W => c_Hide c p (by omega) W
  by_cases h1 : (hideS a p).2 = 0
  · by_cases h2 : (hideS b p).2 = 0
    · obtain ⟨ra, rp, ea⟩ := hideS_ok h1
      obtain ⟨rb, _, eb⟩ := hideS_ok h2
      have k1 := kk a
      have k2 := kk b
      rw [h1, ea] at k1
      rw [h2, eb] at k2
      refine back_yes a b p _ _ ?_ w k0 k1 k2 (Lib.hid fun W => check_hide a p rp W) (Lib.hid fun W => check_hide b p rp W) (Lib.hid fun W => hidden_hide a p W)
      by_cases hab : a = b
      · subst hab; simp
      · have : ¬ (secPart (b4 a) p 4).toList = (secPart (b4 b) p 4).toList := fun h => hab (secPart_inj ra rb (eq_of_toList h))
        rw [Bool.eq_iff_iff]
        simp [hab, this]
    · exact back_no a b p _ _ _ _ (.inr h2) (by have := hideS_err h2; omega) w k0 (kk a) (kk b)
  · exact back_no a b p _ _ _ _ (.inl h1) (by have := hideS_err h1; omega) w k0 (kk a) (kk b)
end Go.Proofs.YtgbpfoegimgcjaaOc
