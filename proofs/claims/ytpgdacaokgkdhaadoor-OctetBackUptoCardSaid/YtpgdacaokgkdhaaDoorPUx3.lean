-- Written by a program of this session over the translation: walks of plain functions. Lean checks it.
import Derived.Test.YtpgdacaokgkdhaaDoorPUx0
namespace Go.Proofs.YtpgdacaokgkdhaaDoor.PU
open Go.RowKit Go.Proofs.YtpgdacaokgkdhaaDoorW.PrintWords Go.Proofs.YtpgdacaokgkdhaaDoorW.PrintLast Go.Proofs.YtpgdacaokgkdhaaDoorW.PrintMore
attribute [local go_sem] max2_int min2_int max_two min_two max_three min_three max_four min_four   -- for this text's walks alone
set_option linter.unusedVariables false
set_option linter.unusedSimpArgs false

/-! ### chanceryref1_Signed: function 18 -/
mutual
def chanceryref1_Signed.j0 : Nat → ByteArray → Bool → Option (Int × Int)
  | 0, _, _ => none
  | k + 1, x0, x13 => if x13 = true then (some (0, 1)) else (if 0 < (x0.size : Int) then (if (bt x0 0) ≥ 128 then (chanceryref1_Signed.j1 k x0 (-1)) else (chanceryref1_Signed.j1 k x0 0)) else (none))
def chanceryref1_Signed.j1 : Nat → ByteArray → Int → Option (Int × Int)
  | 0, _, _ => none
  | k + 1, x0, x4 => chanceryref1_Signed.l0 k x0 x4 0
def chanceryref1_Signed.l0 : Nat → ByteArray → Int → Int → Option (Int × Int)
  | 0, _, _, _ => none
  | k + 1, x0, x4, x5 => if x5 < (x0.size : Int) then (if 0 ≤ x5 then (chanceryref1_Signed.l0 k x0 (wrap64 ((wrap64 (x4 * 256)) + (wrap64 (bt x0 x5)))) (wrap64 (x5 + 1))) else (none)) else (some (x4, 0))
end
def chanceryref1_Signed.f (k : Nat) (a0 : ByteArray) : Option (Int × Int) := if (a0.size : Int) < 1 then (chanceryref1_Signed.j0 k a0 true) else (chanceryref1_Signed.j0 k a0 (decide ((a0.size : Int) > 8)))
theorem chanceryref1_Signed.mono_l : ∀ k, (∀ y0 y1, LeO (chanceryref1_Signed.j0 k y0 y1) (chanceryref1_Signed.j0 (k + 1) y0 y1)) ∧ (∀ y0 y1, LeO (chanceryref1_Signed.j1 k y0 y1) (chanceryref1_Signed.j1 (k + 1) y0 y1)) ∧ (∀ y0 y1 y2, LeO (chanceryref1_Signed.l0 k y0 y1 y2) (chanceryref1_Signed.l0 (k + 1) y0 y1 y2))
  | 0 => ⟨fun _ _ r h => by simp [chanceryref1_Signed.j0] at h, fun _ _ r h => by simp [chanceryref1_Signed.j1] at h, fun _ _ _ r h => by simp [chanceryref1_Signed.l0] at h⟩
  | k + 1 => by
    obtain ⟨ih0, ih1, ih2⟩ := chanceryref1_Signed.mono_l k
    refine ⟨?_, ?_, ?_⟩
    · intro y0 y1
      unfold chanceryref1_Signed.j0
      repeat' first
      | (with_reducible exact ih0 _ _)
      | (with_reducible exact ih1 _ _)
      | (with_reducible exact ih2 _ _ _)
      | (with_reducible exact LeO.refl _)
      | (with_reducible exact LeO.none _)
      | (with_reducible refine LeO.ite ?_ ?_)
      | (with_reducible refine LeO.bind ?_ (fun _ => ?_))
      | exact ih0 _ _
      | exact ih1 _ _
      | exact ih2 _ _ _
      | exact LeO.none _
      | refine LeO.ite ?_ ?_
      | refine LeO.bind ?_ (fun _ => ?_)
    · intro y0 y1
      unfold chanceryref1_Signed.j1
      repeat' first
      | (with_reducible exact ih0 _ _)
      | (with_reducible exact ih1 _ _)
      | (with_reducible exact ih2 _ _ _)
      | (with_reducible exact LeO.refl _)
      | (with_reducible exact LeO.none _)
      | (with_reducible refine LeO.ite ?_ ?_)
      | (with_reducible refine LeO.bind ?_ (fun _ => ?_))
      | exact ih0 _ _
      | exact ih1 _ _
      | exact ih2 _ _ _
      | exact LeO.none _
      | refine LeO.ite ?_ ?_
      | refine LeO.bind ?_ (fun _ => ?_)
    · intro y0 y1 y2
      unfold chanceryref1_Signed.l0
      repeat' first
      | (with_reducible exact ih0 _ _)
      | (with_reducible exact ih1 _ _)
      | (with_reducible exact ih2 _ _ _)
      | (with_reducible exact LeO.refl _)
      | (with_reducible exact LeO.none _)
      | (with_reducible refine LeO.ite ?_ ?_)
      | (with_reducible refine LeO.bind ?_ (fun _ => ?_))
      | exact ih0 _ _
      | exact ih1 _ _
      | exact ih2 _ _ _
      | exact LeO.none _
      | refine LeO.ite ?_ ?_
      | refine LeO.bind ?_ (fun _ => ?_)
theorem chanceryref1_Signed.mono : ∀ a0 k, LeO (chanceryref1_Signed.f k a0) (chanceryref1_Signed.f (k + 1) a0) := by
  intro a0 k
  obtain ⟨ih0, ih1, ih2⟩ := chanceryref1_Signed.mono_l k
  unfold chanceryref1_Signed.f
  repeat' first
      | (with_reducible exact ih0 _ _)
      | (with_reducible exact ih1 _ _)
      | (with_reducible exact ih2 _ _ _)
      | (with_reducible exact LeO.refl _)
      | (with_reducible exact LeO.none _)
      | (with_reducible refine LeO.ite ?_ ?_)
      | (with_reducible refine LeO.bind ?_ (fun _ => ?_))
      | exact ih0 _ _
      | exact ih1 _ _
      | exact ih2 _ _ _
      | exact LeO.none _
      | refine LeO.ite ?_ ?_
      | refine LeO.bind ?_ (fun _ => ?_)
set_option maxHeartbeats 8000000 in
set_option maxRecDepth 100000 in
theorem chanceryref1_Signed.calls (k : Nat) (a0 : ByteArray) (r1 : Int) (r2 : Int) (w : World) (h : chanceryref1_Signed.f k a0 = some (r1, r2)) :
    Calls Tryd.prog 18 #[.string a0] w fun e w' => e = .returned (.tuple #[.int .i64 r1, .int .i64 r2]) ∧ Drawn0 w w' := by
  have H : (if (a0.size : Int) < 1 then (chanceryref1_Signed.j0 k a0 true) else (chanceryref1_Signed.j0 k a0 (decide ((a0.size : Int) > 8)))) = some (r1, r2) := h
  clear h
  have HC2 := Aside0.mk H
  clear H
  go_enter Tryd.func18, Tryd.ntmps18
  go_upto_region 1 with (fail)
  go_cut [13] (fun v13 wc => ∃ (kq : Nat) (x13_1 : Bool), v13 = .bool x13_1 ∧ Aside0 (chanceryref1_Signed.j0 kq a0 x13_1 = some (r1, r2)) ∧ Aside0 (kq ≤ k) ∧ Drawn0 w wc)
  case first =>
    have H := HC2.out
    clear HC2
    by_cases c3 : (a0.size : Int) < 1
    · rw [if_pos c3] at H
      have c3b0 : decide ((a0.size : Int) < 1) = true := decide_eq_true c3
      have c3b1 : decide (a0.size < 1) = true := decide_eq_true (by omega)
      clear c3
      (first | rw [c3b0] | (simp only [i64_w, i32_w]; rw [c3b0]) | skip)
      have H' := Aside0.mk H
      clear H
      go_wp2
      go_meet
      case rel => exact ⟨_, (true), (by first | rfl | (simp; done) | (simp [*]; done)), H', ⟨by first | omega | exact Nat.le_refl _⟩, by repeat (first | exact Drawn0.refl _ | apply Drawn0.step)⟩
    · rw [if_neg c3] at H
      have c3b0 : decide ((a0.size : Int) < 1) = false := decide_eq_false c3
      have c3b1 : decide (a0.size < 1) = false := decide_eq_false (by omega)
      clear c3
      (first | rw [c3b0] | (simp only [i64_w, i32_w]; rw [c3b0]) | skip)
      have H' := Aside0.mk H
      clear H
      go_wp2
      go_meet
      case rel => exact ⟨_, (decide ((a0.size : Int) > 8)), (by first | rfl | (simp; done) | (simp [*]; done)), H', ⟨by first | omega | exact Nat.le_refl _⟩, by repeat (first | exact Drawn0.refl _ | apply Drawn0.step)⟩
  case rest =>
    clear HC2
    try clear c1
    try clear p2
    try clear c3
    try clear c3b0
    try clear c3b1
    obtain ⟨kq, x13_1, rfl, HA, HJ1, ⟨mc1, rfl⟩⟩ := hcut
    cases kq with
    | zero => exact absurd HA.out (by simp [chanceryref1_Signed.j0])
    | succ kj1 =>
      have H := HA.out
      clear HA
      simp only [chanceryref1_Signed.j0] at H
      by_cases c4 : x13_1 = true
      · subst c4
        have H1 : (some (0, 1)) = some (r1, r2) := by rw [if_pos rfl] at H; exact H
        clear H
        have H := H1
        clear H1
        simp only [Option.some.injEq, Prod.mk.injEq] at H
        obtain ⟨rfl, rfl⟩ := H
        go_wp2
        go_ret2
        exact ⟨by first | rfl | (simp; done) | (simp [*]; done), by repeat (first | exact Drawn0.refl _ | apply Drawn0.step)⟩
      · replace c4 := Bool.eq_false_iff.mpr c4
        subst c4
        have H1 : (if 0 < (a0.size : Int) then (if (bt a0 0) ≥ 128 then (chanceryref1_Signed.j1 kj1 a0 (-1)) else (chanceryref1_Signed.j1 kj1 a0 0)) else (none)) = some (r1, r2) := by rw [if_neg (show ¬ (false = true) by decide)] at H; exact H
        clear H
        have H := H1
        clear H1
        by_cases c5 : 0 < (a0.size : Int)
        · rw [if_pos c5] at H
          have c5b0 : decide (0 < (a0.size : Int)) = true := decide_eq_true c5
          have c5b1 : decide (0 < a0.size) = true := decide_eq_true (by omega)
          clear c5
          have HC7 := Aside0.mk H
          clear H
          have p6 : 0 ≤ (0 : Int) := (by omega)
          have q6 : 0 < a0.size := (by have : (0 : Int) < (a0.size : Int) := of_decide_eq_true (by first | (with_reducible assumption) | assumption); omega)
          have hx6 : ∀ h : 0 < a0.size, ((a0[0]'h).toNat : Int) = bt a0 0 := bt_at a0 0
          clear p6
          have qi6 : (0 < (a0.size : Int)) = True := eq_true (of_decide_eq_true (by first | (with_reducible assumption) | assumption))
          replace q6 := eq_true q6
          go_upto_if 16 with (fail)
          go_cut [4] (fun v4 wc => ∃ (kq : Nat) (x4_6 : Int), v4 = .int .i64 x4_6 ∧ Aside0 (chanceryref1_Signed.j1 kq a0 x4_6 = some (r1, r2)) ∧ Aside0 (kq ≤ kj1) ∧ Drawn0 w wc)
          case first =>
            have H := HC7.out
            clear HC7
            by_cases c8 : (bt a0 0) ≥ 128
            · rw [if_pos c8] at H
              have c8b0 : decide (128 ≤ (bt a0 0)) = true := decide_eq_true c8
              clear c8
              (first | rw [c8b0] | (simp only [i64_w, i32_w]; rw [c8b0]) | skip)
              have H' := Aside0.mk H
              clear H
              go_wp2
              go_meet
              case rel => exact ⟨_, ((-1)), (by first | rfl | (simp; done) | (simp [*]; done)), H', ⟨by have := HJ1.out; first | omega | exact Nat.le_refl _⟩, by repeat (first | exact Drawn0.refl _ | apply Drawn0.step)⟩
            · rw [if_neg c8] at H
              have c8b0 : decide (128 ≤ (bt a0 0)) = false := decide_eq_false c8
              clear c8
              (first | rw [c8b0] | (simp only [i64_w, i32_w]; rw [c8b0]) | skip)
              have H' := Aside0.mk H
              clear H
              go_wp2
              go_meet
              case rel => exact ⟨_, (0), (by first | rfl | (simp; done) | (simp [*]; done)), H', ⟨by have := HJ1.out; first | omega | exact Nat.le_refl _⟩, by repeat (first | exact Drawn0.refl _ | apply Drawn0.step)⟩
          case rest =>
            clear HC7
            try clear c1
            try clear p2
            try clear c3
            try clear c3b0
            try clear c3b1
            try clear c4
            try clear c5
            try clear c5b0
            try clear c5b1
            try clear p6
            try clear q6
            try clear hx6
            try clear qi6
            try clear c8
            try clear c8b0
            try clear p2
            try clear p6
            try clear q6
            obtain ⟨kq, x4_6, rfl, HA, HJ6, ⟨mc6, rfl⟩⟩ := hcut
            cases kq with
            | zero => exact absurd HA.out (by simp [chanceryref1_Signed.j1])
            | succ kj6 =>
              have H := HA.out
              clear HA
              simp only [chanceryref1_Signed.j1] at H
              have H' := Aside0.mk H
              clear H
              go_wp2
              go_loopg [4, 5] kj6 (fun kq v4 v5 w' => ∃ (x4_3 : Int) (x5_3 : Int), v4 = .int .i64 x4_3 ∧ v5 = .int .i64 x5_3 ∧ Aside0 (chanceryref1_Signed.l0 kq a0 x4_3 x5_3 = some (r1, r2)) ∧ Aside0 (kq ≤ kj6) ∧ Drawn0 w w')
              case atStart => exact ⟨(x4_6), (0), (by first | rfl | (simp; done) | (simp [*]; done)), (by first | rfl | (simp; done) | (simp [*]; done)), H', ⟨Nat.le_refl _⟩, by repeat (first | exact Drawn0.refl _ | apply Drawn0.step)⟩
              case round =>
                clear H'
                try clear c1
                try clear p2
                try clear c3
                try clear c3b0
                try clear c3b1
                try clear c4
                try clear c5
                try clear c5b0
                try clear c5b1
                try clear c6
                try clear p6
                try clear q6
                try clear hx6
                try clear qi6
                try clear c8
                try clear c8b0
                try clear p2
                try clear p6
                try clear q6
                obtain ⟨x4_3, x5_3, rfl, rfl, HA, HK3, ⟨m3, rfl⟩⟩ := hrel
                cases gk with
                | zero => exact absurd HA.out (by simp [chanceryref1_Signed.l0])
                | succ k3 =>
                  have H := HA.out
                  clear HA
                  simp only [chanceryref1_Signed.l0] at H
                  by_cases c9 : x5_3 < (a0.size : Int)
                  · rw [if_pos c9] at H
                    have c9b0 : decide (x5_3 < (a0.size : Int)) = true := decide_eq_true c9
                    clear c9
                    by_cases c10 : 0 ≤ x5_3
                    · rw [if_pos c10] at H
                      have c10b0 : decide (0 ≤ x5_3) = true := decide_eq_true c10
                      clear c10
                      have H' := Aside0.mk H
                      clear H
                      have p11 : 0 ≤ (x5_3 : Int) := of_decide_eq_true (by first | (with_reducible assumption) | assumption)
                      have q11 : x5_3 < (a0.size : Int) := of_decide_eq_true (by first | (with_reducible assumption) | assumption)
                      have hx11 := bt_at a0 x5_3
                      replace p11 := eq_true p11
                      replace q11 := eq_true q11
                      go_wp2
                      go_roundg k3
                      case measure => have := HJ1.out; have := HJ6.out; have := HK3.out; omega
                      case rel => exact ⟨(wrap64 ((wrap64 (x4_3 * 256)) + (wrap64 (bt a0 x5_3)))), (wrap64 (x5_3 + 1)), (by first | rfl | (simp; done) | (simp [*]; done)), (by first | rfl | (simp; done) | (simp [*]; done)), H', ⟨by have := HJ1.out; have := HJ6.out; have := HK3.out; omega⟩, by repeat (first | exact Drawn0.refl _ | apply Drawn0.step)⟩
                    · rw [if_neg c10] at H
                      exact absurd H (by simp)
                  · rw [if_neg c9] at H
                    have c9b0 : decide (x5_3 < (a0.size : Int)) = false := decide_eq_false c9
                    clear c9
                    simp only [Option.some.injEq, Prod.mk.injEq] at H
                    obtain ⟨rfl, rfl⟩ := H
                    go_wp2
                    go_ret2
                    exact ⟨by first | rfl | (simp; done) | (simp [*]; done), by repeat (first | exact Drawn0.refl _ | apply Drawn0.step)⟩
        · rw [if_neg c5] at H
          exact absurd H (by simp)

/-! ### octet_PutSigned: function 19 -/
mutual
def octet_PutSigned.j1 : Nat → Int → Int → Option (ByteArray)
  | 0, _, _ => none
  | k + 1, x0, x3 => if 0 ≤ x3 then (if (x3 : Int).toNat ≤ 281474976710656 then ((some (List.replicate (x3 : Int).toNat 0 : List Int)).bind fun y120 => (octet_PutSigned.l1 k x0 x3 y120 (y120.length : Int) 0)) else (none)) else (none)
def octet_PutSigned.l1 : Nat → Int → Int → List Int → Int → Int → Option (ByteArray)
  | 0, _, _, _, _, _ => none
  | k + 1, x0, x3, x4, x26, x27 => if x27 < x26 then (if 0 ≤ (wrap64 (8 * x27)) then (if 0 ≤ (wrap64 ((wrap64 (x3 - 1)) - x27)) then (if (wrap64 ((wrap64 (x3 - 1)) - x27)) < (x4.length : Int) then (octet_PutSigned.l1 k x0 x3 (x4.set ((wrap64 ((wrap64 (x3 - 1)) - x27)) : Int).toNat ((shr .u64 (IntKind.u64.wrap (x0)) (wrap64 (8 * x27))) % 256)) x26 (wrap64 (x27 + 1))) else (none)) else (none)) else (none)) else (some (strOfNums x4))
def octet_PutSigned.l0 : Nat → Int → Int → Option (ByteArray)
  | 0, _, _ => none
  | k + 1, x0, x3 => if x3 < 8 then (if 0 ≤ (wrap64 (64 - (wrap64 (8 * x3)))) then (if x0 = (shr .i64 (shl .i64 x0 (wrap64 (64 - (wrap64 (8 * x3))))) (wrap64 (64 - (wrap64 (8 * x3))))) then (octet_PutSigned.j1 k x0 x3) else (octet_PutSigned.l0 k x0 (wrap64 (x3 + 1)))) else (none)) else (octet_PutSigned.j1 k x0 x3)
end
def octet_PutSigned.f (k : Nat) (a0 : Int) : Option (ByteArray) := octet_PutSigned.l0 k a0 1
theorem octet_PutSigned.mono_l : ∀ k, (∀ y0 y1, LeO (octet_PutSigned.j1 k y0 y1) (octet_PutSigned.j1 (k + 1) y0 y1)) ∧ (∀ y0 y1 y2 y3 y4, LeO (octet_PutSigned.l1 k y0 y1 y2 y3 y4) (octet_PutSigned.l1 (k + 1) y0 y1 y2 y3 y4)) ∧ (∀ y0 y1, LeO (octet_PutSigned.l0 k y0 y1) (octet_PutSigned.l0 (k + 1) y0 y1))
  | 0 => ⟨fun _ _ r h => by simp [octet_PutSigned.j1] at h, fun _ _ _ _ _ r h => by simp [octet_PutSigned.l1] at h, fun _ _ r h => by simp [octet_PutSigned.l0] at h⟩
  | k + 1 => by
    obtain ⟨ih0, ih1, ih2⟩ := octet_PutSigned.mono_l k
    refine ⟨?_, ?_, ?_⟩
    · intro y0 y1
      unfold octet_PutSigned.j1
      repeat' first
      | (with_reducible exact ih0 _ _)
      | (with_reducible exact ih1 _ _ _ _ _)
      | (with_reducible exact ih2 _ _)
      | (with_reducible exact LeO.refl _)
      | (with_reducible exact LeO.none _)
      | (with_reducible refine LeO.ite ?_ ?_)
      | (with_reducible refine LeO.bind ?_ (fun _ => ?_))
      | exact ih0 _ _
      | exact ih1 _ _ _ _ _
      | exact ih2 _ _
      | exact LeO.none _
      | refine LeO.ite ?_ ?_
      | refine LeO.bind ?_ (fun _ => ?_)
    · intro y0 y1 y2 y3 y4
      unfold octet_PutSigned.l1
      repeat' first
      | (with_reducible exact ih0 _ _)
      | (with_reducible exact ih1 _ _ _ _ _)
      | (with_reducible exact ih2 _ _)
      | (with_reducible exact LeO.refl _)
      | (with_reducible exact LeO.none _)
      | (with_reducible refine LeO.ite ?_ ?_)
      | (with_reducible refine LeO.bind ?_ (fun _ => ?_))
      | exact ih0 _ _
      | exact ih1 _ _ _ _ _
      | exact ih2 _ _
      | exact LeO.none _
      | refine LeO.ite ?_ ?_
      | refine LeO.bind ?_ (fun _ => ?_)
    · intro y0 y1
      unfold octet_PutSigned.l0
      repeat' first
      | (with_reducible exact ih0 _ _)
      | (with_reducible exact ih1 _ _ _ _ _)
      | (with_reducible exact ih2 _ _)
      | (with_reducible exact LeO.refl _)
      | (with_reducible exact LeO.none _)
      | (with_reducible refine LeO.ite ?_ ?_)
      | (with_reducible refine LeO.bind ?_ (fun _ => ?_))
      | exact ih0 _ _
      | exact ih1 _ _ _ _ _
      | exact ih2 _ _
      | exact LeO.none _
      | refine LeO.ite ?_ ?_
      | refine LeO.bind ?_ (fun _ => ?_)
theorem octet_PutSigned.mono : ∀ a0 k, LeO (octet_PutSigned.f k a0) (octet_PutSigned.f (k + 1) a0) := by
  intro a0 k
  obtain ⟨ih0, ih1, ih2⟩ := octet_PutSigned.mono_l k
  unfold octet_PutSigned.f
  repeat' first
      | (with_reducible exact ih0 _ _)
      | (with_reducible exact ih1 _ _ _ _ _)
      | (with_reducible exact ih2 _ _)
      | (with_reducible exact LeO.refl _)
      | (with_reducible exact LeO.none _)
      | (with_reducible refine LeO.ite ?_ ?_)
      | (with_reducible refine LeO.bind ?_ (fun _ => ?_))
      | exact ih0 _ _
      | exact ih1 _ _ _ _ _
      | exact ih2 _ _
      | exact LeO.none _
      | refine LeO.ite ?_ ?_
      | refine LeO.bind ?_ (fun _ => ?_)
set_option maxHeartbeats 8000000 in
set_option maxRecDepth 100000 in
theorem octet_PutSigned.calls (k : Nat) (a0 : Int) (r : ByteArray) (w : World) (h : octet_PutSigned.f k a0 = some r) :
    Calls Tryd.prog 19 #[.int .i64 a0] w fun e w' => e = .returned (.string r) ∧ Below w.heap.size w w' := by
  have HB := Aside0.mk (Below.refl w.heap.size w)
  have H : (octet_PutSigned.l0 k a0 1) = some r := h
  clear h
  have HC2 := Aside0.mk H
  clear H
  go_enter Tryd.func19, Tryd.ntmps19
  go_upto_block 0 with (fail)
  go_cut [3] (fun v3 wc => ∃ (kq : Nat) (x3_1 : Int), v3 = .int .i64 x3_1 ∧ Aside0 (octet_PutSigned.j1 kq a0 x3_1 = some r) ∧ Aside0 (kq ≤ k) ∧ Aside0 (Below w.heap.size w wc))
  case first =>
    have H := HC2.out
    clear HC2
    have H' := Aside0.mk H
    clear H
    go_wp2
    go_loopg [3] k (fun kq v3 w' => ∃ (x3_1 : Int), v3 = .int .i64 x3_1 ∧ Aside0 (octet_PutSigned.l0 kq a0 x3_1 = some r) ∧ Aside0 (kq ≤ k) ∧ Aside0 (Below w.heap.size w w'))
    case atStart => exact ⟨(1), (by first | rfl | (simp; done) | (simp [*]; done)), H', ⟨Nat.le_refl _⟩, ⟨by repeat (first | (with_reducible first | exact HB.out | apply below_alloc | apply pw_below_drewN | apply below_drew1) | exact HB.out)⟩⟩
    case round =>
      clear H'
      try clear c1
      try clear p2
      obtain ⟨x3_1, rfl, HA, HK1, HB⟩ := hrel
      cases gk with
      | zero => exact absurd HA.out (by simp [octet_PutSigned.l0])
      | succ k1 =>
        have H := HA.out
        clear HA
        simp only [octet_PutSigned.l0] at H
        by_cases c3 : x3_1 < 8
        · rw [if_pos c3] at H
          have c3b0 : decide (x3_1 < 8) = true := decide_eq_true c3
          clear c3
          (first | rw [c3b0] | (simp only [i64_w, i32_w]; rw [c3b0]) | skip)
          obtain ⟨ji4, hji4⟩ : ∃ j_ : Int, (wrap64 (64 - (wrap64 (8 * x3_1)))) = j_ := ⟨_, rfl⟩
          replace H : (if 0 ≤ (ji4) then (if a0 = (shr .i64 (shl .i64 a0 (ji4)) (ji4)) then (octet_PutSigned.j1 k1 a0 x3_1) else (octet_PutSigned.l0 k1 a0 (wrap64 (x3_1 + 1)))) else (none)) = some r := by first | (rw [hji4] at H; exact H) | (simp only [hji4] at H ⊢; exact H)
          have hji4w : (IntKind.i64.wrap (64 - (wrap64 (8 * x3_1)))) = ji4 := (i64_w _).trans hji4
          by_cases c5 : 0 ≤ (ji4)
          · rw [if_pos c5] at H
            have c5b0 := eq_true c5
            have c5b1 : decide (0 ≤ (ji4)) = true := decide_eq_true c5
            clear c5
            obtain ⟨ji6, hji6⟩ : ∃ j_ : Int, (shl .i64 a0 (ji4)) = j_ := ⟨_, rfl⟩
            replace H : (if a0 = (shr .i64 (ji6) (ji4)) then (octet_PutSigned.j1 k1 a0 x3_1) else (octet_PutSigned.l0 k1 a0 (wrap64 (x3_1 + 1)))) = some r := by first | (rw [hji6] at H; exact H) | (simp only [hji6] at H ⊢; exact H)
            have hji6_ : (IntKind.i64.wrap (a0 * 2 ^ min (ji4).toNat 64)) = ji6 := hji6
            have hji6z : (ji4) ≤ 64 → (IntKind.i64.wrap (a0 * 2 ^ (ji4).toNat)) = ji6 := shl_small hji6
            have hji6y : (wrap64 (a0 * 2 ^ min (ji4).toNat 64)) = ji6 := (i64_w _).symm.trans hji6_
            have hji6x : (ji4) ≤ 64 → (wrap64 (a0 * 2 ^ (ji4).toNat)) = ji6 := fun h_ => (i64_w _).symm.trans (hji6z h_)
            have c7b0 := eq_true (of_decide_eq_true (by first | (with_reducible assumption) | assumption) : 0 ≤ (ji4))
            obtain ⟨ji8, hji8⟩ : ∃ j_ : Int, (shr .i64 (ji6) (ji4)) = j_ := ⟨_, rfl⟩
            replace H : (if a0 = (ji8) then (octet_PutSigned.j1 k1 a0 x3_1) else (octet_PutSigned.l0 k1 a0 (wrap64 (x3_1 + 1)))) = some r := by first | (rw [hji8] at H; exact H) | (simp only [hji8] at H ⊢; exact H)
            have hji8_ : ((ji6) / 2 ^ min (ji4).toNat 64) = ji8 := hji8
            have hji8z : (ji4) ≤ 64 → ((ji6) / 2 ^ (ji4).toNat) = ji8 := shr_small hji8
            by_cases c9 : a0 = (ji8)
            · rw [if_pos c9] at H
              have c9b0 : (a0 == (ji8)) = true := beq_iff_eq.mpr c9
              have c9b1 : (a0 != (ji8)) = false := bne_eq_false_iff_eq.mpr c9
              clear c9
              have H' := Aside0.mk H
              clear H
              go_wp2
              go_meet
              case rel => exact ⟨_, (x3_1), (by first | rfl | (simp; done) | (simp [*]; done)), H', ⟨by have := HK1.out; first | omega | exact Nat.le_refl _⟩, ⟨by repeat (first | (with_reducible first | exact HB.out | apply below_alloc | apply pw_below_drewN | apply below_drew1) | exact HB.out)⟩⟩
            · rw [if_neg c9] at H
              have c9b0 : (a0 == (ji8)) = false := beq_eq_false_iff_ne.mpr c9
              have c9b1 : (a0 != (ji8)) = true := bne_iff_ne.mpr c9
              have H' := Aside0.mk H
              clear H
              go_wp2
              go_roundg k1
              case measure => have := HK1.out; omega
              case rel => exact ⟨(wrap64 (x3_1 + 1)), (by first | rfl | (simp; done) | (simp [*]; done)), H', ⟨by have := HK1.out; omega⟩, ⟨by repeat (first | (with_reducible first | exact HB.out | apply below_alloc | apply pw_below_drewN | apply below_drew1) | exact HB.out)⟩⟩
          · rw [if_neg c5] at H
            exact absurd H (by simp)
        · rw [if_neg c3] at H
          have c3b0 : decide (x3_1 < 8) = false := decide_eq_false c3
          clear c3
          (first | rw [c3b0] | (simp only [i64_w, i32_w]; rw [c3b0]) | skip)
          have H' := Aside0.mk H
          clear H
          go_wp2
          go_meet
          case rel => exact ⟨_, (x3_1), (by first | rfl | (simp; done) | (simp [*]; done)), H', ⟨by have := HK1.out; first | omega | exact Nat.le_refl _⟩, ⟨by repeat (first | (with_reducible first | exact HB.out | apply below_alloc | apply pw_below_drewN | apply below_drew1) | exact HB.out)⟩⟩
  case rest =>
    clear HC2
    try clear c1
    try clear p2
    try clear c3
    try clear c3b0
    try clear c5
    try clear c5b0
    try clear c5b1
    try clear p6
    try clear c7
    try clear c7b0
    try clear c9
    try clear c9b0
    try clear c9b1
    try clear p2
    obtain ⟨kq, x3_1, rfl, HA, HJ1, HB⟩ := hcut
    cases kq with
    | zero => exact absurd HA.out (by simp [octet_PutSigned.j1])
    | succ kj1 =>
      have H := HA.out
      clear HA
      simp only [octet_PutSigned.j1] at H
      by_cases c10 : 0 ≤ x3_1
      · rw [if_pos c10] at H
        have c10b0 := eq_true c10
        have c10b1 : decide (0 ≤ x3_1) = true := decide_eq_true c10
        clear c10
        by_cases c11 : (x3_1 : Int).toNat ≤ 281474976710656
        · rw [if_pos c11] at H
          have c11b0 := eq_true c11
          have c11b1 : decide ((x3_1 : Int).toNat ≤ 281474976710656) = true := decide_eq_true c11
          clear c11
          obtain ⟨y120, hy120⟩ : ∃ y_ : List Int, y_ = (List.replicate (x3_1 : Int).toNat 0) := ⟨_, rfl⟩
          replace H : (octet_PutSigned.l1 kj1 a0 x3_1 y120 (y120.length : Int) 0) = some r := by first | (rw [hy120]; with_reducible exact H) | (have H2_ := (Option.bind_some _ _).symm.trans H; rw [hy120]; with_reducible exact H2_) | (have H2_ := (Option.bind_some _ _).symm.trans H; with_reducible exact H2_) | with_reducible exact H | (rw [hy120]; exact H) | exact H
          have Ny120 := Aside0.mk hy120
          clear hy120
          have H' := Aside0.mk H
          clear H
          go_wp2_with (first | ((with_reducible refine gate_dst (N := 24) rfl ?_); refine Kd.R_make (Kd.int .u8) _ 5 rfl (N := 24) rfl 26 _ _ rfl x3_1 rfl rfl Tryd.underlying26 (.int .u8 0) 1 info5 rfl (by decide) (by omega) 0 (ok := fun _ => True) (okp := fun _ => True) rfl (fun _ hk => hk) trivial (of_decide_eq_true (by first | (with_reducible assumption) | assumption)) (Nat.le_trans (Nat.mul_le_mul_right _ (of_decide_eq_true (by first | (with_reducible assumption) | assumption) : x3_1.toNat ≤ 281474976710656)) (by omega)) (Below.refl _ _) (Nat.le_refl _) ?_; intro v121 w12 ho13 hb hg_ hnew_; clear hg_ hnew_; (first | rw [← Ny120.out] at ho13 | (simp only [Int.reduceToNat] at ho13; rw [← Ny120.out] at ho13)); have n0_ := Aside0.mk (Kd.R_lower ho13 (below_size (by repeat (first | (with_reducible first | exact HB.out | apply below_alloc | apply pw_below_drewN | apply below_drew1) | exact HB.out)))); have n1_ := Aside0.mk (below_step (by repeat (first | (with_reducible first | exact HB.out | apply below_alloc | apply pw_below_drewN | apply below_drew1) | exact HB.out)) hb); clear HB; have HO122 := n0_; have HB := n1_; clear n0_ n1_; clear hb ho13; obtain ⟨Ao14, co14, eo14⟩ := Kd.R_slice HO122.out; subst eo14))
          go_loopg [27] kj1 (fun kq v27 w' => ∃ (x4_2 : List Int) (x27_2 : Int), v27 = .int .i64 x27_2 ∧ Aside0 (octet_PutSigned.l1 kq a0 x3_1 x4_2 (y120.length : Int) x27_2 = some r) ∧ Aside0 (kq ≤ kj1) ∧ Aside0 (Kd.R (Kd.int .u8) 5 w' w.heap.size (fun _ => True) (.slice Ao14 y120.length co14) x4_2) ∧ Aside0 (Below w.heap.size w w'))
          case atStart => exact ⟨(y120), (0), (by first | rfl | (simp; done) | (simp [*]; done)), H', ⟨Nat.le_refl _⟩, ⟨by (with_reducible repeat (first | apply Kd.R_alloc | apply Kd.R_drewN | apply Kd.R_drew)); exact HO122.out⟩, ⟨by repeat (first | (with_reducible first | exact HB.out | apply below_alloc | apply pw_below_drewN | apply below_drew1) | exact HB.out)⟩⟩
          case round =>
            clear H'
            try clear c1
            try clear p2
            try clear c3
            try clear c3b0
            try clear c5
            try clear c5b0
            try clear c5b1
            try clear p6
            try clear c7
            try clear c7b0
            try clear c9
            try clear c9b0
            try clear c9b1
            try clear c10
            try clear c10b0
            try clear c10b1
            try clear c11
            try clear c11b0
            try clear c11b1
            try clear p2
            try clear p6
            obtain ⟨x4_2, x27_2, rfl, HA, HK2, HO_4, HB⟩ := hrel
            have hl4_2 := (Kd.R_reads' HO_4.out).1
            rw [hl4_2] at HO_4
            (try simp only [hl4_2])
            cases gk with
            | zero => exact absurd HA.out (by simp [octet_PutSigned.l1])
            | succ k2 =>
              have H := HA.out
              clear HA
              simp only [octet_PutSigned.l1] at H
              by_cases c15 : x27_2 < (y120.length : Int)
              · rw [if_pos c15] at H
                have c15b0 : decide (x27_2 < (y120.length : Int)) = true := decide_eq_true c15
                (try simp only [hl4_2] at c15b0)
                clear c15
                obtain ⟨ji16, hji16⟩ : ∃ j_ : Int, (wrap64 (8 * x27_2)) = j_ := ⟨_, rfl⟩
                replace H : (if 0 ≤ (ji16) then (if 0 ≤ (wrap64 ((wrap64 (x3_1 - 1)) - x27_2)) then (if (wrap64 ((wrap64 (x3_1 - 1)) - x27_2)) < (x4_2.length : Int) then (octet_PutSigned.l1 k2 a0 x3_1 (x4_2.set ((wrap64 ((wrap64 (x3_1 - 1)) - x27_2)) : Int).toNat ((shr .u64 (IntKind.u64.wrap (a0)) (ji16)) % 256)) (y120.length : Int) (wrap64 (x27_2 + 1))) else (none)) else (none)) else (none)) = some r := by first | (rw [hji16] at H; exact H) | (simp only [hji16] at H ⊢; exact H)
                have hji16w : (IntKind.i64.wrap (8 * x27_2)) = ji16 := (i64_w _).trans hji16
                by_cases c17 : 0 ≤ (ji16)
                · rw [if_pos c17] at H
                  have c17b0 := eq_true c17
                  have c17b1 : decide (0 ≤ (ji16)) = true := decide_eq_true c17
                  clear c17
                  obtain ⟨ji18, hji18⟩ : ∃ j_ : Int, (shr .u64 (IntKind.u64.wrap (a0)) (ji16)) = j_ := ⟨_, rfl⟩
                  replace H : (if 0 ≤ (wrap64 ((wrap64 (x3_1 - 1)) - x27_2)) then (if (wrap64 ((wrap64 (x3_1 - 1)) - x27_2)) < (x4_2.length : Int) then (octet_PutSigned.l1 k2 a0 x3_1 (x4_2.set ((wrap64 ((wrap64 (x3_1 - 1)) - x27_2)) : Int).toNat ((ji18) % 256)) (y120.length : Int) (wrap64 (x27_2 + 1))) else (none)) else (none)) = some r := by first | (rw [hji18] at H; exact H) | (simp only [hji18] at H ⊢; exact H)
                  have hji18_ : ((IntKind.u64.wrap (a0)) / 2 ^ min (ji16).toNat 64) = ji18 := hji18
                  have hji18z : (ji16) ≤ 64 → ((IntKind.u64.wrap (a0)) / 2 ^ (ji16).toNat) = ji18 := shr_small hji18
                  obtain ⟨ji19, hji19⟩ : ∃ j_ : Int, (wrap64 ((wrap64 (x3_1 - 1)) - x27_2)) = j_ := ⟨_, rfl⟩
                  replace H : (if 0 ≤ (ji19) then (if (ji19) < (x4_2.length : Int) then (octet_PutSigned.l1 k2 a0 x3_1 (x4_2.set ((ji19) : Int).toNat ((ji18) % 256)) (y120.length : Int) (wrap64 (x27_2 + 1))) else (none)) else (none)) = some r := by first | (rw [hji19] at H; exact H) | (simp only [hji19] at H ⊢; exact H)
                  have hji19w : (IntKind.i64.wrap ((wrap64 (x3_1 - 1)) - x27_2)) = ji19 := (i64_w _).trans hji19
                  by_cases c20 : 0 ≤ (ji19)
                  · rw [if_pos c20] at H
                    have c20b0 : decide (0 ≤ (ji19)) = true := decide_eq_true c20
                    clear c20
                    by_cases c21 : (ji19) < (x4_2.length : Int)
                    · rw [if_pos c21] at H
                      have c21b0 : decide ((ji19) < (x4_2.length : Int)) = true := decide_eq_true c21
                      (try simp only [hl4_2] at c21b0)
                      clear c21
                      obtain ⟨y123, hy123⟩ : ∃ y_ : List Int, y_ = (x4_2.set ((ji19) : Int).toNat ((ji18) % 256)) := ⟨_, rfl⟩
                      replace H : (octet_PutSigned.l1 k2 a0 x3_1 y123 (y120.length : Int) (wrap64 (x27_2 + 1))) = some r := by first | (rw [hy123]; with_reducible exact H) | (have H2_ := (Option.bind_some _ _).symm.trans H; rw [hy123]; with_reducible exact H2_) | (have H2_ := (Option.bind_some _ _).symm.trans H; with_reducible exact H2_) | with_reducible exact H | (rw [hy123]; exact H) | exact H
                      have Ny123 := Aside0.mk hy123
                      clear hy123
                      have H' := Aside0.mk H
                      clear H
                      have p22 : 0 ≤ ((ji19) : Int) := of_decide_eq_true (by first | (with_reducible assumption) | assumption)
                      have q22 : ((ji19) : Int) < ((x4_2.length : Int) : Int) := of_decide_eq_true (by first | (with_reducible assumption) | assumption)
                      obtain ⟨go22, co22, eo22, gb22, gl22, cl22, HG22⟩ := Kd.R_form HO_4.out (by omega)
                      (first | cases eo22 | (injection eo22 with ea_ en_ ec_; (first | subst ea_ | (injection ea_ with ea_; subst ea_)); subst ec_; clear en_))
                      have GB22 := Aside0.mk gb22
                      have GG22 := Aside0.mk HG22
                      clear gb22 gl22 HG22
                      obtain ⟨hx22_0, hf22_0⟩ := Kd.R_celln 0 HO_4.out ((ji19) : Int) p22 q22
                      replace p22 := eq_true p22
                      replace q22 := eq_true q22
                      have HP23 := Kd.R_putg HO_4.out ((ji19) : Int) ((ji18) % 256)
                      go_wp2_with (first | ((with_reducible refine gate_store (t := 5) (p := 41) rfl ?_); refine store_event (t := 5) (p := 41) (v := ?vo_w24) (w1 := (wr.setCell ⟨go22, ((ji19) : Int).toNat, none⟩ (.int .u8 ((ji18) % 256)))) ?hg ?ho ?hn ?hr ?_; (case ho => rfl); (case hg => rfl); (case hn => rfl); (case hr => first | (go_simp; done) | (go_simp; rfl)); intro w24 hw; have hg : wr.grownBy w24 (some go22) := (by rw [hw]; exact HP23.2); have hp_ : Kd.R (Kd.int .u8) 5 w24 w.heap.size (fun _ => True) (.slice (some ⟨go22, 0, none⟩) x4_2.length co14) y123 := (by rw [hw, Ny123.out]; exact HP23.1); clear HP23; have n0_ := Aside0.mk (hp_); have n1_ := Aside0.mk ((by rw [hw]; exact below_set (HB.out) GB22.out : Below w.heap.size w w24)); clear HO_4; clear HB; have HO_4 := n0_; have HB := n1_; clear n0_ n1_; clear hg hw hp_))
                      (try simp only [← hl4_2])
                      go_roundg k2
                      case measure => have := HJ1.out; have := HK2.out; omega
                      case rel => exact ⟨(y123), (wrap64 (x27_2 + 1)), (by first | rfl | (simp; done) | (simp [*]; done)), H', ⟨by have := HJ1.out; have := HK2.out; omega⟩, ⟨by (try simp only [hl4_2]); (with_reducible repeat (first | apply Kd.R_alloc | apply Kd.R_drewN | apply Kd.R_drew)); exact HO_4.out⟩, ⟨by repeat (first | (with_reducible first | exact HB.out | apply below_alloc | apply pw_below_drewN | apply below_drew1) | exact HB.out)⟩⟩
                    · rw [if_neg c21] at H
                      exact absurd H (by simp)
                  · rw [if_neg c20] at H
                    exact absurd H (by simp)
                · rw [if_neg c17] at H
                  exact absurd H (by simp)
              · rw [if_neg c15] at H
                have c15b0 : decide (x27_2 < (y120.length : Int)) = false := decide_eq_false c15
                (try simp only [hl4_2] at c15b0)
                clear c15
                obtain rfl := Option.some.inj H
                have hcv25 := own_string (P := Tryd.prog) Tryd.underlying26 Tryd.underlying5 Tryd.underlying9 (Kd.own_of_R HO_4.out)
                go_wp2
                go_ret
                exact ⟨by first | rfl | (simp [errW_none, errW_some] <;> rfl) | (simp [*, errW_none, errW_some] <;> rfl), by repeat (first | (with_reducible first | exact HB.out | apply below_alloc | apply pw_below_drewN | apply below_drew1) | exact HB.out)⟩
        · rw [if_neg c11] at H
          exact absurd H (by simp)
      · rw [if_neg c10] at H
        exact absurd H (by simp)

/-! ### chanceryref1_PutSigned: function 20 -/
mutual
def chanceryref1_PutSigned.l0 : Nat → Int → Int → Option (ByteArray)
  | 0, _, _ => none
  | k + 1, x0, x3 => if 0 ≤ x3 then (if (x3 : Int).toNat ≤ 281474976710656 then (chanceryref1_PutSigned.l1 k x0 x3 (List.replicate (x3 : Int).toNat 0) x0 (wrap64 (x3 - 1))) else (none)) else (none)
def chanceryref1_PutSigned.l1 : Nat → Int → Int → List Int → Int → Int → Option (ByteArray)
  | 0, _, _, _, _, _ => none
  | k + 1, x0, x3, x4, x5, x6 => if x6 ≥ 0 then (if 0 ≤ x6 then (if x6 < (x4.length : Int) then (chanceryref1_PutSigned.l1 k x0 x3 (x4.set (x6 : Int).toNat ((Go.bits .and .i64 x5 255) % 256)) (x5 / 256) (wrap64 (x6 - 1))) else (none)) else (none)) else ((chanceryref1_Signed.f k (strOfNums x4)).bind fun bt128 => (if bt128.1 = x0 then (some (strOfNums x4)) else (chanceryref1_PutSigned.l0 k x0 (wrap64 (x3 + 1)))))
end
def chanceryref1_PutSigned.f (k : Nat) (a0 : Int) : Option (ByteArray) := chanceryref1_PutSigned.l0 k a0 1
theorem chanceryref1_PutSigned.mono_l : ∀ k, (∀ y0 y1, LeO (chanceryref1_PutSigned.l0 k y0 y1) (chanceryref1_PutSigned.l0 (k + 1) y0 y1)) ∧ (∀ y0 y1 y2 y3 y4, LeO (chanceryref1_PutSigned.l1 k y0 y1 y2 y3 y4) (chanceryref1_PutSigned.l1 (k + 1) y0 y1 y2 y3 y4))
  | 0 => ⟨fun _ _ r h => by simp [chanceryref1_PutSigned.l0] at h, fun _ _ _ _ _ r h => by simp [chanceryref1_PutSigned.l1] at h⟩
  | k + 1 => by
    obtain ⟨ih0, ih1⟩ := chanceryref1_PutSigned.mono_l k
    refine ⟨?_, ?_⟩
    · intro y0 y1
      unfold chanceryref1_PutSigned.l0
      repeat' first
      | (with_reducible exact ih0 _ _)
      | (with_reducible exact ih1 _ _ _ _ _)
      | (with_reducible exact chanceryref1_Signed.mono _ _)
      | (with_reducible exact LeO.refl _)
      | (with_reducible exact LeO.none _)
      | (with_reducible refine LeO.ite ?_ ?_)
      | (with_reducible refine LeO.bind ?_ (fun _ => ?_))
      | exact ih0 _ _
      | exact ih1 _ _ _ _ _
      | exact chanceryref1_Signed.mono _ _
      | exact LeO.none _
      | refine LeO.ite ?_ ?_
      | refine LeO.bind ?_ (fun _ => ?_)
    · intro y0 y1 y2 y3 y4
      unfold chanceryref1_PutSigned.l1
      repeat' first
      | (with_reducible exact ih0 _ _)
      | (with_reducible exact ih1 _ _ _ _ _)
      | (with_reducible exact chanceryref1_Signed.mono _ _)
      | (with_reducible exact LeO.refl _)
      | (with_reducible exact LeO.none _)
      | (with_reducible refine LeO.ite ?_ ?_)
      | (with_reducible refine LeO.bind ?_ (fun _ => ?_))
      | exact ih0 _ _
      | exact ih1 _ _ _ _ _
      | exact chanceryref1_Signed.mono _ _
      | exact LeO.none _
      | refine LeO.ite ?_ ?_
      | refine LeO.bind ?_ (fun _ => ?_)
theorem chanceryref1_PutSigned.mono : ∀ a0 k, LeO (chanceryref1_PutSigned.f k a0) (chanceryref1_PutSigned.f (k + 1) a0) := by
  intro a0 k
  obtain ⟨ih0, ih1⟩ := chanceryref1_PutSigned.mono_l k
  unfold chanceryref1_PutSigned.f
  repeat' first
      | (with_reducible exact ih0 _ _)
      | (with_reducible exact ih1 _ _ _ _ _)
      | (with_reducible exact chanceryref1_Signed.mono _ _)
      | (with_reducible exact LeO.refl _)
      | (with_reducible exact LeO.none _)
      | (with_reducible refine LeO.ite ?_ ?_)
      | (with_reducible refine LeO.bind ?_ (fun _ => ?_))
      | exact ih0 _ _
      | exact ih1 _ _ _ _ _
      | exact chanceryref1_Signed.mono _ _
      | exact LeO.none _
      | refine LeO.ite ?_ ?_
      | refine LeO.bind ?_ (fun _ => ?_)
set_option maxHeartbeats 8000000 in
set_option maxRecDepth 100000 in
theorem chanceryref1_PutSigned.calls (k : Nat) (a0 : Int) (r : ByteArray) (w : World) (h : chanceryref1_PutSigned.f k a0 = some r) :
    Calls Tryd.prog 20 #[.int .i64 a0] w fun e w' => e = .returned (.string r) ∧ Below w.heap.size w w' := by
  have HB := Aside0.mk (Below.refl w.heap.size w)
  have H : (chanceryref1_PutSigned.l0 k a0 1) = some r := h
  clear h
  have H' := Aside0.mk H
  clear H
  go_enter Tryd.func20, Tryd.ntmps20
  go_wp2
  go_loopg [3] k (fun kq v3 w' => ∃ (x3_1 : Int), v3 = .int .i64 x3_1 ∧ Aside0 (chanceryref1_PutSigned.l0 kq a0 x3_1 = some r) ∧ Aside0 (kq ≤ k) ∧ Aside0 (Below w.heap.size w w'))
  case atStart => exact ⟨(1), (by first | rfl | (simp; done) | (simp [*]; done)), H', ⟨Nat.le_refl _⟩, ⟨by repeat (first | (with_reducible first | exact HB.out | apply below_alloc | apply pw_below_drewN | apply below_drew1) | exact HB.out)⟩⟩
  case round =>
    clear H'
    obtain ⟨x3_1, rfl, HA, HK1, HB⟩ := hrel
    cases gk with
    | zero => exact absurd HA.out (by simp [chanceryref1_PutSigned.l0])
    | succ k1 =>
      have H := HA.out
      clear HA
      simp only [chanceryref1_PutSigned.l0] at H
      by_cases c2 : 0 ≤ x3_1
      · rw [if_pos c2] at H
        have c2b0 := eq_true c2
        have c2b1 : decide (0 ≤ x3_1) = true := decide_eq_true c2
        clear c2
        by_cases c3 : (x3_1 : Int).toNat ≤ 281474976710656
        · rw [if_pos c3] at H
          have c3b0 := eq_true c3
          have c3b1 : decide ((x3_1 : Int).toNat ≤ 281474976710656) = true := decide_eq_true c3
          clear c3
          obtain ⟨y124, hy124⟩ : ∃ y_ : List Int, y_ = (List.replicate (x3_1 : Int).toNat 0) := ⟨_, rfl⟩
          replace H : (chanceryref1_PutSigned.l1 k1 a0 x3_1 y124 a0 (wrap64 (x3_1 - 1))) = some r := by first | (rw [hy124]; with_reducible exact H) | (have H2_ := (Option.bind_some _ _).symm.trans H; rw [hy124]; with_reducible exact H2_) | (have H2_ := (Option.bind_some _ _).symm.trans H; with_reducible exact H2_) | with_reducible exact H | (rw [hy124]; exact H) | exact H
          have Ny124 := Aside0.mk hy124
          clear hy124
          have H' := Aside0.mk H
          clear H
          go_wp2_with (first | ((with_reducible refine gate_dst (N := 12) rfl ?_); refine Kd.R_make (Kd.int .u8) _ 5 rfl (N := 12) rfl 26 _ _ rfl x3_1 rfl rfl Tryd.underlying26 (.int .u8 0) 1 info5 rfl (by decide) (by omega) 0 (ok := fun _ => True) (okp := fun _ => True) rfl (fun _ hk => hk) trivial (of_decide_eq_true (by first | (with_reducible assumption) | assumption)) (Nat.le_trans (Nat.mul_le_mul_right _ (of_decide_eq_true (by first | (with_reducible assumption) | assumption) : x3_1.toNat ≤ 281474976710656)) (by omega)) (Below.refl _ _) (Nat.le_refl _) ?_; intro v125 w4 ho5 hb hg_ hnew_; clear hg_ hnew_; (first | rw [← Ny124.out] at ho5 | (simp only [Int.reduceToNat] at ho5; rw [← Ny124.out] at ho5)); have n0_ := Aside0.mk (Kd.R_lower ho5 (below_size (by repeat (first | (with_reducible first | exact HB.out | apply below_alloc | apply pw_below_drewN | apply below_drew1) | exact HB.out)))); have n1_ := Aside0.mk (below_step (by repeat (first | (with_reducible first | exact HB.out | apply below_alloc | apply pw_below_drewN | apply below_drew1) | exact HB.out)) hb); clear HB; have HO126 := n0_; have HB := n1_; clear n0_ n1_; clear hb ho5))
          go_loopg [5, 6] k1 (fun kq v5 v6 w' => ∃ (x4_2 : List Int) (x5_2 : Int) (x6_2 : Int), v5 = .int .i64 x5_2 ∧ v6 = .int .i64 x6_2 ∧ Aside0 (chanceryref1_PutSigned.l1 kq a0 x3_1 x4_2 x5_2 x6_2 = some r) ∧ Aside0 (kq ≤ k1) ∧ Aside0 (Kd.R (Kd.int .u8) 5 w' w.heap.size (fun _ => True) v125 x4_2) ∧ Aside0 (Below w.heap.size w w'))
          case atStart => exact ⟨(y124), (a0), (wrap64 (x3_1 - 1)), (by first | rfl | (simp; done) | (simp [*]; done)), (by first | rfl | (simp; done) | (simp [*]; done)), H', ⟨Nat.le_refl _⟩, ⟨by (with_reducible repeat (first | apply Kd.R_alloc | apply Kd.R_drewN | apply Kd.R_drew)); exact HO126.out⟩, ⟨by repeat (first | (with_reducible first | exact HB.out | apply below_alloc | apply pw_below_drewN | apply below_drew1) | exact HB.out)⟩⟩
          case round =>
            clear H'
            try clear c2
            try clear c2b0
            try clear c2b1
            try clear p2
            try clear c3
            try clear c3b0
            try clear c3b1
            obtain ⟨x4_2, x5_2, x6_2, rfl, rfl, HA, HK2, HO_4, HB⟩ := hrel
            cases gk with
            | zero => exact absurd HA.out (by simp [chanceryref1_PutSigned.l1])
            | succ k2 =>
              have H := HA.out
              clear HA
              simp only [chanceryref1_PutSigned.l1] at H
              by_cases c6 : x6_2 ≥ 0
              · rw [if_pos c6] at H
                have c6b0 : decide (0 ≤ x6_2) = true := decide_eq_true c6
                clear c6
                by_cases c7 : 0 ≤ x6_2
                · rw [if_pos c7] at H
                  have c7b0 : decide (0 ≤ x6_2) = true := decide_eq_true c7
                  clear c7
                  by_cases c8 : x6_2 < (x4_2.length : Int)
                  · rw [if_pos c8] at H
                    have c8b0 : decide (x6_2 < (x4_2.length : Int)) = true := decide_eq_true c8
                    clear c8
                    obtain ⟨y127, hy127⟩ : ∃ y_ : List Int, y_ = (x4_2.set (x6_2 : Int).toNat ((Go.bits .and .i64 x5_2 255) % 256)) := ⟨_, rfl⟩
                    replace H : (chanceryref1_PutSigned.l1 k2 a0 x3_1 y127 (x5_2 / 256) (wrap64 (x6_2 - 1))) = some r := by first | (rw [hy127]; with_reducible exact H) | (have H2_ := (Option.bind_some _ _).symm.trans H; rw [hy127]; with_reducible exact H2_) | (have H2_ := (Option.bind_some _ _).symm.trans H; with_reducible exact H2_) | with_reducible exact H | (rw [hy127]; exact H) | exact H
                    have Ny127 := Aside0.mk hy127
                    clear hy127
                    have H' := Aside0.mk H
                    clear H
                    have p9 : 0 ≤ (x6_2 : Int) := of_decide_eq_true (by first | (with_reducible assumption) | assumption)
                    have q9 : (x6_2 : Int) < ((x4_2.length : Int) : Int) := of_decide_eq_true (by first | (with_reducible assumption) | assumption)
                    obtain ⟨go9, co9, eo9, gb9, gl9, cl9, HG9⟩ := Kd.R_form HO_4.out (by omega)
                    (first | cases eo9 | (injection eo9 with ea_ en_ ec_; (first | subst ea_ | (injection ea_ with ea_; subst ea_)); subst ec_; clear en_))
                    have GB9 := Aside0.mk gb9
                    have GG9 := Aside0.mk HG9
                    clear gb9 gl9 HG9
                    obtain ⟨hx9_0, hf9_0⟩ := Kd.R_celln 0 HO_4.out (x6_2 : Int) p9 q9
                    replace p9 := eq_true p9
                    replace q9 := eq_true q9
                    have HP10 := Kd.R_putg HO_4.out (x6_2 : Int) ((Go.bits .and .i64 x5_2 255) % 256)
                    go_wp2_with (first | ((with_reducible refine gate_store (t := 5) (p := 25) rfl ?_); refine store_event (t := 5) (p := 25) (v := ?vo_w11) (w1 := (wr.setCell ⟨go9, (x6_2 : Int).toNat, none⟩ (.int .u8 ((Go.bits .and .i64 x5_2 255) % 256)))) ?hg ?ho ?hn ?hr ?_; (case ho => rfl); (case hg => rfl); (case hn => rfl); (case hr => first | (go_simp; done) | (go_simp; rfl)); intro w11 hw; have hg : wr.grownBy w11 (some go9) := (by rw [hw]; exact HP10.2); have hp_ : Kd.R (Kd.int .u8) 5 w11 w.heap.size (fun _ => True) (.slice (some ⟨go9, 0, none⟩) x4_2.length co9) y127 := (by rw [hw, Ny127.out]; exact HP10.1); clear HP10; have n0_ := Aside0.mk (hp_); have n1_ := Aside0.mk ((by rw [hw]; exact below_set (HB.out) GB9.out : Below w.heap.size w w11)); clear HO_4; clear HB; have HO_4 := n0_; have HB := n1_; clear n0_ n1_; clear hg hw hp_))
                    go_roundg k2
                    case measure => have := HK1.out; have := HK2.out; omega
                    case rel => exact ⟨(y127), (x5_2 / 256), (wrap64 (x6_2 - 1)), (by first | rfl | (simp; done) | (simp [*]; done)), (by first | rfl | (simp; done) | (simp [*]; done)), H', ⟨by have := HK1.out; have := HK2.out; omega⟩, ⟨by (with_reducible repeat (first | apply Kd.R_alloc | apply Kd.R_drewN | apply Kd.R_drew)); exact HO_4.out⟩, ⟨by repeat (first | (with_reducible first | exact HB.out | apply below_alloc | apply pw_below_drewN | apply below_drew1) | exact HB.out)⟩⟩
                  · rw [if_neg c8] at H
                    exact absurd H (by simp)
                · rw [if_neg c7] at H
                  exact absurd H (by simp)
              · rw [if_neg c6] at H
                have c6b0 : decide (0 ≤ x6_2) = false := decide_eq_false c6
                clear c6
                replace H := Option.bind_eq_some_iff.mp H
                obtain ⟨⟨t128, t129⟩, A120, H⟩ := H
                replace H : (if t128 = a0 then (some (strOfNums x4_2)) else (chanceryref1_PutSigned.l0 k2 a0 (wrap64 (x3_1 + 1)))) = some r := H
                have A12 := Aside0.mk A120
                clear A120
                by_cases c13 : t128 = a0
                · rw [if_pos c13] at H
                  have c13b0 : (t128 == a0) = true := beq_iff_eq.mpr c13
                  have c13b1 : (t128 != a0) = false := bne_eq_false_iff_eq.mpr c13
                  clear c13
                  obtain rfl := Option.some.inj H
                  have hcv14 := own_string (P := Tryd.prog) Tryd.underlying26 Tryd.underlying5 Tryd.underlying9 (Kd.own_of_R HO_4.out)
                  go_wp2_with (first | ((with_reducible refine gate_callee (f := 18) rfl ?_); refine goesL_ (some 31) rfl rfl Tryd.func18 (by kernel_rfl) rfl #[.string (strOfNums x4_2)] rfl (by (try simp only [List.map_toArray, List.map_cons, List.map_nil]); first | done | rfl | (simp only [List.length_drop, List.length_take]; rfl)) ?_; (with_reducible refine (chanceryref1_Signed.calls k2 (strOfNums x4_2) t128 t129 _ A12.out).mono ?_); rintro e w' ⟨rfl, ⟨nd, rfl⟩⟩; refine ⟨_, rfl, ?_⟩; have hcv15 := own_string (P := Tryd.prog) Tryd.underlying26 Tryd.underlying5 Tryd.underlying9 (Kd.own_of_R (Kd.R_drewN HO_4.out nd))))
                  go_ret
                  exact ⟨by first | rfl | (simp [errW_none, errW_some] <;> rfl) | (simp [*, errW_none, errW_some] <;> rfl), by repeat (first | (with_reducible first | exact HB.out | apply below_alloc | apply pw_below_drewN | apply below_drew1) | exact HB.out)⟩
                · rw [if_neg c13] at H
                  have c13b0 : (t128 == a0) = false := beq_eq_false_iff_ne.mpr c13
                  have c13b1 : (t128 != a0) = true := bne_iff_ne.mpr c13
                  have H' := Aside0.mk H
                  clear H
                  have hcv16 := own_string (P := Tryd.prog) Tryd.underlying26 Tryd.underlying5 Tryd.underlying9 (Kd.own_of_R HO_4.out)
                  go_wp2_with (first | ((with_reducible refine gate_callee (f := 18) rfl ?_); refine goesL_ (some 31) rfl rfl Tryd.func18 (by kernel_rfl) rfl #[.string (strOfNums x4_2)] rfl (by (try simp only [List.map_toArray, List.map_cons, List.map_nil]); first | done | rfl | (simp only [List.length_drop, List.length_take]; rfl)) ?_; (with_reducible refine (chanceryref1_Signed.calls k2 (strOfNums x4_2) t128 t129 _ A12.out).mono ?_); rintro e w' ⟨rfl, ⟨nd, rfl⟩⟩; refine ⟨_, rfl, ?_⟩))
                  go_roundg k2
                  case measure => have := HK1.out; have := HK2.out; omega
                  case rel => exact ⟨(wrap64 (x3_1 + 1)), (by first | rfl | (simp; done) | (simp [*]; done)), H', ⟨by have := HK1.out; have := HK2.out; omega⟩, ⟨by repeat (first | (with_reducible first | exact HB.out | apply below_alloc | apply pw_below_drewN | apply below_drew1) | exact HB.out)⟩⟩
        · rw [if_neg c3] at H
          exact absurd H (by simp)
      · rw [if_neg c2] at H
        exact absurd H (by simp)

-- NOT PRINTED: function 5 (chancerylaw1_OctetNumbers)

end Go.Proofs.YtpgdacaokgkdhaaDoor.PU
