/-
  wal: read. Condition: a sector of 64 bytes.
-/
import Derived.Test.YtladbjlkkjcfnaaLgC
namespace Go.Proofs.YtladbjlkkjcfnaaLg
open Go.RowKit Go.Proofs.YtladbjlkkjcfnaaW.PrintWords Go.Proofs.YtladbjlkkjcfnaaW.PrintMore Go.Proofs.Ytladbjlkkjcfnaa.PU Go.Proofs.YtladbjlkkjcfnaaOc Go.Proofs.YtladbjlkkjcfnaaKp Go.Proofs.YtladbjlkkjcfnaaCm
set_option linter.unusedVariables false
set_option linter.unusedSimpArgs false
theorem getS_range (b : ByteArray) : 0 ≤ (getS b).1 := by
  unfold getS
  split
  · exact Int.le_refl _
  · have := get_bound b b.size (Nat.le_refl _)
    rw [bys_take_all] at this
    exact this.1
theorem eq_of_toList (x y : ByteArray) : (x.toList == y.toList) = decide (x = y) := by
  by_cases h : x = y
  · subst h; simp
  · have : x.toList ≠ y.toList := fun e => h (ByteArray.ext (Array.toList_inj.1 (by rw [ByteArray.toList_eq, ByteArray.toList_eq] at e; exact e)))
    simp [h, this]
theorem c_read (b : ByteArray) (gen place : Int) (hb : b.size = 64) (w : World) : Calls Try.prog 22 #[.string b, .int .i64 gen, .int .i64 place] w fun e w' =>
    e = .returned (.tuple #[.string (readPc b gen place).1, .int .i64 (readPc b gen place).2.1, .bool (readPc b gen place).2.2]) ∧ Below w.heap.size w w' := by
  have kg := c_Get (b.extract 4 6) w
  have hP : readPc b gen place = if (getS (b.extract 4 6)).1 > 48 ∨ (bt b 6 ≠ 1 ∧ bt b 6 ≠ 2) ∨ (bt b 6 = 1 ∧ (getS (b.extract 4 6)).1 ≠ 48) then (ByteArray.empty, 0, false)
    else (b.extract 8 (8 + (getS (b.extract 4 6)).1.toNat), bt b 6, decide (b = formS (b.extract 8 (8 + (getS (b.extract 4 6)).1.toNat)) (bt b 6) gen place)) := rfl
  have hn0 := getS_range (b.extract 4 6)
  generalize (getS (b.extract 4 6)).1 = n at *
  generalize (getS (b.extract 4 6)).2 = n2 at *
  replace kg := Lib.hid kg
  have j1 : (6 : Int) ≤ (b.size : Int) := by omega
  have j2 : (6 : Int) < (b.size : Int) := by omega
  have j3 : 6 < b.size := by omega
  have hkr := Go.Proofs.YtladbjlkkjcfnaaOc.bt_range b 6
  have hw : wrap64 ((b[6]'j3).toNat : Int) = bt b 6 := by
    have e : bt b 6 = ((b[6]'j3).toNat : Int) := by unfold bt; rw [dif_pos (show (6 : Int).toNat < b.size by omega)]; rfl
    rw [← e]
    exact w64 (by omega)
  generalize bt b 6 = kd at *
  by_cases hbad : n > 48 ∨ (kd ≠ 1 ∧ kd ≠ 2) ∨ (kd = 1 ∧ n ≠ 48)
  · rw [if_pos hbad] at hP
    rw [hP]
    clear hP
    go_enter Try.func22, Try.ntmps22
    go_upto_region 3 with (first
      | (go_at_call 33; refine (kg.out).mono ?_; rintro e w1 ⟨rfl, hb1⟩; have HB := Lib.hid hb1; clear hb1))
    rw [hw]
    clear hw kg
    by_cases c1 : 48 < n
    · have d1 : decide (48 < n) = true := decide_eq_true c1
      clear hbad
      go_wp2_with fail
      go_ret3
      exact ⟨rfl, HB.out⟩
    have d1 : decide (48 < n) = false := decide_eq_false c1
    by_cases c2 : kd = 1
    · subst c2
      have d2 : (n == 48) = false := by simp; omega
      clear hbad
      go_wp2_with fail
      go_ret3
      exact ⟨rfl, HB.out⟩
    have d2 : (kd == 1) = false := by simpa using c2
    have c3 : ¬ kd = 2 := by omega
    clear hbad
    go_wp2_with fail
    go_ret3
    exact ⟨rfl, HB.out⟩
  · rw [if_neg hbad] at hP
    have hn48 : n ≤ 48 := by omega
    obtain ⟨m, rfl⟩ := Int.eq_ofNat_of_zero_le hn0
    have d1 : decide ((48 : Int) < (m : Int)) = false := decide_eq_false (by omega)
    rw [Int.toNat_natCast] at hP
    obtain ⟨t, ht⟩ : ∃ t, t = 8 + m := ⟨_, rfl⟩
    rw [← ht] at hP
    have w1 : IntKind.i64.wrap (8 + (m : Int)) = (t : Int) := by rw [IntKind.wrap_i64]; omega
    have i1 : (0 : Int) ≤ (t : Int) := by omega
    have i2 : (t : Int) ≤ (b.size : Int) := by omega
    have i3 : (8 : Int) ≤ (t : Int) := by omega
    have i4 : 8 ≤ t := by omega
    have hsl : ∀ W : World, (Instr.slice 9 (.string b) (some (.int .i64 8)) (some (.int .i64 (t : Int))) none).run Try.prog W = .ok (.string (b.extract 8 t)) W := fun W => by
      have := run_slice_string (P := Try.prog) (w := W) 9 b .i64 .i64 8 t Try.underlying9 (by omega) (by omega) (by omega)
      simpa using this
    have i5 : t ≤ b.size := by omega
    have hsz : (b.extract 8 t).size ≤ 48 := by rw [ByteArray.size_extract]; omega
    have kf := c_form (b.extract 8 t) kd gen place hsz (by omega)
    have he := eq_of_toList b (formS (b.extract 8 t) kd gen place)
    generalize formS (b.extract 8 t) kd gen place = F at *
    replace kf := Lib.hid kf
    have HE := Lib.hid he
    rw [hP]
    clear he hn0 hP
    go_enter Try.func22, Try.ntmps22
    go_upto_region 3 with (first
      | (go_at_call 33; refine (kg.out).mono ?_; rintro e w1 ⟨rfl, hb1⟩; have HB := Lib.hid hb1; clear hb1))
    rw [hw]
    clear hw kg
    rcases (show kd = 1 ∧ m = 48 ∨ kd = 2 by omega) with ⟨rfl, rfl⟩ | rfl
    · subst ht
      clear hbad hkr
      change Hid (∀ w, Calls Try.prog 27 #[.string (b.extract 8 56), .int .i64 1, .int .i64 gen, .int .i64 place] w fun e w' => e = .returned (.string F) ∧ Below w.heap.size w w') at kf
      go_wp2_with (first
        | (go_at_call 27; refine (kf.out _).mono ?_; rintro e w2 ⟨rfl, hb2⟩; have HB2 := Lib.hid hb2; clear hb2))
      go_ret3
      rw [HE.out]
      exact ⟨rfl, HB.out.trans (HB2.out.mono HB.out.size)⟩
    · clear hbad hkr ht
      go_wp2_with (first
        | (go_at_call 27; refine (kf.out _).mono ?_; rintro e w2 ⟨rfl, hb2⟩; have HB2 := Lib.hid hb2; clear hb2))

      go_ret3
      rw [HE.out]
      exact ⟨rfl, HB.out.trans (HB2.out.mono HB.out.size)⟩
end Go.Proofs.YtladbjlkkjcfnaaLg
