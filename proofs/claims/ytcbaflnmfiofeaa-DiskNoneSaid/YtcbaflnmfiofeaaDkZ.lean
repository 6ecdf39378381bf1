/-
  vdisk: a nil and a zero disk; chancerylaw10: DiskNone. Condition: none.
-/
import Derived.Test.YtcbaflnmfiofeaaDkN
import Derived.Deep.DeepCutAuto
namespace Go.Proofs.YtcbaflnmfiofeaaDk
open Go.RowKit Go.Maps Go.Proofs.YtcbaflnmfiofeaaKp Go.Proofs.YtcbaflnmfiofeaaCm
set_option linter.unusedVariables false
set_option linter.unusedSimpArgs false
/-- where a disk has no power -/
abbrev NoOn (v : Value) (w : World) : Prop := Calls Try.prog 21 #[v] w fun e w' => e = .returned (.bool false) ∧ w = w'
theorem nil_On (w : World) : NoOn (.pointer none) w := by
  unfold NoOn
  go_enter Try.func21, Try.ntmps21
  go_wp2_with fail
  go_ret
  exact ⟨rfl, rfl⟩
theorem zero_On {w : World} {p : Nat} (h : w.cell? ⟨p, 3, none⟩ = some (.bool false)) : NoOn (.pointer (some ⟨p, 0, none⟩)) w := by
  unfold NoOn
  go_enter Try.func21, Try.ntmps21
  go_wp2_with fail
  go_ret
  exact ⟨rfl, rfl⟩
theorem no_asked {v : Value} {w : World} (k : NoOn v w) (a : Int) : Calls Try.prog 28 #[v, .int .i64 a] w fun e w' => e = .returned (.int .i64 80) ∧ w = w' := by
  have k1 := Lib.hid k
  clear k
  go_enter Try.func28, Try.ntmps28
  go_wp2_with (go_at_call 21; refine k1.out.mono ?_; rintro e w1 ⟨rfl, hw⟩; subst hw)
  go_ret
  exact ⟨rfl, rfl⟩
theorem no_Read {v : Value} {w : World} (k : NoOn v w) (a : Int) : Calls Try.prog 16 #[v, .int .i64 a] w fun e w' => e = .returned (.tuple #[.string ⟨#[]⟩, .int .i64 80]) ∧ w = w' := by
  have k1 := Lib.hid (no_asked k a)
  clear k
  go_enter Try.func16, Try.ntmps16
  go_wp2_with (go_at_call 28; refine k1.out.mono ?_; rintro e w1 ⟨rfl, hw⟩; subst hw)
  go_ret2
  exact ⟨rfl, rfl⟩
theorem no_Write {v : Value} {w : World} (k : NoOn v w) (a : Int) (s : ByteArray) : Calls Try.prog 13 #[v, .int .i64 a, .string s] w fun e w' => e = .returned (.int .i64 80) ∧ w = w' := by
  have k1 := Lib.hid (no_asked k a)
  clear k
  go_enter Try.func13, Try.ntmps13
  go_wp2_with (go_at_call 28; refine k1.out.mono ?_; rintro e w1 ⟨rfl, hw⟩; subst hw)
  go_ret
  exact ⟨rfl, rfl⟩
theorem no_Sync {v : Value} {w : World} (k : NoOn v w) : Calls Try.prog 12 #[v] w fun e w' => e = .returned (.int .i64 80) ∧ w = w' := by
  have k1 := Lib.hid k
  clear k
  go_enter Try.func12, Try.ntmps12
  go_wp2_with (go_at_call 21; refine k1.out.mono ?_; rintro e w1 ⟨rfl, hw⟩; subst hw)
  go_ret
  exact ⟨rfl, rfl⟩
theorem no_Crash {v : Value} {w : World} (k : NoOn v w) (a b : Int) : Calls Try.prog 14 #[v, .int .i64 a, .int .i64 b] w fun e w' => e = .returned (.tuple #[]) ∧ w = w' := by
  have k1 := Lib.hid k
  clear k
  go_enter Try.func14, Try.ntmps14
  go_wp2_with (go_at_call 21; refine k1.out.mono ?_; rintro e w1 ⟨rfl, hw⟩; subst hw)
  exact ⟨rfl, _, results_void rfl _ _, rfl, rfl⟩
theorem nil_Sectors (w : World) : Calls Try.prog 23 #[.pointer none] w fun e w' => e = .returned (.int .i64 0) ∧ w = w' := by
  go_enter Try.func23, Try.ntmps23
  go_wp2_with fail
  go_ret
  exact ⟨rfl, rfl⟩
theorem zero_Sectors {w : World} {p : Nat} (h : w.cell? ⟨p, 0, none⟩ = some (.slice none 0 0)) : Calls Try.prog 23 #[.pointer (some ⟨p, 0, none⟩)] w fun e w' => e = .returned (.int .i64 0) ∧ w = w' := by
  go_enter Try.func23, Try.ntmps23
  go_wp2_with fail
  go_ret
  exact ⟨rfl, rfl⟩
theorem nil_Queue (w : World) : Calls Try.prog 17 #[.pointer none] w fun e w' => e = .returned (.int .i64 0) ∧ w = w' := by
  go_enter Try.func17, Try.ntmps17
  go_wp2_with fail
  go_ret
  exact ⟨rfl, rfl⟩
theorem zero_Writes {w : World} {p : Nat} (h : w.cell? ⟨p, 9, none⟩ = some (.int .i64 0)) : Calls Try.prog 19 #[.pointer (some ⟨p, 0, none⟩)] w fun e w' => e = .returned (.int .i64 0) ∧ w = w' := by
  go_enter Try.func19, Try.ntmps19
  go_wp2_with fail
  go_ret
  exact ⟨rfl, rfl⟩
theorem nil_Image (w : World) : Calls Try.prog 24 #[.pointer none] w fun e w' => e = .returned (.string ⟨#[]⟩) ∧ w = w' := by
  go_enter Try.func24, Try.ntmps24
  go_wp2_with fail
  go_ret
  exact ⟨rfl, rfl⟩
theorem nil_Twin (w : World) : Calls Try.prog 25 #[.pointer none] w fun e w' => e = .returned (.pointer none) ∧ w = w' := by
  go_enter Try.func25, Try.ntmps25
  go_wp2_with fail
  go_ret
  exact ⟨rfl, rfl⟩
theorem nil_Restore (w : World) : Calls Try.prog 15 #[.pointer none] w fun e w' => e = .returned (.tuple #[]) ∧ w = w' := by
  have k1 := Lib.hid (nil_Sectors w)
  go_enter Try.func15, Try.ntmps15
  go_wp2_with (go_at_call 23; refine k1.out.mono ?_; rintro e w1 ⟨rfl, hw⟩; subst hw)
  exact ⟨rfl, _, results_void rfl _ _, rfl, rfl⟩
theorem nil_Room (w : World) (n : Int) : Calls Try.prog 18 #[.pointer none, .int .i64 n] w fun e w' => e = .returned (.tuple #[]) ∧ w = w' := by
  have k1 := Lib.hid (nil_Sectors w)
  go_enter Try.func18, Try.ntmps18
  go_wp2_with (go_at_call 23; refine k1.out.mono ?_; rintro e w1 ⟨rfl, hw⟩; subst hw)
  exact ⟨rfl, _, results_void rfl _ _, rfl, rfl⟩
theorem nil_Fuse (w : World) (n k t : Int) : Calls Try.prog 20 #[.pointer none, .int .i64 n, .int .i64 k, .int .i64 t] w fun e w' => e = .returned (.tuple #[]) ∧ w = w' := by
  have k1 := Lib.hid (nil_Sectors w)
  go_enter Try.func20, Try.ntmps20
  go_wp2_with (go_at_call 23; refine k1.out.mono ?_; rintro e w1 ⟨rfl, hw⟩; subst hw)
  exact ⟨rfl, _, results_void rfl _ _, rfl, rfl⟩
/-- what a zero disk's cells hold, in a world -/
structure ZD (p : Nat) (w : World) : Prop where
  c0 : w.cell? ⟨p, 0, none⟩ = some (.slice none 0 0)
  c3 : w.cell? ⟨p, 3, none⟩ = some (.bool false)
  c9 : w.cell? ⟨p, 9, none⟩ = some (.int .i64 0)
theorem ZD.b {p : Nat} {w w1 : World} (h : ZD p w) (hp : p < w.heap.size) (k : Below w.heap.size w w1) : ZD p w1 :=
  ⟨(k.cell (p := ⟨p, 0, none⟩) hp).trans h.c0, (k.cell (p := ⟨p, 3, none⟩) hp).trans h.c3, (k.cell (p := ⟨p, 9, none⟩) hp).trans h.c9⟩
set_option maxRecDepth 100000 in
set_option maxHeartbeats 2000000 in
theorem walk_DiskNone (sector : Int) (data : ByteArray) (hb : -9223372036854775808 ≤ sector ∧ sector ≤ 9223372036854775807) (hd : data.size ≤ 140737488351232) (w : World) :
    Calls Try.prog 8 #[.int .i64 sector, .string data] w fun e w' => e = .returned (.bool true) ∧ Below w.heap.size w w' := by
  have ka : ∀ w0, Calls Try.prog 9 #[] w0 fun e w' => e = .returned (.bool true) ∧ Below w0.heap.size w0 w' := c_alive
  replace ka := Lib.hid ka
  go_enter Try.func8, Try.ntmps8
  go_upto_region 3 with fail
  have hz : ZD w.heap.size (w.alloc (.cells #[.slice none 0 0, .slice none 0 0, .map none, .bool false, .int .i64 0, .bool false, .int .i64 0, .int .i64 0, .int .i64 0, .int .i64 0] 50)) := by
    have hn := heap_alloc_new w (.cells #[.slice none 0 0, .slice none 0 0, .map none, .bool false, .int .i64 0, .bool false, .int .i64 0, .int .i64 0, .int .i64 0, .int .i64 0] 50 (0, 0))
    exact ⟨(cell_of_row _ _ _ _ _ _ hn).trans rfl, (cell_of_row _ _ _ _ _ _ hn).trans rfl, (cell_of_row _ _ _ _ _ _ hn).trans rfl⟩
  have hb1 : Below w.heap.size w (w.alloc (.cells #[.slice none 0 0, .slice none 0 0, .map none, .bool false, .int .i64 0, .bool false, .int .i64 0, .int .i64 0, .int .i64 0, .int .i64 0] 50)) := (Below.refl _ _).alloc (Nat.le_refl _) _
  have hp : w.heap.size < (w.alloc (.cells #[.slice none 0 0, .slice none 0 0, .map none, .bool false, .int .i64 0, .bool false, .int .i64 0, .int .i64 0, .int .i64 0, .int .i64 0] 50)).heap.size := by simp
  generalize (w.alloc (.cells #[.slice none 0 0, .slice none 0 0, .map none, .bool false, .int .i64 0, .bool false, .int .i64 0, .int .i64 0, .int .i64 0, .int .i64 0] 50)) = w1 at *
  obtain ⟨p, hpe⟩ : ∃ p, p = w.heap.size := ⟨_, rfl⟩
  rw [← hpe] at hz hp ⊢
  have HZ := Lib.hid (And.intro hz (And.intro hb1 hp))
  clear hz hb1 hp hpe
  go_wp2_with (first
    | (go_at_call 16; (first | (with_reducible refine (no_Read (nil_On _) _).mono ?_) | (with_reducible refine (no_Read (zero_On HZ.out.1.c3) _).mono ?_)); rintro e w2 ⟨rfl, hw⟩; subst hw)
    | (go_at_call 13; (first | (with_reducible refine (no_Write (nil_On _) _ _).mono ?_) | (with_reducible refine (no_Write (zero_On HZ.out.1.c3) _ _).mono ?_)); rintro e w2 ⟨rfl, hw⟩; subst hw)
    | (go_at_call 12; (first | (with_reducible refine (no_Sync (nil_On _)).mono ?_) | (with_reducible refine (no_Sync (zero_On HZ.out.1.c3)).mono ?_)); rintro e w2 ⟨rfl, hw⟩; subst hw)
    | (go_at_call 21; (first | (with_reducible refine (nil_On _).mono ?_) | (with_reducible refine (zero_On HZ.out.1.c3).mono ?_)); rintro e w2 ⟨rfl, hw⟩; subst hw)
    | (go_at_call 23; (first | (with_reducible refine (nil_Sectors _).mono ?_) | (with_reducible refine (zero_Sectors HZ.out.1.c0).mono ?_)); rintro e w2 ⟨rfl, hw⟩; subst hw)
    | (go_at_call 19; (first | (with_reducible refine (zero_Writes HZ.out.1.c9).mono ?_)); rintro e w2 ⟨rfl, hw⟩; subst hw)
    | (go_at_call 17; (first | (with_reducible refine (nil_Queue _).mono ?_)); rintro e w2 ⟨rfl, hw⟩; subst hw)
    | (go_at_call 24; (first | (with_reducible refine (nil_Image _).mono ?_)); rintro e w2 ⟨rfl, hw⟩; subst hw)
    | (go_at_call 25; (first | (with_reducible refine (nil_Twin _).mono ?_)); rintro e w2 ⟨rfl, hw⟩; subst hw)
    | (go_at_call 14; (first | (with_reducible refine (no_Crash (nil_On _) _ _).mono ?_)); rintro e w2 ⟨rfl, hw⟩; subst hw)
    | (go_at_call 15; (first | (with_reducible refine (nil_Restore _).mono ?_)); rintro e w2 ⟨rfl, hw⟩; subst hw)
    | (go_at_call 18; (first | (with_reducible refine (nil_Room _ _).mono ?_)); rintro e w2 ⟨rfl, hw⟩; subst hw)
    | (go_at_call 20; (first | (with_reducible refine (nil_Fuse _ _ _ _).mono ?_)); rintro e w2 ⟨rfl, hw⟩; subst hw)
    | (go_at_call 9; refine (ka.out _).mono ?_; rintro e w2 ⟨rfl, hb⟩; have HZ2 := Lib.hid (And.intro (HZ.out.1.b HZ.out.2.2 hb) (And.intro (HZ.out.2.1.trans (hb.mono HZ.out.2.1.size)) (Nat.lt_of_lt_of_le HZ.out.2.2 hb.size))); clear HZ hb; have HZ := HZ2; clear HZ2))
  go_ret
  exact ⟨rfl, HZ.out.2.1⟩
end Go.Proofs.YtcbaflnmfiofeaaDk
