/-
  vdisk: Read and Write where they are refused. Condition: none.
-/
import Derived.Test.YtladbjlkkjcfnaaDkE
import Derived.Test.YtladbjlkkjcfnaaDkF
namespace Go.Proofs.YtladbjlkkjcfnaaDk
open Go.RowKit Go.Maps Go.Proofs.YtladbjlkkjcfnaaKp
set_option linter.unusedVariables false
set_option linter.unusedSimpArgs false
variable {w : World} {p g m : Nat} {qv : Value} {D : Dm}

theorem c_Read_err (h : Dsk w p g m qv D) (a : Int) (he : askS D a ≠ 0) : Calls Try.prog 20 #[.pointer (some ⟨p, 0, none⟩), .int .i64 a] w fun e w' => e = .returned (.tuple #[.string ⟨#[]⟩, .int .i64 (askS D a)]) ∧ w' = w := by
  have k1 := Lib.hid (c_asked h a)
  have d1 : (askS D a != 0) = true := by simpa using he
  clear h he
  generalize askS D a = E at *
  go_enter Try.func20, Try.ntmps20
  go_wp2_with (go_at_call 32; refine k1.out.mono ?_; rintro e w1 ⟨rfl, rfl⟩)
  go_ret2
  exact ⟨rfl, rfl⟩
theorem c_Write_err (h : Dsk w p g m qv D) (a : Int) (s : ByteArray) (he : askS D a ≠ 0) : Calls Try.prog 26 #[.pointer (some ⟨p, 0, none⟩), .int .i64 a, .string s] w fun e w' => e = .returned (.int .i64 (askS D a)) ∧ w' = w := by
  have k1 := Lib.hid (c_asked h a)
  have d1 : (askS D a != 0) = true := by simpa using he
  clear h he
  generalize askS D a = E at *
  go_enter Try.func26, Try.ntmps26
  go_wp2_with (go_at_call 32; refine k1.out.mono ?_; rintro e w1 ⟨rfl, rfl⟩)
  go_ret
  exact ⟨rfl, rfl⟩
theorem c_Write_size (h : Dsk w p g m qv D) (a : Int) (s : ByteArray) (he : askS D a = 0) (hs : s.size ≠ 64) : Calls Try.prog 26 #[.pointer (some ⟨p, 0, none⟩), .int .i64 a, .string s] w fun e w' => e = .returned (.int .i64 82) ∧ w' = w := by
  have k1 := Lib.hid (c_asked h a)
  rw [he] at k1
  have d1 : (((s.size : Nat) : Int) != 64) = true := by simp; omega
  clear h he hs
  go_enter Try.func26, Try.ntmps26
  go_wp2_with (go_at_call 32; refine k1.out.mono ?_; rintro e w1 ⟨rfl, rfl⟩)
  go_ret
  exact ⟨rfl, rfl⟩
theorem c_Write_full (h : Dsk w p g m qv D) (a : Int) (s : ByteArray) (he : askS D a = 0) (hs : s.size = 64) (hr : D.room = 0) : Calls Try.prog 26 #[.pointer (some ⟨p, 0, none⟩), .int .i64 a, .string s] w fun e w' => e = .returned (.int .i64 83) ∧ w' = w := by
  have k1 := Lib.hid (c_asked h a)
  rw [he] at k1
  obtain ⟨_, _, _, _, h4, _⟩ := h.cells
  rw [hr] at h4
  have d1 : (((s.size : Nat) : Int) != 64) = false := by simp; omega
  clear h he hs hr
  go_enter Try.func26, Try.ntmps26
  go_wp2_with (go_at_call 32; refine k1.out.mono ?_; rintro e w1 ⟨rfl, rfl⟩)
  go_ret
  exact ⟨rfl, rfl⟩
end Go.Proofs.YtladbjlkkjcfnaaDk
