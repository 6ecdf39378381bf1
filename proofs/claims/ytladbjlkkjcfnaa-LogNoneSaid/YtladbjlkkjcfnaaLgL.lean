/-
  chancerylaw11: LogNone, the walk. Condition: none.
-/
import Derived.Test.YtladbjlkkjcfnaaLgK
namespace Go.Proofs.YtladbjlkkjcfnaaLg
open Go.RowKit Go.Proofs.YtladbjlkkjcfnaaW.PrintWords Go.Proofs.YtladbjlkkjcfnaaW.PrintMore Go.Proofs.Ytladbjlkkjcfnaa.PU Go.Proofs.YtladbjlkkjcfnaaOc Go.Proofs.YtladbjlkkjcfnaaKp Go.Proofs.YtladbjlkkjcfnaaCm Go.Proofs.YtladbjlkkjcfnaaDk
set_option linter.unusedVariables false
set_option linter.unusedSimpArgs false
variable {w0 w w1 : World} {a : Nat}
/-- a zero log of the call's own lies at a -/
def NS (w0 w : World) (a : Nat) : Prop := Below w0.heap.size w0 w ∧ w.cell? ⟨a, 0, none⟩ = some (.pointer none)
theorem NS.c (h : NS w0 w a) : w.cell? ⟨a, 0, none⟩ = some (.pointer none) := h.2
theorem NS.b (h : NS w0 w a) (k : Below w.heap.size w w1) : NS w0 w1 a := ⟨h.1.trans (k.mono h.1.size), (k.cell (World.block_lt_of_cell? w _ h.2)).trans h.2⟩
theorem n_Sync (w : World) : Calls Try.prog 14 #[.pointer none] w fun e w' => e = .returned (.int .i64 1) ∧ w = w' := by
  have k1 := Lib.hid (none_nil w)
  go_enter Try.func14, Try.ntmps14
  go_wp2_with (go_at_call 23; refine k1.out.mono ?_; rintro e w2 ⟨rfl, hw⟩; have hw := hw.symm; subst hw)
  go_ret
  exact ⟨rfl, rfl⟩
theorem z_Sync (h : w.cell? ⟨a, 0, none⟩ = some (.pointer none)) : Calls Try.prog 14 #[.pointer (some ⟨a, 0, none⟩)] w fun e w' => e = .returned (.int .i64 1) ∧ w = w' := by
  have k1 := Lib.hid (none_zero w a h)
  clear h
  go_enter Try.func14, Try.ntmps14
  go_wp2_with (go_at_call 23; refine k1.out.mono ?_; rintro e w2 ⟨rfl, hw⟩; have hw := hw.symm; subst hw)
  go_ret
  exact ⟨rfl, rfl⟩
theorem n_Reset (w : World) : Calls Try.prog 9 #[.pointer none] w fun e w' => e = .returned (.int .i64 1) ∧ w = w' := by
  have k1 := Lib.hid (none_nil w)
  go_enter Try.func9, Try.ntmps9
  go_wp2_with (go_at_call 23; refine k1.out.mono ?_; rintro e w2 ⟨rfl, hw⟩; have hw := hw.symm; subst hw)
  go_ret
  exact ⟨rfl, rfl⟩
theorem z_Reset (h : w.cell? ⟨a, 0, none⟩ = some (.pointer none)) : Calls Try.prog 9 #[.pointer (some ⟨a, 0, none⟩)] w fun e w' => e = .returned (.int .i64 1) ∧ w = w' := by
  have k1 := Lib.hid (none_zero w a h)
  clear h
  go_enter Try.func9, Try.ntmps9
  go_wp2_with (go_at_call 23; refine k1.out.mono ?_; rintro e w2 ⟨rfl, hw⟩; have hw := hw.symm; subst hw)
  go_ret
  exact ⟨rfl, rfl⟩
theorem n_Records (w : World) : Calls Try.prog 12 #[.pointer none] w fun e w' => e = .returned (.slice none 0 0) ∧ w = w' := by
  have k1 := Lib.hid (none_nil w)
  go_enter Try.func12, Try.ntmps12
  go_wp2_with (go_at_call 23; refine k1.out.mono ?_; rintro e w2 ⟨rfl, hw⟩; have hw := hw.symm; subst hw)
  go_ret
  exact ⟨rfl, rfl⟩
theorem z_Records (h : w.cell? ⟨a, 0, none⟩ = some (.pointer none)) : Calls Try.prog 12 #[.pointer (some ⟨a, 0, none⟩)] w fun e w' => e = .returned (.slice none 0 0) ∧ w = w' := by
  have k1 := Lib.hid (none_zero w a h)
  clear h
  go_enter Try.func12, Try.ntmps12
  go_wp2_with (go_at_call 23; refine k1.out.mono ?_; rintro e w2 ⟨rfl, hw⟩; have hw := hw.symm; subst hw)
  go_ret
  exact ⟨rfl, rfl⟩
theorem n_Free (w : World) : Calls Try.prog 13 #[.pointer none] w fun e w' => e = .returned (.int .i64 0) ∧ w = w' := by
  have k1 := Lib.hid (none_nil w)
  go_enter Try.func13, Try.ntmps13
  go_wp2_with (go_at_call 23; refine k1.out.mono ?_; rintro e w2 ⟨rfl, hw⟩; have hw := hw.symm; subst hw)
  go_ret
  exact ⟨rfl, rfl⟩
theorem z_Free (h : w.cell? ⟨a, 0, none⟩ = some (.pointer none)) : Calls Try.prog 13 #[.pointer (some ⟨a, 0, none⟩)] w fun e w' => e = .returned (.int .i64 0) ∧ w = w' := by
  have k1 := Lib.hid (none_zero w a h)
  clear h
  go_enter Try.func13, Try.ntmps13
  go_wp2_with (go_at_call 23; refine k1.out.mono ?_; rintro e w2 ⟨rfl, hw⟩; have hw := hw.symm; subst hw)
  go_ret
  exact ⟨rfl, rfl⟩
theorem n_Generation (w : World) : Calls Try.prog 15 #[.pointer none] w fun e w' => e = .returned (.int .i64 0) ∧ w = w' := by
  have k1 := Lib.hid (none_nil w)
  go_enter Try.func15, Try.ntmps15
  go_wp2_with (go_at_call 23; refine k1.out.mono ?_; rintro e w2 ⟨rfl, hw⟩; have hw := hw.symm; subst hw)
  go_ret
  exact ⟨rfl, rfl⟩
theorem z_Generation (h : w.cell? ⟨a, 0, none⟩ = some (.pointer none)) : Calls Try.prog 15 #[.pointer (some ⟨a, 0, none⟩)] w fun e w' => e = .returned (.int .i64 0) ∧ w = w' := by
  have k1 := Lib.hid (none_zero w a h)
  clear h
  go_enter Try.func15, Try.ntmps15
  go_wp2_with (go_at_call 23; refine k1.out.mono ?_; rintro e w2 ⟨rfl, hw⟩; have hw := hw.symm; subst hw)
  go_ret
  exact ⟨rfl, rfl⟩
theorem n_Append (h : NS w0 w a) (s : ByteArray) (hs : s.size ≤ 140737488355328) : Calls Try.prog 11 #[.pointer none, .string s] w fun e w' => e = .returned (.int .i64 1) ∧ NS w0 w' a := by
  have k1 := Lib.hid (c_pieces s hs w)
  have H := Lib.hid h
  clear h hs
  go_enter Try.func11, Try.ntmps11
  go_wp2_with (first
    | (go_at_call 25; refine k1.out.mono ?_; rintro e w2 ⟨g, c, rfl, hc, hg, ht, hb⟩; have HS := Lib.hid (H.out.b hb); clear hb ht hg hc)
    | (go_at_call 23; refine (none_nil _).mono ?_; rintro e w3 ⟨rfl, hw⟩; have hw := hw.symm; subst hw))
  go_ret
  exact ⟨rfl, HS.out⟩
theorem z_Append (h : NS w0 w a) (s : ByteArray) (hs : s.size ≤ 140737488355328) : Calls Try.prog 11 #[.pointer (some ⟨a, 0, none⟩), .string s] w fun e w' => e = .returned (.int .i64 1) ∧ NS w0 w' a := by
  have k1 := Lib.hid (c_pieces s hs w)
  have H := Lib.hid h
  clear h hs
  go_enter Try.func11, Try.ntmps11
  go_wp2_with (first
    | (go_at_call 25; refine k1.out.mono ?_; rintro e w2 ⟨g, c, rfl, hc, hg, ht, hb⟩; have HS := Lib.hid (H.out.b hb); clear hb ht hg hc)
    | (go_at_call 23; refine (none_zero _ a HS.out.c).mono ?_; rintro e w3 ⟨rfl, hw⟩; have hw := hw.symm; subst hw))
  go_ret
  exact ⟨rfl, HS.out⟩
set_option maxRecDepth 100000 in
theorem n_Open (fr n : Int) (w : World) : Calls Try.prog 8 #[.pointer none, .int .i64 fr, .int .i64 n] w fun e w' => e = .returned (.tuple #[.pointer none, .int .i64 1]) ∧ w = w' := by
  go_enter Try.func8, Try.ntmps8
  go_wp2_with fail
  go_ret2
  exact ⟨rfl, rfl⟩
theorem zero_get : (#[.pointer none, .int .i64 0, .int .i64 0, .int .i64 0, .bool false, .int .i64 0, .slice none 0 0] : Array Value)[0]? = some (.pointer none) := rfl
theorem NS.start (w : World) : NS w (w.alloc (.cells #[.pointer none, .int .i64 0, .int .i64 0, .int .i64 0, .bool false, .int .i64 0, .slice none 0 0] 38)) w.heap.size := by
  refine ⟨(Below.refl _ _).alloc (Nat.le_refl _) _, ?_⟩
  exact (cell_of_row _ _ 0 _ _ _ (heap_alloc_new w _)).trans zero_get
set_option maxRecDepth 100000 in
theorem walk_LogNone (s : ByteArray) (fr n : Int) (hs : s.size ≤ 140737488351232) (hf : -9223372036854775808 ≤ fr ∧ fr ≤ 9223372036854775807) (hn : -9223372036854775808 ≤ n ∧ n ≤ 9223372036854775807) (w : World) :
    Calls Try.prog 4 #[.string s, .int .i64 fr, .int .i64 n] w fun e w' => e = .returned (.bool true) ∧ Below w.heap.size w w' := by
  have HSZ := Lib.hid (show s.size ≤ 140737488355328 by omega)
  clear hs hf hn
  go_enter Try.func4, Try.ntmps4
  go_upto_region 3 with fail
  have hst := NS.start w
  generalize (w.alloc (.cells #[.pointer none, .int .i64 0, .int .i64 0, .int .i64 0, .bool false, .int .i64 0, .slice none 0 0] 38)) = w1 at *
  generalize hz : w.heap.size = z at *
  replace hz := Lib.hid hz
  have HS := Lib.hid hst
  clear hst
  go_wp2_with (first
    | (go_at_call 8; refine (n_Open _ _ _).mono ?_; rintro e w2 ⟨rfl, hw⟩; have hw := hw.symm; subst hw)
    | (go_at_call 6; refine (c_alive _).mono ?_; rintro e w3 ⟨rfl, hb⟩; have hs := HS.out.b hb; clear HS hb; have HS := Lib.hid hs; clear hs)
    | (go_at_call 11; with_reducible refine (n_Append HS.out s HSZ.out).mono ?_; rintro e w4 ⟨rfl, hs⟩; clear HS; have HS := Lib.hid hs; clear hs)
    | (go_at_call 11; with_reducible refine (z_Append HS.out s HSZ.out).mono ?_; rintro e w4 ⟨rfl, hs⟩; clear HS; have HS := Lib.hid hs; clear hs)
    | (go_at_call 14; with_reducible refine (n_Sync _).mono ?_; rintro e w5 ⟨rfl, hw⟩; have hw := hw.symm; subst hw)
    | (go_at_call 14; with_reducible refine (z_Sync HS.out.c).mono ?_; rintro e w5 ⟨rfl, hw⟩; have hw := hw.symm; subst hw)
    | (go_at_call 9; with_reducible refine (n_Reset _).mono ?_; rintro e w5 ⟨rfl, hw⟩; have hw := hw.symm; subst hw)
    | (go_at_call 9; with_reducible refine (z_Reset HS.out.c).mono ?_; rintro e w5 ⟨rfl, hw⟩; have hw := hw.symm; subst hw)
    | (go_at_call 12; with_reducible refine (n_Records _).mono ?_; rintro e w5 ⟨rfl, hw⟩; have hw := hw.symm; subst hw)
    | (go_at_call 12; with_reducible refine (z_Records HS.out.c).mono ?_; rintro e w5 ⟨rfl, hw⟩; have hw := hw.symm; subst hw)
    | (go_at_call 13; with_reducible refine (n_Free _).mono ?_; rintro e w5 ⟨rfl, hw⟩; have hw := hw.symm; subst hw)
    | (go_at_call 13; with_reducible refine (z_Free HS.out.c).mono ?_; rintro e w5 ⟨rfl, hw⟩; have hw := hw.symm; subst hw)
    | (go_at_call 15; with_reducible refine (n_Generation _).mono ?_; rintro e w5 ⟨rfl, hw⟩; have hw := hw.symm; subst hw)
    | (go_at_call 15; with_reducible refine (z_Generation HS.out.c).mono ?_; rintro e w5 ⟨rfl, hw⟩; have hw := hw.symm; subst hw))
  go_ret
  exact ⟨rfl, hz.out ▸ HS.out.1⟩
end Go.Proofs.YtladbjlkkjcfnaaLg
