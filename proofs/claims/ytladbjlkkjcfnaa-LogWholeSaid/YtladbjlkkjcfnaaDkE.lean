/-
  vdisk: burns where the power stays, Sync then. Condition: none.
-/
import Derived.Test.YtladbjlkkjcfnaaDkD
namespace Go.Proofs.YtladbjlkkjcfnaaDk
open Go.RowKit Go.Maps Go.Proofs.YtladbjlkkjcfnaaKp
set_option linter.unusedVariables false
set_option linter.unusedSimpArgs false
variable {w : World} {p g m : Nat} {qv : Value} {D : Dm}

theorem c_burns_none (h : Dsk w p g m qv D) (hf : D.fset = false) : Calls Try.prog 34 #[.pointer (some ⟨p, 0, none⟩)] w fun e w' => e = .returned (.bool false) ∧ w' = w := by
  obtain ⟨_, _, _, _, _, h5, _⟩ := h.cells
  rw [hf] at h5
  clear h hf
  go_enter Try.func34, Try.ntmps34
  go_wp2_with fail
  go_ret
  exact ⟨rfl, rfl⟩
theorem c_burns_some (h : Dsk w p g m qv D) (hf : D.fset = true) (hn : 0 < D.fn) (hm : D.fn ≤ 9223372036854775807) : Calls Try.prog 34 #[.pointer (some ⟨p, 0, none⟩)] w fun e w' => e = .returned (.bool false) ∧
    Dsk w' p g m qv { D with fn := D.fn - 1 } ∧ Kept (fun k => k = p) w w' := by
  obtain ⟨_, _, _, _, _, h5, h6, _⟩ := h.cells
  have z6 := h.frozen 6
  rw [hf] at h5
  have H := Lib.hid h
  clear h hf
  have d1 : decide (0 < D.fn) = true := decide_eq_true hn
  have hw : IntKind.i64.wrap (D.fn - 1) = D.fn - 1 := by rw [IntKind.wrap_i64]; omega
  have hw2 : wrap64 (D.fn - 1) = D.fn - 1 := by unfold wrap64; omega
  go_enter Try.func34, Try.ntmps34
  go_wp2_with fail
  go_ret
  exact ⟨rfl, H.out.field 6 _ rfl rfl rfl rfl, kept_field _ _ _ _⟩
theorem que_cap (h : Dsk w p g m qv D) : ∃ a cap, qv = .slice a D.q.length cap ∧ D.q.length ≤ cap ∧ cap ≤ 9223372036854775807 := by
  obtain ⟨_, ⟨e, h0⟩ | ⟨b, cap, cur, e, _, _, h1, h2, _⟩⟩ := h.que
  · exact ⟨none, 0, by rw [e, h0], by omega, by omega⟩
  · exact ⟨_, _, e, h1, h2⟩
/-- Sync where no fuse is laid -/
theorem c_Sync_plain (h : Dsk w p g m qv D) (ho : D.on = true) (hf : D.fset = false) : Calls Try.prog 30 #[.pointer (some ⟨p, 0, none⟩)] w fun e w' => e = .returned (.int .i64 0) ∧
    ∃ m', w.heap.size ≤ m' ∧ Dsk w' p g m' (.slice none 0 0) { D with secs := layK D.secs D.q D.q.length, q := [] } ∧ Kept (fun k => k = p ∨ k = g) w w' := by
  obtain ⟨a, cap, hq, hc, hm⟩ := que_cap h
  have k1 := Lib.hid (c_On h)
  rw [ho] at k1
  have k2 := Lib.hid (c_burns_none h hf)
  have k3 := Lib.hid (c_kept h D.q.length (Nat.le_refl _) a cap hq hc hm)
  obtain ⟨_, h1, _⟩ := h.cells
  rw [hq] at h1
  clear h ho hf hq hc hm
  go_enter Try.func30, Try.ntmps30
  go_wp2_with (first
    | (go_at_call 24; refine k1.out.mono ?_; rintro e w1 ⟨rfl, rfl⟩)
    | (go_at_call 34; refine k2.out.mono ?_; rintro e w1 ⟨rfl, rfl⟩)
    | (go_at_call 31; refine k3.out.mono ?_; rintro e w2 ⟨rfl, hm2⟩; have HM := Lib.hid hm2; clear hm2))
  go_ret
  exact ⟨rfl, HM.out⟩
end Go.Proofs.YtladbjlkkjcfnaaDk
