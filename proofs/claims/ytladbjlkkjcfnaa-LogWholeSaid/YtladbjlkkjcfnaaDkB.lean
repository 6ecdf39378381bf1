/-
  vdisk: the small methods of a disk that is there: On, Sectors, Queue, Writes, Restore, Room, Fuse, asked. Condition: whole numbers as Go has them.
-/
import Derived.Test.YtladbjlkkjcfnaaDkA
namespace Go.Proofs.YtladbjlkkjcfnaaDk
open Go.RowKit Go.Maps Go.Proofs.YtladbjlkkjcfnaaKp
set_option linter.unusedVariables false
set_option linter.unusedSimpArgs false
variable {w : World} {p g m : Nat} {qv : Value} {D : Dm}

theorem results_void {P : Program} {fn : Func} (h : fn.results = #[]) (tmps : Array Value) (w : World) : (results fn tmps).run P w = .ok (.tuple #[]) w := by simp [results, h]
theorem kept_field (w : World) (p j : Nat) (v : Value) : Kept (fun k => k = p) w (w.setCell ⟨p, j, none⟩ v) := (Kept.refl (fun k => k = p) w).setCell (a := ⟨p, j, none⟩) (fun _ => rfl) v
theorem c_On (h : Dsk w p g m qv D) : Calls Try.prog 24 #[.pointer (some ⟨p, 0, none⟩)] w fun e w' => e = .returned (.bool D.on) ∧ w' = w := by
  obtain ⟨_, _, _, h3, _⟩ := h.cells
  clear h
  go_enter Try.func24, Try.ntmps24
  go_wp2_with fail
  go_ret
  exact ⟨rfl, rfl⟩
theorem c_Sectors (h : Dsk w p g m qv D) : Calls Try.prog 19 #[.pointer (some ⟨p, 0, none⟩)] w fun e w' => e = .returned (.int .i64 D.secs.length) ∧ w' = w := by
  obtain ⟨h0, _⟩ := h.cells
  clear h
  go_enter Try.func19, Try.ntmps19
  go_wp2_with fail
  go_ret
  exact ⟨rfl, rfl⟩
theorem que_form (h : Dsk w p g m qv D) : ∃ a cap, qv = .slice a D.q.length cap := by
  obtain ⟨_, ⟨e, h0⟩ | ⟨b, cap, cur, e, _⟩⟩ := h.que
  · exact ⟨_, _, by rw [e, h0]⟩
  · exact ⟨_, _, e⟩
theorem c_Writes (h : Dsk w p g m qv D) : Calls Try.prog 10 #[.pointer (some ⟨p, 0, none⟩)] w fun e w' => e = .returned (.int .i64 D.writes) ∧ w' = w := by
  obtain ⟨_, _, _, _, _, _, _, _, _, h9⟩ := h.cells
  clear h
  go_enter Try.func10, Try.ntmps10
  go_wp2_with fail
  go_ret
  exact ⟨rfl, rfl⟩
theorem c_Restore (h : Dsk w p g m qv D) : Calls Try.prog 17 #[.pointer (some ⟨p, 0, none⟩)] w fun e w' => e = .returned (.tuple #[]) ∧ Dsk w' p g m qv { D with on := true } ∧ Kept (fun k => k = p) w w' := by
  obtain ⟨_, _, _, h3, _⟩ := h.cells
  have hz := h.frozen 3
  have d1 : 0 < D.secs.length := h.len.1
  have k1 := Lib.hid (c_Sectors h)
  have H := Lib.hid h
  clear h
  go_enter Try.func17, Try.ntmps17
  go_wp2_with (go_at_call 19; refine k1.out.mono ?_; rintro e w1 ⟨rfl, rfl⟩)
  exact ⟨rfl, _, results_void rfl _ _, rfl, H.out.field 3 _ rfl rfl rfl rfl, kept_field _ _ _ _⟩
def roomS (n : Int) : Int := if n < -1 then -1 else n
/-- what asking for a sector says -/
def askS (D : Dm) (a : Int) : Int := if D.on = false then 80 else if a < 0 ∨ (D.secs.length : Int) ≤ a then 81 else 0
theorem c_asked (h : Dsk w p g m qv D) (a : Int) : Calls Try.prog 32 #[.pointer (some ⟨p, 0, none⟩), .int .i64 a] w fun e w' => e = .returned (.int .i64 (askS D a)) ∧ w' = w := by
  obtain ⟨h0, _, _, _⟩ := h.cells
  have k1 := Lib.hid (c_On h)
  clear h
  unfold askS
  cases ho : D.on
  · rw [if_pos rfl]
    rw [ho] at k1
    clear ho
    go_enter Try.func32, Try.ntmps32
    go_wp2_with (go_at_call 24; refine k1.out.mono ?_; rintro e w1 ⟨rfl, rfl⟩)
    go_ret
    exact ⟨rfl, rfl⟩
  · rw [if_neg (by simp)]
    rw [ho] at k1
    clear ho
    by_cases h1 : a < 0
    · rw [if_pos (.inl h1)]
      have d1 : decide (a < 0) = true := decide_eq_true h1
      go_enter Try.func32, Try.ntmps32
      go_wp2_with (go_at_call 24; refine k1.out.mono ?_; rintro e w1 ⟨rfl, rfl⟩)
      go_ret
      exact ⟨rfl, rfl⟩
    · have d1 : decide (a < 0) = false := decide_eq_false h1
      by_cases h2 : (D.secs.length : Int) ≤ a
      · rw [if_pos (.inr h2)]
        have d2 : decide ((D.secs.length : Int) ≤ a) = true := decide_eq_true h2
        go_enter Try.func32, Try.ntmps32
        go_wp2_with (go_at_call 24; refine k1.out.mono ?_; rintro e w1 ⟨rfl, rfl⟩)
        go_ret
        exact ⟨rfl, rfl⟩
      · rw [if_neg (fun h => h.elim h1 h2)]
        have d2 : decide ((D.secs.length : Int) ≤ a) = false := decide_eq_false h2
        go_enter Try.func32, Try.ntmps32
        go_wp2_with (go_at_call 24; refine k1.out.mono ?_; rintro e w1 ⟨rfl, rfl⟩)
        go_ret
        exact ⟨rfl, rfl⟩
theorem Dsk.fuse4 (h : Dsk w p g m qv D) (b : Bool) (x y z : Int) : Dsk ((((w.setCell ⟨p, 5, none⟩ (.bool b)).setCell ⟨p, 6, none⟩ (.int .i64 x)).setCell ⟨p, 7, none⟩ (.int .i64 y)).setCell ⟨p, 8, none⟩ (.int .i64 z)) p g m qv { D with fset := b, fn := x, fk := y, ft := z } :=
  (((h.field (D' := { D with fset := b }) 5 _ rfl rfl rfl rfl).field (D' := { D with fset := b, fn := x }) 6 _ rfl rfl rfl rfl).field (D' := { D with fset := b, fn := x, fk := y }) 7 _ rfl rfl rfl rfl).field (D' := { D with fset := b, fn := x, fk := y, ft := z }) 8 _ rfl rfl rfl rfl
theorem kept4 {w w0 : World} {p : Nat} (h : Kept (fun k => k = p) w0 w) (a b c d : Value) : Kept (fun k => k = p) w0 ((((w.setCell ⟨p, 5, none⟩ a).setCell ⟨p, 6, none⟩ b).setCell ⟨p, 7, none⟩ c).setCell ⟨p, 8, none⟩ d) :=
  (((h.setCell (a := ⟨p, 5, none⟩) (fun _ => rfl) a).setCell (a := ⟨p, 6, none⟩) (fun _ => rfl) b).setCell (a := ⟨p, 7, none⟩) (fun _ => rfl) c).setCell (a := ⟨p, 8, none⟩) (fun _ => rfl) d
/-- the fuse is laid -/
def fuseS (D : Dm) (n k t : Int) : Dm := if n < 0 then { D with fset := false, fn := 0, fk := 0, ft := 0 } else { D with fset := true, fn := n, fk := k, ft := t }
end Go.Proofs.YtladbjlkkjcfnaaDk
