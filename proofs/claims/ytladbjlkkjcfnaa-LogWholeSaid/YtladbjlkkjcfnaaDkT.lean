/-
  vdisk: whole sectors and writes, closed to the walk: rules for their loads and stores. Condition: none.
-/
import Derived.Test.YtladbjlkkjcfnaaDkG
import Derived.Test.YtladbjlkkjcfnaaCm
namespace Go.Proofs.YtladbjlkkjcfnaaDk
open Go.RowKit Go.Maps Go.Proofs.YtladbjlkkjcfnaaKp Go.Proofs.YtladbjlkkjcfnaaCm
set_option linter.unusedVariables false
set_option linter.unusedSimpArgs false
theorem ld59 (v : Value) : Instr.loadAt 65 v = ldR 65 v := rfl
theorem ld57 (v : Value) : Instr.loadAt 63 v = ldR 63 v := rfl
theorem st59 (v x : Value) : Instr.storeAt 65 v x = stR 65 v x := rfl
theorem st57 (v x : Value) : Instr.storeAt 63 v x = stR 63 v x := rfl
theorem bs45 (n : Nat) (ps : Array (Nat × Value)) : Instr.buildSlice 46 n ps = bsR 46 n ps := rfl
theorem run_ld59 (w : World) (b o : Nat) (h : hasN w b o 65 = true) : (ldR 65 (.pointer (some ⟨b, o, none⟩))).run Try.prog w = .ok (.agg (readN w b o 65)) w :=
  run_ldR w b o 65 _ _ Try.underlying65 rfl (zero_of_info info59).2 h
theorem run_ld57 (w : World) (b o : Nat) (h : hasN w b o 64 = true) : (ldR 63 (.pointer (some ⟨b, o, none⟩))).run Try.prog w = .ok (.agg (readN w b o 64)) w :=
  run_ldR w b o 64 _ _ Try.underlying63 rfl (zero_of_info info57).2 h
theorem run_st59 (w : World) (b o : Nat) (x : Int × List Int) (h : openN w b o 65 = true) (hx : x.2.length = 64) : (stR 65 (.pointer (some ⟨b, o, none⟩)) (.agg (wcells x).toArray)).run Try.prog w = .ok () (w.setCells b o (wcells x)) := by
  have := run_stR w b o 65 65 (wcells x).toArray (zero_of_info (P := Try.prog) info59).2 h (by rw [List.size_toArray]; exact wcells_length x hx) (all_oneCell_toArray (oneW x))
  simpa using this
theorem run_st57 (w : World) (b o : Nat) (s : List Int) (h : openN w b o 64 = true) (hx : s.length = 64) : (stR 63 (.pointer (some ⟨b, o, none⟩)) (.agg (u8s s).toArray)).run Try.prog w = .ok () (w.setCells b o (u8s s)) := by
  have := run_stR w b o 64 63 (u8s s).toArray (zero_of_info (P := Try.prog) info57).2 h (by rw [List.size_toArray, u8s_length]; exact hx) (all_oneCell_toArray (oneU s))
  simpa using this
theorem run_bs45 (w : World) (cs : List Value) (h : cs.length = 65) : (bsR 46 1 #[(0, .agg cs.toArray)]).run Try.prog w = .ok (.slice (some ⟨w.heap.size, 0, none⟩) 1 1) (w.alloc (.cells cs.toArray 65)) := by
  have hsz : cs.toArray.size = 65 := by rw [List.size_toArray, h]
  exact run_buildSlice_one w _ 65 _ zw59 Try.underlying46 (by rw [hsz]; exact info59) (by rw [hsz]; rfl) (by omega) (by omega)
theorem run_cv (w : World) (b o n c : Nat) (h : isStrN w b o n = true) : (convert 31 9 (.slice (some ⟨b, o, none⟩) n c)).run Try.prog w = .ok (.string (strN w b o n)) w :=
  run_cvN w _ _ _ Try.underlying31 Try.underlying5 Try.underlying9 b o n c h
theorem open57 (w : World) : openN (w.alloc (.cells zw57 63)) w.heap.size 0 64 = true := by
  have hn := heap_alloc_new w (.cells zw57 63 (0, 0))
  have hz : zw57.size = 64 := rfl
  exact openN_of (fun j hj => ⟨by rw [cell_of_row _ _ _ _ _ _ hn, Array.getElem?_eq_getElem (by omega)]; rfl, frozen_of_row _ _ _ _ _ hn⟩)
theorem open59 (w : World) : openN (w.alloc (.cells zw59 65)) w.heap.size 0 65 = true := by
  have hn := heap_alloc_new w (.cells zw59 65 (0, 0))
  have hz : zw59.size = 65 := rfl
  exact openN_of (fun j hj => ⟨by rw [cell_of_row _ _ _ _ _ _ hn, Array.getElem?_eq_getElem (by omega)]; rfl, frozen_of_row _ _ _ _ _ hn⟩)
theorem zero59 (w : World) : (zeroValue 65).run Try.prog w = .ok (.agg zw59) w := (zero_of_info (P := Try.prog) info59).1 w
theorem zero57 (w : World) : (zeroValue 63).run Try.prog w = .ok (.agg zw57) w := (zero_of_info (P := Try.prog) info57).1 w
/-- a sector laid into a new block -/
theorem new_sector (W : World) (s : List Int) (hl : s.length = 64) : Below W.heap.size W ((W.alloc (.cells zw57 63)).setCells W.heap.size 0 (u8s s)) ∧
    W.heap.size < ((W.alloc (.cells zw57 63)).setCells W.heap.size 0 (u8s s)).heap.size ∧
    ((W.alloc (.cells zw57 63)).setCells W.heap.size 0 (u8s s)).rangeAt W.heap.size 0 (u8s s) ∧ ((W.alloc (.cells zw57 63)).setCells W.heap.size 0 (u8s s)).there W.heap.size 0 64 := by
  have ht := there_of (open57 W)
  refine ⟨?_, ?_, World.rangeAt_setCells_same _ _ _ _ (by rw [u8s_length, hl]; exact ht), World.there_setCells ht _ _ _⟩
  · have := (Kept.refl (fun i => i = W.heap.size) W).alloc (.cells zw57 63 (0, 0))
    exact (this.setCells (b := W.heap.size) (fun h => absurd h (Nat.lt_irrefl _)) 0 (u8s s)).to_below (Nat.le_refl _) (fun i e => by rw [e]; exact Nat.le_refl _)
  · rw [size_setCells]
    simp
/-- the rules, for a text that walks them -/
theorem rules : True := trivial
end Go.Proofs.YtladbjlkkjcfnaaDk
