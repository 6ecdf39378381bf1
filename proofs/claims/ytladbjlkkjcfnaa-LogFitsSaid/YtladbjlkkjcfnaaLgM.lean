/-
  chancerylaw11: LogFits, the walk. Condition: none.
-/
import Derived.Test.YtladbjlkkjcfnaaLgK
namespace Go.Proofs.YtladbjlkkjcfnaaLg
open Go.RowKit Go.Proofs.YtladbjlkkjcfnaaW.PrintWords Go.Proofs.YtladbjlkkjcfnaaW.PrintMore Go.Proofs.Ytladbjlkkjcfnaa.PU Go.Proofs.YtladbjlkkjcfnaaOc Go.Proofs.YtladbjlkkjcfnaaKp Go.Proofs.YtladbjlkkjcfnaaCm Go.Proofs.YtladbjlkkjcfnaaDk
set_option linter.unusedVariables false
set_option linter.unusedSimpArgs false
variable {w0 w w1 : World} {p l : Nat} {D D' : Dm} {L L' : Lm} {B : List (Nat × Obj)}
theorem wrI_writes {fr gen used : Int} {parts : List ByteArray} {k : Nat} (h : Hl D k) (hp : ∀ x ∈ parts, x.size ≤ 48) (hg : 0 ≤ gen ∧ gen ≤ 4294967295) (hf : 0 ≤ fr) (hu : 0 ≤ used) (hb : fr + used + parts.length ≤ D.secs.length) (hs : D.secs.length ≤ 65536) (h0 : D.writes = 0) :
    ∀ i, i ≤ parts.length → (wrI D fr gen used parts i).writes = i
  | 0, _ => h0
  | i + 1, hi => by
    have ih := wrI_writes h hp hg hf hu hb hs h0 i (by omega)
    obtain ⟨h1, h2⟩ := wrI_hl h hp hg hf hu hb hs i (by omega)
    have hx : (parts.getD i ByteArray.empty).size ≤ 48 := by
      rw [List.getD_eq_getElem?_getD, List.getElem?_eq_getElem (by omega), Option.getD_some]
      exact hp _ (List.getElem_mem _)
    have e := (hl_write h1 (fr + (used + i)) (formS (parts.getD i ByteArray.empty) (if i + 1 = parts.length then 2 else 1) gen (used + i)) ⟨by omega, by rw [h2]; omega⟩ (formS_size _ _ _ _ hx hg ⟨by omega, by omega⟩)).2.1
    show (writeD _ _ _).writes = _
    rw [e]
    show wrap64 ((wrI D fr gen used parts i).writes + 1) = _
    rw [ih, w64 (by omega)]
    omega
theorem zeros_eq (k : Nat) : zeros k = strOfNums (List.replicate k 0) := by
  apply ByteArray.ext
  show (List.replicate k (0 : UInt8)).toArray = ((List.replicate k (0 : Int)).map _).toArray
  rw [List.map_replicate]
  rfl
theorem f_Writes (h : Lg w0 w p l D L B) {v : Int} (hv : D.writes = v) : Calls Try.prog 10 #[.pointer (some ⟨p, 0, none⟩)] w fun e w' => e = .returned (.int .i64 v) ∧ w = w' := by
  have := l_Writes h
  rwa [hv] at this
theorem l_alive (h : Lg w0 w p l D L B) : Calls Try.prog 6 #[] w fun e w' => e = .returned (.bool true) ∧ Lg w0 w' p l D L B := h.db (c_alive w)
/-- one record is told -/
theorem l_Records1 (h : Lg w0 w p l D L B) (hL : LOk L) {x : ByteArray} (hx : L.recs = [x]) : Calls Try.prog 12 #[.pointer (some ⟨l, 0, none⟩)] w fun e w' => ∃ g c cs, e = .returned (.slice (some ⟨g, 0, none⟩) 1 c) ∧ cs[0]? = some (.string x) ∧ Lg w0 w' p l D L ((g, .cells cs 9 (0, 0)) :: B) := by
  refine (l_Records h hL).mono fun e w' ⟨A, c, he, ho, hb⟩ => ?_
  rw [hx] at he ho
  obtain ⟨_, ⟨_, e2⟩ | ⟨g, cap, cur, e0, hg, hcur, hn, _, hcs, htk⟩⟩ := ho
  · cases e2
  · simp only [Value.slice.injEq] at e0
    obtain ⟨rfl, _, rfl⟩ := e0
    have hc := txt_cells (l := [x]) hcur htk 0 (by simp)
    rw [cell_of_row _ _ _ _ _ _ hcur] at hc
    exact ⟨g, c, cur, he, hc, h.join hb hg hcur⟩
theorem fits_early (n size : Int) (h : n < 1 ∨ 30 < n ∨ size < 0 ∨ 2000 < size) (w : World) : Calls Try.prog 3 #[.int .i64 n, .int .i64 size] w fun e w' => e = .returned (.bool true) ∧ Below w.heap.size w w' := by
  have ka := Lib.hid c_alive
  by_cases h1 : n < 1
  · have d1 : decide (n < 1) = true := decide_eq_true h1
    clear h
    go_enter Try.func3, Try.ntmps3
    go_wp2_with (go_at_call 6; refine (ka.out _).mono ?_; rintro e w1 ⟨rfl, hb⟩; have HB := Lib.hid hb; clear hb)
    go_ret
    exact ⟨rfl, HB.out⟩
  have d1 : decide (n < 1) = false := decide_eq_false h1
  by_cases h2 : 30 < n
  · have d2 : decide (30 < n) = true := decide_eq_true h2
    clear h
    go_enter Try.func3, Try.ntmps3
    go_wp2_with (go_at_call 6; refine (ka.out _).mono ?_; rintro e w1 ⟨rfl, hb⟩; have HB := Lib.hid hb; clear hb)
    go_ret
    exact ⟨rfl, HB.out⟩
  have d2 : decide (30 < n) = false := decide_eq_false h2
  by_cases h3 : size < 0
  · have d3 : decide (size < 0) = true := decide_eq_true h3
    clear h
    go_enter Try.func3, Try.ntmps3
    go_wp2_with (go_at_call 6; refine (ka.out _).mono ?_; rintro e w1 ⟨rfl, hb⟩; have HB := Lib.hid hb; clear hb)
    go_ret
    exact ⟨rfl, HB.out⟩
  have d3 : decide (size < 0) = false := decide_eq_false h3
  have d4 : decide (2000 < size) = true := decide_eq_true (by omega)
  clear h
  go_enter Try.func3, Try.ntmps3
  go_wp2_with (go_at_call 6; refine (ka.out _).mono ?_; rintro e w1 ⟨rfl, hb⟩; have HB := Lib.hid hb; clear hb)
  go_ret
  exact ⟨rfl, HB.out⟩
theorem info5' : (Try.prog.info? 5).map (fun i => (i.zero, i.size, i.bytes)) = some (some (.int .u8 0), 1, 1) := by kernel_rfl
/-- zeros are made, and told as a string -/
theorem make_zeros (k : Nat) (hk : k ≤ 2000) : ∃ ZS : Array Value, (∀ W, (Instr.makeSlice 31 (.int .i64 (k : Int)) (.int .i64 (k : Int))).run Try.prog W = .ok (.slice (some ⟨W.heap.size, 0, none⟩) k k) (W.alloc (.cells ZS 5))) ∧
    ∀ W : World, (convert 31 9 (.slice (some ⟨W.heap.size, 0, none⟩) k k)).run Try.prog (W.alloc (.cells ZS 5)) = .ok (.string (zeros k)) (W.alloc (.cells ZS 5)) := by
  obtain ⟨i0, hi0, hz0, hz1, hz2⟩ := info_parts info5'
  refine ⟨madeCells #[.int .u8 0] (k * 1), fun W => ?_, fun W => ?_⟩
  · have := run_make (P := Try.prog) W 31 5 i0 _ Try.underlying31 hi0 hz0 .i64 .i64 k k (by omega) (Int.le_refl _) (by rw [hz2]; omega) (by omega)
    simpa [hz1, Value.cells] using this
  · have hrg : (W.alloc (.cells (madeCells #[.int .u8 0] (k * 1)) 5)).rangeAt W.heap.size 0 ((List.replicate k (0 : Int)).map (.int .u8)) := by
      intro j v hv
      rw [List.getElem?_map, Option.map_eq_some_iff] at hv
      obtain ⟨x, hx, rfl⟩ := hv
      have hj : j < k := by have := (List.getElem?_eq_some_iff.1 hx).1; simpa using this
      rw [List.getElem?_replicate, if_pos hj] at hx
      cases hx
      rw [Nat.zero_add, cell_of_row _ _ _ _ _ _ (heap_alloc_new _ _), madeCells, Array.getElem?_map, Array.getElem?_range, if_pos (by omega), Option.map_some]
      have e : j % (#[Value.int .u8 0] : Array Value).size = 0 := Nat.mod_one j
      rw [e]
      rfl
    rw [run_cvN _ _ _ _ Try.underlying31 Try.underlying5 Try.underlying9 _ 0 k k (isStrN_of hrg (by simp)), strN_of hrg (by simp), zeros_eq]
end Go.Proofs.YtladbjlkkjcfnaaLg
