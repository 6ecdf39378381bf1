/-
  vdisk: New. Condition: none.
-/
import Derived.Test.YtladbjlkkjcfnaaDkC
namespace Go.Proofs.YtladbjlkkjcfnaaDk
open Go.RowKit Go.Maps Go.Proofs.YtladbjlkkjcfnaaKp Go.Proofs.YtladbjlkkjcfnaaW.PrintWords
set_option linter.unusedVariables false
set_option linter.unusedSimpArgs false

def zsec : List Int := List.replicate 64 0
/-- a new disk -/
def newD (n : Nat) : Dm := { secs := List.replicate n zsec, q := [], on := true, room := -1, fset := false, fn := 0, fk := 0, ft := 0, writes := 0, cap := n }
theorem made57 (n k : Nat) (hk : k < n * 64) : (madeCells zw57 (n * 64))[k]? = some (.int .u8 0) := by
  have hs : zw57.size = 64 := rfl
  have : ∀ j : Fin 64, zw57[j.val]? = some (.int .u8 0) := by
    intro j
    simp only [zw57, List.getElem?_toArray, List.getElem?_replicate]
    rw [if_pos j.2]
  have h2 := this ⟨k % 64, Nat.mod_lt _ (by omega)⟩
  simp only at h2
  rw [madeCells, Array.getElem?_map, Array.getElem?_range, if_pos hk, Option.map_some, hs]
  congr 1
  rw [getElem!_def, h2]
set_option maxRecDepth 100000 in
theorem c_New (n : Nat) (h1 : 1 ≤ n) (h2 : n ≤ 65536) (w : World) : Calls Try.prog 7 #[.int .i64 n] w fun e w' =>
    ∃ p g m, e = .returned (.tuple #[.pointer (some ⟨p, 0, none⟩), .int .i64 0]) ∧ Dsk w' p g m (.slice none 0 0) (newD n) ∧ w.heap.size ≤ p ∧ w.heap.size ≤ g ∧ w.heap.size ≤ m ∧ Below w.heap.size w w' := by
  have d1 : decide ((n : Int) < 1) = false := by simp; omega
  have d2 : decide ((65536 : Int) < (n : Int)) = false := by simp; omega
  obtain ⟨ZS, hZS⟩ : ∃ ZS, ZS = madeCells zw57 (n * 64) := ⟨_, rfl⟩
  have hmm := @run_makeMap Try.prog
  have hmk : ∀ W, (Instr.makeSlice 44 (.int .i64 (n : Int)) (.int .i64 (n : Int))).run Try.prog W = .ok (.slice (some ⟨W.heap.size, 0, none⟩) n n) (W.alloc (.cells ZS 63)) := by
    intro W
    obtain ⟨i, hi⟩ := info_of_underlying Try.underlying63
    have h57 := info57
    rw [hi] at h57
    simp only [Option.map_some, Option.some.injEq, Prod.mk.injEq] at h57
    have hb : (Try.prog.info? 63).map (·.bytes) = some 64 := by kernel_rfl
    rw [hi] at hb
    simp only [Option.map_some, Option.some.injEq] at hb
    have := run_make (P := Try.prog) W 44 63 i _ Try.underlying44 hi h57.1 .i64 .i64 n n (by omega) (Int.le_refl _) (by rw [hb]; omega) (by omega)
    rw [hZS]
    simpa [h57.2, Value.cells] using this
  have HZ := Lib.hid hZS
  clear hZS
  go_enter Try.func7, Try.ntmps7
  go_wp2_with fail
  go_ret2
  refine ⟨_, w.heap.size, w.heap.size + 1, rfl, ?_, by omega, by omega, by omega, ((Below.refl _ _).alloc (Nat.le_refl _) _ |>.alloc (by simp) _).alloc (by simp; omega) _⟩
  have e0 : ((((w.alloc (.cells ZS 63)).alloc (.map #[] 0)).alloc (.cells (drow w.heap.size (w.heap.size + 1) (.slice none 0 0) (newD n)) 50))).heap[w.heap.size]? = some (.cells ZS 63 (0, 0)) := by
    rw [Below.heap_alloc _ _ _ (by simp; omega), Below.heap_alloc _ _ _ (by simp), heap_alloc_new]
  have e1 : ((((w.alloc (.cells ZS 63)).alloc (.map #[] 0)).alloc (.cells (drow w.heap.size (w.heap.size + 1) (.slice none 0 0) (newD n)) 50))).heap[w.heap.size + 1]? = some (.map #[] 0) := by
    rw [Below.heap_alloc _ _ _ (by simp), heap_alloc2_new]
  have e2 : ((((w.alloc (.cells ZS 63)).alloc (.map #[] 0)).alloc (.cells (drow w.heap.size (w.heap.size + 1) (.slice none 0 0) (newD n)) 50))).heap[w.heap.size + 1 + 1]? = some (.cells (drow w.heap.size (w.heap.size + 1) (.slice none 0 0) (newD n)) 50 (0, 0)) := by
    have := heap_alloc_new ((w.alloc (.cells ZS 63)).alloc (.map #[] 0)) (.cells (drow w.heap.size (w.heap.size + 1) (.slice none 0 0) (newD n)) 50 (0, 0))
    simpa using this
  have hrow : (#[Value.slice (some ⟨w.heap.size, 0, none⟩) n n, .slice none 0 0, .map (some (w.heap.size + 1)), .bool true, .int .i64 (-1), .bool false, .int .i64 0, .int .i64 0, .int .i64 0, .int .i64 0] : Array Value) = drow w.heap.size (w.heap.size + 1) (.slice none 0 0) (newD n) := by
    simp [drow, newD]
  rw [hrow]
  have hlen : (newD n).secs.length = n := by simp [newD]
  refine ⟨e2, ⟨ZS, e0, ?_, ?_⟩, ⟨rfl, .inl ⟨rfl, rfl⟩⟩, ownsMap_at (w := w.alloc (.cells ZS 63) |>.alloc (.map #[] 0)) ?_ ?_, by omega, by omega, by omega, by simp [Value.ownBlock], by simp [Value.ownBlock], by simp [Value.ownBlock], by rw [hlen]; omega, by rw [hlen]; simp only [newD]; omega, by simp [newD]⟩
  · rw [HZ.out, size_madeCells, hlen]; omega
  · intro i s hi
    have hil := (List.getElem?_eq_some_iff.1 hi).1
    rw [hlen] at hil
    have hs : s = zsec := by simp only [newD, List.getElem?_replicate] at hi; split at hi <;> simp_all
    subst hs
    refine ⟨rfl, fun j v hv => ?_⟩
    have hj := (List.getElem?_eq_some_iff.1 hv).1
    have hj2 : j < 64 := by simpa [zsec] using hj
    obtain rfl : v = 0 := by simp only [zsec, List.getElem?_replicate] at hv; split at hv <;> simp_all
    rw [HZ.out]
    exact made57 n _ (by omega)
  · have := World.ownsMap_made (H := Unit) (w.alloc (.cells ZS 63)) Try.prog 3 (plainElem Try.prog 3)
    have e : (w.alloc (.cells ZS 63)).heap.size = w.heap.size + 1 := by simp
    rw [e] at this
    exact this
  · rw [e1, heap_alloc2_new]
theorem c_New_no (n : Int) (h : ¬ (1 ≤ n ∧ n ≤ 65536)) (w : World) : Calls Try.prog 7 #[.int .i64 n] w fun e w' => e = .returned (.tuple #[.pointer none, .int .i64 1]) ∧ w' = w := by
  by_cases h1 : n < 1
  · have d1 : decide (n < 1) = true := decide_eq_true h1
    go_enter Try.func7, Try.ntmps7
    go_wp2_with fail
    go_ret2
    exact ⟨rfl, rfl⟩
  · have d1 : decide (n < 1) = false := decide_eq_false h1
    have d2 : decide (65536 < n) = true := by simp; omega
    go_enter Try.func7, Try.ntmps7
    go_wp2_with fail
    go_ret2
    exact ⟨rfl, rfl⟩
end Go.Proofs.YtladbjlkkjcfnaaDk
