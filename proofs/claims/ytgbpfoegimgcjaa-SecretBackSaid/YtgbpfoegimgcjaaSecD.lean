/-
  secret: Hidden and Check. Condition: the password takes at most 2^40 bytes.
-/
import Derived.Test.YtgbpfoegimgcjaaSecC
import Derived.ChangeKeysEq
namespace Go.Proofs.YtgbpfoegimgcjaaOc
open Go.Proofs.YtgbpfoegimgcjaaCls Go.RowKit Go.Proofs.YtgbpfoegimgcjaaW.PrintWords Go.Proofs.YtgbpfoegimgcjaaW.PrintMore Go.Proofs.Ytgbpfoegimgcjaa.PU
set_option linter.unusedSimpArgs false
set_option linter.unusedVariables false

theorem eq4 (x0 x1 x2 x3 v0 v1 v2 v3 : Int) (W : World) : (Op.equalIn 10000 34 (.agg #[.int .u32 x0, .int .u32 x1, .int .u32 x2, .int .u32 x3]) (.agg #[.int .u32 v0, .int .u32 v1, .int .u32 v2, .int .u32 v3])).run Try.prog W =
    .ok (x0 == v0 && (x1 == v1 && (x2 == v2 && x3 == v3))) W := by
  obtain ⟨i, hi⟩ : ∃ i, Try.prog.info? 32 = some i := info_of_underlying Try.underlying32
  rw [run_equalIn_array W 9999 _ _ Try.underlying34 hi]
  have hc : Try.prog.cellsOf 32 = 1 := by kernel_rfl
  rw [hc]
  have p0 : ∀ a b c d : Value, (part 32 #[a, b, c, d] (0 * 1)).run Try.prog W = .ok a W := fun _ _ _ _ => by kernel_rfl
  have p1 : ∀ a b c d : Value, (part 32 #[a, b, c, d] (1 * 1)).run Try.prog W = .ok b W := fun _ _ _ _ => by kernel_rfl
  have p2 : ∀ a b c d : Value, (part 32 #[a, b, c, d] (2 * 1)).run Try.prog W = .ok c W := fun _ _ _ _ => by kernel_rfl
  have p3 : ∀ a b c d : Value, (part 32 #[a, b, c, d] (3 * 1)).run Try.prog W = .ok d W := fun _ _ _ _ => by kernel_rfl
  have e : ∀ a b : Int, (Op.equalIn 9999 32 (.int .u32 a) (.int .u32 b)).run Try.prog W = .ok (a == b) W := fun a b => run_equalIn_int W 9998 32 .u32 .u32 a b Try.underlying32
  rw [show List.range 4 = [0, 1, 2, 3] from rfl]
  simp only [Op.eqItems, Sem.run_bind, p0, p1, p2, p3, e, Result.andThen_ok, Sem.run_ite, Sem.run_pure]
  cases x0 == v0 <;> cases x1 == v1 <;> cases x2 == v2 <;> cases x3 == v3 <;> rfl
set_option maxRecDepth 100000 in
set_option maxHeartbeats 1000000 in
theorem c_Hidden (s : ByteArray) (hs : s.size ≤ 4611686018427387904) (r : Bool) (hr : r = true ↔ isHid s) (w : World) :
    Calls Try.prog 8 #[.string s] w fun e w' => e = .returned (.bool r) ∧ Below w.heap.size w w' := by
  by_cases h : isHid s
  · obtain rfl : r = true := hr.2 h
    clear hr
    obtain ⟨S, R, hS, hR, rfl⟩ := h
    have k1 := Lib.hid (parts_yes S R hS hR)
    generalize hidden S R = s at *
    rw [show getCells R 4 = #[.int .u32 (vk R 0), .int .u32 (vk R 1), .int .u32 (vk R 2), .int .u32 (vk R 3)] from rfl] at k1
    go_enter Try.func8, Try.ntmps8
    go_wp2_with (go_at_call 18; go_loud (with_reducible (refine (k1.out _).mono ?_); rintro e w1 ⟨rfl, hb1⟩))
    go_ret
    exact ⟨rfl, below_alloc hb1 _⟩
  · obtain rfl : r = false := by cases r with | false => rfl | true => exact absurd (hr.1 rfl) h
    clear hr
    have k1 := Lib.hid (parts_no s hs h)
    clear h
    rw [show zeros = #[.int .u32 0, .int .u32 0, .int .u32 0, .int .u32 0] from rfl] at k1
    go_enter Try.func8, Try.ntmps8
    go_wp2_with (go_at_call 18; go_loud (with_reducible (refine (k1.out _).mono ?_); rintro e w1 ⟨rfl, hb1⟩))
    go_ret
    exact ⟨rfl, below_alloc hb1 _⟩
set_option maxRecDepth 100000 in
set_option maxHeartbeats 1000000 in
theorem check_no (s p : ByteArray) (hs : s.size ≤ 4611686018427387904) (h : ¬ isHid s) (r : Bool) (hr : r = (s.toList == p.toList)) (w : World) :
    Calls Try.prog 10 #[.string s, .string p] w fun e w' => e = .returned (.bool r) ∧ Below w.heap.size w w' := by
  have k1 := Lib.hid (parts_no s hs h)
  clear h
  have d1 : (s.toList == p.toList) = r := hr.symm
  clear hr
  rw [show zeros = #[.int .u32 0, .int .u32 0, .int .u32 0, .int .u32 0] from rfl] at k1
  go_enter Try.func10, Try.ntmps10
  go_wp2_with (go_at_call 18; go_loud (with_reducible (refine (k1.out _).mono ?_); rintro e w1 ⟨rfl, hb1⟩))
  go_ret
  exact ⟨rfl, below_alloc hb1 _⟩
set_option maxRecDepth 100000 in
set_option maxHeartbeats 1000000 in
theorem check_long (S R p : ByteArray) (hS : S.size = 4) (hR : R.size = 16) (hp : 1024 < p.size) (w : World) :
    Calls Try.prog 10 #[.string (hidden S R), .string p] w fun e w' => e = .returned (.bool false) ∧ Below w.heap.size w w' := by
  have d1 : decide ((p.size : Int) ≤ 1024) = false := by simp; omega
  have k1 := Lib.hid (parts_yes S R hS hR)
  generalize hidden S R = s at *
  rw [show getCells R 4 = #[.int .u32 (vk R 0), .int .u32 (vk R 1), .int .u32 (vk R 2), .int .u32 (vk R 3)] from rfl] at k1
  clear hp
  go_enter Try.func10, Try.ntmps10
  go_wp2_with (go_at_call 18; go_loud (with_reducible (refine (k1.out _).mono ?_); rintro e w1 ⟨rfl, hb1⟩))
  go_region
  go_wp2_with fail
  go_ret
  exact ⟨rfl, (below_alloc hb1 _).drew⟩
set_option maxRecDepth 100000 in
set_option maxHeartbeats 1000000 in
theorem check_yes (S R p : ByteArray) (hS : S.size = 4) (hR : R.size = 16) (hp : p.size ≤ 1024) (r : Bool) (hr : r = true ↔ xk S p 0 = vk R 0 ∧ xk S p 1 = vk R 1 ∧ xk S p 2 = vk R 2 ∧ xk S p 3 = vk R 3) (w : World) :
    Calls Try.prog 10 #[.string (hidden S R), .string p] w fun e w' => e = .returned (.bool r) ∧ Below w.heap.size w w' := by
  have d1 : decide ((p.size : Int) ≤ 1024) = true := by simp; omega
  have k1 := Lib.hid (parts_yes S R hS hR)
  have k2 : Hid (∀ W, Calls Try.prog 14 #[.string S, .string p] W fun e w' => e = .returned (.agg (sumCells S p 4)) ∧ Below W.heap.size W w') := Lib.hid fun W => c_sumOf S p (by omega) (by omega) W
  generalize hidden S R = s at *
  rw [show getCells R 4 = #[.int .u32 (vk R 0), .int .u32 (vk R 1), .int .u32 (vk R 2), .int .u32 (vk R 3)] from rfl] at k1
  rw [show sumCells S p 4 = #[.int .u32 (xk S p 0), .int .u32 (xk S p 1), .int .u32 (xk S p 2), .int .u32 (xk S p 3)] from rfl] at k2
  have HR := Lib.hid hr
  clear hp hr
  generalize vk R 0 = v0 at *
  generalize vk R 1 = v1 at *
  generalize vk R 2 = v2 at *
  generalize vk R 3 = v3 at *
  generalize xk S p 0 = x0 at *
  generalize xk S p 1 = x1 at *
  generalize xk S p 2 = x2 at *
  generalize xk S p 3 = x3 at *
  go_enter Try.func10, Try.ntmps10
  go_wp2_with (go_at_call 18; go_loud (with_reducible (refine (k1.out _).mono ?_); rintro e w1 ⟨rfl, hb1⟩; have hz := heap_alloc_new w1 (.cells #[.int .u32 v0, .int .u32 v1, .int .u32 v2, .int .u32 v3] 34 (0, 0)); have hb2 := (below_alloc hb1 (.cells #[.int .u32 v0, .int .u32 v1, .int .u32 v2, .int .u32 v3] 34 (0, 0))).drew))
  obtain ⟨ι, φ, hι, hD, hS⟩ := cls_of (fun W => Below w.heap.size w W ∧ W.heap[w1.heap.size]? = some (.cells #[.int .u32 v0, .int .u32 v1, .int .u32 v2, .int .u32 v3] 34 (0, 0))) _ ⟨hb2, hz⟩
  have hst : ∀ W W', (Below w.heap.size w W ∧ W.heap[w1.heap.size]? = some (.cells #[.int .u32 v0, .int .u32 v1, .int .u32 v2, .int .u32 v3] 34 (0, 0))) → Below W.heap.size W W' → (Below w.heap.size w W' ∧ W'.heap[w1.heap.size]? = some (.cells #[.int .u32 v0, .int .u32 v1, .int .u32 v2, .int .u32 v3] 34 (0, 0))) := fun W W' h hb => ⟨bstep h.1 hb h.1.size, blk_below h.2 hb⟩
  have HF := Lib.hid (And.intro hD (And.intro hS hst))
  have f0 : ∀ i, (φ i).cell? ⟨w1.heap.size, 0, none⟩ = some (.int .u32 v0) := fun i => (cell_of_row _ _ 0 _ _ _ (hD i).2).trans rfl
  have f1 : ∀ i, (φ i).cell? ⟨w1.heap.size, 1, none⟩ = some (.int .u32 v1) := fun i => (cell_of_row _ _ 1 _ _ _ (hD i).2).trans rfl
  have f2 : ∀ i, (φ i).cell? ⟨w1.heap.size, 2, none⟩ = some (.int .u32 v2) := fun i => (cell_of_row _ _ 2 _ _ _ (hD i).2).trans rfl
  have f3 : ∀ i, (φ i).cell? ⟨w1.heap.size, 3, none⟩ = some (.int .u32 v3) := fun i => (cell_of_row _ _ 3 _ _ _ (hD i).2).trans rfl
  refine wp_region_cls φ (by kernel_rfl) (by kernel_rfl) (hS _ ⟨hb2, hz⟩) ?_
  clear hD hS hst hz hb1 hb2
  have e4 := eq4 x0 x1 x2 x3 v0 v1 v2 v3
  repeat (go_big_quiet_step ((go_at_call 14; exact call_cls HF.out.1 HF.out.2.1 HF.out.2.2 k2 _)))
  refine wpQuiet_nil ?_
  rintro _ ⟨i, rfl⟩
  obtain ⟨hb3, hz3⟩ := HF.out.1 i
  go_wp2_with fail
  go_ret
  refine ⟨?_, hb3⟩
  show Ending.returned (.bool (x0 == v0 && (x1 == v1 && (x2 == v2 && x3 == v3)))) = .returned (.bool r)
  have : (x0 == v0 && (x1 == v1 && (x2 == v2 && x3 == v3))) = r := by rw [Bool.eq_iff_iff, HR.out]; simp
  rw [this]
end Go.Proofs.YtgbpfoegimgcjaaOc
