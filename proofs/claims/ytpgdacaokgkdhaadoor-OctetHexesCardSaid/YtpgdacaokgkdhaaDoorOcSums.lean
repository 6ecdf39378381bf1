/-
  OctetSums: the law's call answers true at every string and number. Condition: Go's two tables lie as laid; sizes as Go has them.
-/
import Derived.Test.YtpgdacaokgkdhaaDoorOcW
import Derived.Deep.RegionWith
import Derived.Lib.ConvBytes
namespace Go.Proofs.YtpgdacaokgkdhaaDoorOc
open Go.RowKit Go.Proofs.YtpgdacaokgkdhaaDoorW.PrintWords Go.Proofs.YtpgdacaokgkdhaaDoorW.PrintMore Go.Proofs.YtpgdacaokgkdhaaDoor.PU

theorem c_Sum (b : ByteArray) (hb : b.size ≤ 4611686018427387904) (w : World) : Calls Tryd.prog 12 #[.string b] w fun e w' => e = .returned (.int .i64 (sumS b)) ∧ Below w.heap.size w w' :=
  (octet_Sum.calls (b.size + 1) b _ w (sum_eq b hb)).mono fun _ _ ⟨he, hd⟩ => ⟨he, hd.below⟩
theorem bcell_ {W w1 : World} (hb : Below W.heap.size W w1) : ∀ b o, b < W.heap.size → w1.cell? ⟨b, o, none⟩ = W.cell? ⟨b, o, none⟩ := fun _ _ h => hb.cell h
theorem one_byte (W : World) (n : Nat) (v : Int) (h : W.cell? ⟨n, 0, none⟩ = some (.int .u8 v)) : (convert 26 9 (.slice (some ⟨n, 0, none⟩) 1 1)).run Tryd.prog W = .ok (.string (strOfNums [v])) W :=
  string_of_reads Tryd.underlying26 Tryd.underlying5 Tryd.underlying9 ⟨rfl, by omega, fun _ => ⟨_, rfl, fun j hj => by
    obtain rfl : j = 0 := by omega
    simpa [Addr.add] using h⟩⟩
set_option maxRecDepth 100000 in
set_option maxHeartbeats 1000000 in
theorem sums_yes (a S : ByteArray) (c x y : Int) (ha : a.size ≤ 3000) (hS : S.size ≤ 1) (_hcv : ∀ (W : World) (n : Nat), W.cell? ⟨n, 0, none⟩ = some (.int .u8 c) → (convert 26 9 (.slice (some ⟨n, 0, none⟩) 1 1)).run Tryd.prog W = .ok (.string S) W)
    (hcv2 : ∀ (W : World) (n : Nat), W.cell? ⟨n, 0, none⟩ = some (.int .u8 (IntKind.u8.wrap c)) → (convert 26 9 (.slice (some ⟨n, 0, none⟩) 1 1)).run Tryd.prog W = .ok (.string S) W) (h0 : 0 ≤ c) (h1 : c ≤ 255) (hy : y = (wrap64 (bits .xor .i64 x c * 16777619)).tmod 4294967296) (w : World) (hT : Tabs w) (hx0 : 0 ≤ x) (hx1 : x < 4294967296)
    (k1 : Hid (∀ W, Calls Tryd.prog 12 #[.string a] W fun e w' => e = .returned (.int .i64 x) ∧ Below W.heap.size W w'))
    (k2 : Hid (∀ W, Calls Tryd.prog 12 #[.string (a ++ S)] W fun e w' => e = .returned (.int .i64 y) ∧ Below W.heap.size W w')) :
    Calls Tryd.prog 4 #[.string a, .int .i64 c] w fun e w' => e = .returned (.bool true) ∧ Below w.heap.size w w' := by
  have HT := Lib.hid hT
  clear hT
  have HY := Lib.hid hy
  clear hy
  have d1 : decide ((3000 : Int) < (a.size : Int)) = false := by simp; omega
  have d2 : decide (c < 0) = false := by simp; omega
  have d3 : decide (255 < c) = false := by simp; omega
  go_enter Tryd.func4, Tryd.ntmps4
  go_wp2_with fail
  go_region_with ((first
    | (go_at_call 12; with_reducible (refine (k1.out _).mono ?_); rintro e w1 ⟨rfl, hb1⟩; have hc1 := bcell_ hb1)
    | (go_at_call 12; with_reducible (refine (k2.out _).mono ?_); rintro e w2 ⟨rfl, hb2⟩)))
  all_goals
    have hB : Below w.heap.size w w2 := by
      refine below_step ?_ hb2
      repeat (first | exact Below.refl _ _ | (with_reducible apply below_alloc) | (with_reducible apply below_drew1) | (with_reducible refine below_step ?_ hb1))
  all_goals clear hb2 hb1
  all_goals try clear hc1
  all_goals go_wp2_with (go_at_call 10; refine (c_alive _ (Tabs.below HT.out hB (Nat.le_refl _))).mono ?_; rintro e w3 ⟨rfl, hb3⟩)
  all_goals
    go_ret
    exact ⟨by rw [← HY.out]; simp, below_step hB hb3⟩
theorem walk_OctetSums (a : ByteArray) (c : Int) (ha : a.size ≤ 140737488351232) (hc : -9223372036854775808 ≤ c ∧ c ≤ 9223372036854775807) (w : World) (hT : Tabs w) :
    Calls Tryd.prog 4 #[.string a, .int .i64 c] w fun e w' => e = .returned (.bool true) ∧ Below w.heap.size w w' := by
  by_cases h1 : (3000 : Int) < (a.size : Int)
  · have d1 := decide_eq_true h1
    go_enter Tryd.func4, Tryd.ntmps4
    go_wp2_with (go_at_call 10; refine (c_alive _ hT).mono ?_; rintro e w' ⟨rfl, hb⟩)
    go_ret
    exact ⟨rfl, hb⟩
  have d1 : decide ((3000 : Int) < (a.size : Int)) = false := decide_eq_false h1
  by_cases h2 : c < 0
  · have d2 := decide_eq_true h2
    go_enter Tryd.func4, Tryd.ntmps4
    go_wp2_with (go_at_call 10; refine (c_alive _ hT).mono ?_; rintro e w' ⟨rfl, hb⟩)
    go_ret
    exact ⟨rfl, hb⟩
  by_cases h3 : 255 < c
  · have d2 : decide (c < 0) = false := decide_eq_false h2
    have d3 := decide_eq_true h3
    go_enter Tryd.func4, Tryd.ntmps4
    go_wp2_with (go_at_call 10; refine (c_alive _ hT).mono ?_; rintro e w' ⟨rfl, hb⟩)
    go_ret
    exact ⟨rfl, hb⟩
  have hb : bys (strOfNums [c]) = [c] := bys_strOfNums _ (by simp; omega)
  have hr := sumS_range a
  have hw : IntKind.u8.wrap c = c := by rw [IntKind.wrap_u8']; omega
  refine sums_yes a (strOfNums [c]) c (sumS a) (sumStep (sumS a) c) (by omega) (by rw [size_strOfNums]; exact Nat.le_refl _) (fun W n h => one_byte W n c h) (fun W n h => one_byte W n c (by rw [h, hw])) (by omega) (by omega) ?_ w hT hr.1 hr.2
    (Lib.hid fun W => c_Sum a (by omega) W) (Lib.hid fun W => ?_)
  · have := i64_step (sumS a) c hr.1 hr.2 (by omega) (by omega)
    rw [w64 (n := c) (by omega)] at this
    exact this.symm
  · have := c_Sum (a ++ strOfNums [c]) (by rw [ByteArray.size_append, size_strOfNums]; simp; omega) W
    rw [sumS_snoc a _ c hb] at this
    exact this
end Go.Proofs.YtpgdacaokgkdhaaDoorOc
