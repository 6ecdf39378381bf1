/-
  chancerylaw10's row: 64 bytes of one value. Condition: none.
-/
import Derived.Test.YtcbaflnmfiofeaaDkD
import Derived.Test.YtcbaflnmfiofeaaPUx1
namespace Go.Proofs.YtcbaflnmfiofeaaDk
open Go.RowKit Go.Proofs.YtcbaflnmfiofeaaW.PrintWords Go.Proofs.YtcbaflnmfiofeaaW.PrintMore Go.Proofs.Ytcbaflnmfiofeaa.PU
theorem row_l0 (v : Int) : ∀ (d i k : Nat), i + d = 64 → d < k → chancerylaw10_row.l0 k v (List.replicate i (v % 256) ++ List.replicate d 0) i = some (strOfNums (List.replicate 64 (v % 256))) := by
  intro d
  induction d with
  | zero =>
    intro i k hi hk
    obtain ⟨k, rfl⟩ : ∃ m, k = m + 1 := ⟨k - 1, by omega⟩
    obtain rfl : i = 64 := by omega
    simp only [chancerylaw10_row.l0]
    rw [if_neg (by omega), List.replicate_zero, List.append_nil]
  | succ d ih =>
    intro i k hi hk
    obtain ⟨k, rfl⟩ : ∃ m, k = m + 1 := ⟨k - 1, by omega⟩
    simp only [chancerylaw10_row.l0]
    have w4 : wrap64 ((i : Int) + 1) = ((i + 1 : Nat) : Int) := by unfold wrap64; omega
    have e : (List.replicate i (v % 256) ++ List.replicate (d + 1) 0).set i (v % 256) = List.replicate (i + 1) (v % 256) ++ List.replicate d 0 := by
      rw [List.set_append_right _ _ (by simp), List.length_replicate, Nat.sub_self, List.replicate_succ, List.set_cons_zero, List.replicate_succ' (n := i), List.append_assoc]
      rfl
    rw [if_pos (by omega), if_pos (by omega), if_pos (by simp; omega), Int.toNat_natCast, e, w4]
    exact ih (i + 1) k (by omega) (by omega)
theorem row_eq (v : Int) : chancerylaw10_row.f 70 v = some (strOfNums (List.replicate 64 (v % 256))) := by
  unfold chancerylaw10_row.f
  rw [if_pos (by omega)]
  have := row_l0 v 64 0 70 rfl (by omega)
  simpa using this
theorem c_row (v : Int) (w : World) : Calls Try.prog 11 #[.int .i64 v] w fun e w' => e = .returned (.string (strOfNums (List.replicate 64 (v % 256)))) ∧ Below w.heap.size w w' :=
  chancerylaw10_row.calls 70 v _ w (row_eq v)
end Go.Proofs.YtcbaflnmfiofeaaDk
