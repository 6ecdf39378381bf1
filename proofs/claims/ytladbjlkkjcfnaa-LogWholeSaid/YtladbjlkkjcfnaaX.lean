/-
  A law that the print lacks: 'make([]T, 0, c)' gives an empty row of the call's own. Condition: 0 ≤ c, and c elements take at most 2^48 bytes.
-/
import Derived.Laws.MakeOwn
import Derived.Test.YtladbjlkkjcfnaaWWords
namespace Go.Proofs.YtladbjlkkjcfnaaX
open Go.RowKit Go.Proofs.YtladbjlkkjcfnaaW.PrintWords
section
variable {P : Program} {ops : Array Oper} {o : Oper} {a : Act} {Q : Exit → Act → World → Prop} {rest : List Oper} {α : Type}
theorem R_make_cap (d : Kd α) {w0 W : World} (base e : Nat) (hgd : o.guard = none) {N : Tmp} (_hd : o.dst = some N) (t : TypeId) (x y : Operand) (ho : o.op = .makeSlice t x y) (c : Int)
    (hx : a.eval x = .int .i64 0) (hy : a.eval y = .int .i64 c) (ht : P.underlying t = some (.slice e)) (z : Value) (bytes : Nat)
    (hinfo : (P.info? e).map (fun i => (i.zero, i.size, i.bytes)) = some (some z, d.sz, bytes)) (_hz : z.cells.size = d.sz) (_hs0 : 0 < d.sz) (hb0 : 0 < bytes) (_z0 : α) {ok : Nat → Prop}
    (h0 : 0 ≤ c) (hl : c.toNat * bytes ≤ 281474976710656) (HB : Below base w0 W) (hbase : base ≤ W.heap.size) (hfresh : ok W.heap.size)
    (h : ∀ v1 w1, d.R e w1 base ok v1 (List.replicate 0 _z0) → Below base w0 w1 → W.grownBy w1 none → (∃ b, v1.ownBlock = some b ∧ W.heap.size ≤ b) → wpList P ops Q rest (a.put o.dst v1) w1) : wpList P ops Q (o :: rest) a W := by
  obtain ⟨m, rfl⟩ := Int.eq_ofNat_of_zero_le h0
  simp only [Int.toNat_natCast] at hl
  obtain ⟨i0, hi, hzz⟩ := Option.map_eq_some_iff.1 hinfo
  simp only [Prod.mk.injEq] at hzz
  obtain ⟨hz0, hz1, hz2⟩ := hzz
  have hm : m ≤ 281474976710656 := Nat.le_trans (Nat.le_mul_of_pos_right _ hb0) hl
  obtain ⟨w', hr, hown, hgrow⟩ := run_make_own (P := P) W base t e i0 z d.sz ht hi hz0 hz1 .i64 .i64 m (by rw [hz2, Nat.mul_comm]; exact hl) (by simp only [maxLen]; omega) hbase
  refine Kd.event_run hgd (v := .slice (some ⟨W.heap.size, 0, none⟩) 0 m) (w1 := w') ?_ (h _ _ ⟨fun k hk => ?_, [], by simpa using hown, Reps.none _ _⟩ (HB.grown hgrow hbase (by simp)) hgrow ⟨W.heap.size, by simp [Value.ownBlock], Nat.le_refl _⟩)
  · simp [execOp, ho, hx, hy, hr]
  · have : W.heap.size = k := by simpa [Value.ownBlock] using hk
    subst this
    exact hfresh
end
end Go.Proofs.YtladbjlkkjcfnaaX
