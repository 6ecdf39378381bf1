/-
  'Kept F w w'': no block outside F has turned, the streams are as they were. Condition: none.
-/
import Derived.Below
import Derived.Laws.Rows
import Derived.Laws.AppendOwn
import Derived.Deep.MidRow
import Derived.Maps.OwnSet
import Derived.Lib.Hide
namespace Go.Proofs.YtladbjlkkjcfnaaKp
open Go.RowKit
set_option linter.unusedVariables false
structure Kept (F : Nat → Prop) (w w' : World) : Prop where
  os : w'.os = w.os
  tape : w'.tape = w.tape
  output : w'.output = w.output
  size : w.heap.size ≤ w'.heap.size
  block : ∀ k, k < w.heap.size → ¬ F k → w'.heap[k]? = w.heap[k]?
variable {F G : Nat → Prop} {w w1 w2 : World}
theorem Kept.refl (F : Nat → Prop) (w : World) : Kept F w w := ⟨rfl, rfl, rfl, Nat.le_refl _, fun _ _ _ => rfl⟩
theorem Kept.trans (h : Kept F w w1) (k : Kept G w1 w2) (hG : ∀ i, i < w.heap.size → G i → F i) : Kept F w w2 :=
  ⟨k.os.trans h.os, k.tape.trans h.tape, k.output.trans h.output, Nat.le_trans h.size k.size, fun i hi hn => (k.block i (Nat.lt_of_lt_of_le hi h.size) (fun hg => hn (hG i hi hg))).trans (h.block i hi hn)⟩
theorem Kept.mono (h : Kept F w w1) (hG : ∀ i, i < w.heap.size → F i → G i) : Kept G w w1 := ⟨h.os, h.tape, h.output, h.size, fun i hi hn => h.block i hi (fun hf => hn (hG i hi hf))⟩
theorem Kept.of_below (h : Below w.heap.size w w1) : Kept F w w1 := ⟨h.os, h.tape, h.output, h.size, fun i hi _ => h.block i hi⟩
theorem Kept.below (h : Kept F w w1) (k : Below w1.heap.size w1 w2) : Kept F w w2 := h.trans (G := F) (Kept.of_below k) (fun _ _ h => h)
theorem Kept.of_grown {row : Option Nat} (h : w.grownBy w1 row) (hr : ∀ k, row = some k → k < w.heap.size → F k) : Kept F w w1 :=
  ⟨h.os, h.tape, h.output, h.size, fun i hi hn => h.block i hi (fun e => hn (hr i e.symm hi))⟩
theorem Kept.grown {row : Option Nat} (h : Kept F w w1) (k : w1.grownBy w2 row) (hr : ∀ k, row = some k → k < w.heap.size → F k) : Kept F w w2 :=
  h.trans (G := fun i => row = some i) (Kept.of_grown k (fun i e _ => e)) (fun i hi e => hr i e hi)
theorem Kept.alloc (h : Kept F w w1) (o : Obj) : Kept F w (w1.alloc o) :=
  h.below ((Below.refl _ _).alloc (Nat.le_refl _) o)
theorem Kept.drew (h : Kept F w w1) : Kept F w w1.drew := ⟨h.os, h.tape, h.output, h.size, h.block⟩
theorem Kept.setCell (h : Kept F w w1) {a : Addr} (ha : a.block < w.heap.size → F a.block) (u : Value) : Kept F w (w1.setCell a u) :=
  h.trans (G := fun i => i = a.block) ⟨rfl, rfl, rfl, by simp [World.setCell], fun k _ hn => Below.heap_setCell _ _ _ _ hn⟩ (fun i hi e => by subst e; exact ha hi)
theorem heap_setCells_other (b : Nat) (k : Nat) (hk : k ≠ b) : ∀ (vs : List Value) (o : Nat) (w : World), (w.setCells b o vs).heap[k]? = w.heap[k]?
  | [], _, _ => rfl
  | v :: vs, o, w => by
    show ((w.setCell ⟨b, o, none⟩ v).setCells b (o + 1) vs).heap[k]? = _
    rw [heap_setCells_other b k hk vs, Below.heap_setCell _ _ _ _ hk]
theorem size_setCells (b : Nat) : ∀ (vs : List Value) (o : Nat) (w : World), (w.setCells b o vs).heap.size = w.heap.size
  | [], _, _ => rfl
  | v :: vs, o, w => by
    show ((w.setCell ⟨b, o, none⟩ v).setCells b (o + 1) vs).heap.size = _
    rw [size_setCells b vs]
    simp [World.setCell]
theorem setCells_streams (b : Nat) : ∀ (vs : List Value) (o : Nat) (w : World), (w.setCells b o vs).os = w.os ∧ (w.setCells b o vs).tape = w.tape ∧ (w.setCells b o vs).output = w.output
  | [], _, _ => ⟨rfl, rfl, rfl⟩
  | v :: vs, o, w => setCells_streams b vs (o + 1) (w.setCell ⟨b, o, none⟩ v)
theorem Kept.setCells (h : Kept F w w1) {b : Nat} (hb : b < w.heap.size → F b) (o : Nat) (vs : List Value) : Kept F w (w1.setCells b o vs) := by
  obtain ⟨h1, h2, h3⟩ := setCells_streams b vs o w1
  exact h.trans (G := fun i => i = b) ⟨h1, h2, h3, by rw [size_setCells]; exact Nat.le_refl _, fun k _ hn => heap_setCells_other b k hn vs o w1⟩ (fun i hi e => by subst e; exact hb hi)
theorem Kept.to_below {B : Nat} (h : Kept F w w1) (hB : B ≤ w.heap.size) (hF : ∀ i, F i → B ≤ i) : Below B w w1 :=
  ⟨h.os, h.tape, h.output, h.size, fun i hi => h.block i (Nat.lt_of_lt_of_le hi hB) (fun hf => by have := hF i hf; omega)⟩
/-- what lies outside F is as it was -/
theorem Kept.at (h : Kept F w w1) {k : Nat} {o : Obj} (hk : w.heap[k]? = some o) (hn : ¬ F k) : w1.heap[k]? = some o := by
  have hl : k < w.heap.size := by
    rcases Nat.lt_or_ge k w.heap.size with hl | hl
    · exact hl
    · rw [Array.getElem?_eq_none hl] at hk; cases hk
  rw [h.block k hl hn, hk]
theorem lt_of_at {k : Nat} {o : Obj} (hk : w.heap[k]? = some o) : k < w.heap.size := by
  rcases Nat.lt_or_ge k w.heap.size with hl | hl
  · exact hl
  · rw [Array.getElem?_eq_none hl] at hk; cases hk
/-- a row or a map that the walk owns stands where its block stands -/
theorem ownsRow_at {base e size n : Nat} {v : Value} {xs : List Value} (h : w.ownsRow base e size v n xs) (hk : ∀ k, v.ownBlock = some k → w1.heap[k]? = w.heap[k]?) : w1.ownsRow base e size v n xs := by
  obtain ⟨h1, h2⟩ := h
  refine ⟨h1, h2.imp id ?_⟩
  rintro ⟨g, cap, cur, rfl, hg, hh, r⟩
  exact ⟨g, cap, cur, rfl, hg, by rw [hk g rfl]; exact hh, r⟩
theorem ownsMap_at {H : Type} {P : Program} {k : TypeId} {R : Value → Option (DataW H × List MemPlace)} {b n : Nat} {D : DataW H} (h : w.ownsMap P k R b n D) (hk : w1.heap[b]? = w.heap[b]?) : w1.ownsMap P k R b n D := by
  obtain ⟨es, c, h1, r⟩ := h
  exact ⟨es, c, by rw [hk]; exact h1, r⟩
theorem ownBlock_lt {base e size n : Nat} {v : Value} {xs : List Value} (h : w.ownsRow base e size v n xs) {k : Nat} (hk : v.ownBlock = some k) : k < w.heap.size := by
  obtain ⟨_, ⟨rfl, _⟩ | ⟨g, cap, cur, rfl, _, hh, _⟩⟩ := h
  · cases hk
  · cases hk; exact lt_of_at hh
end Go.Proofs.YtladbjlkkjcfnaaKp
