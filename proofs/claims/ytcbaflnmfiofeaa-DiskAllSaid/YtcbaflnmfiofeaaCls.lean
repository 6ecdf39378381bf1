/-
  A region that draws its order and whose callees leave new blocks: one walk in the text's order serves every order, at a class of worlds of the prover's own. Condition: each callee gives the same value in every world of the class and leaves a world of it.
-/
import Derived.Deep.QuietTactic
import Derived.BigQuiet
import Derived.Below
import Derived.Lib.Hide
namespace Go.Proofs.YtcbaflnmfiofeaaCls
open Go.RowKit
variable {P : Program}
theorem cls_of (D : World → Prop) (w0 : World) (h0 : D w0) : ∃ (ι : Type) (φ : ι → World), Nonempty ι ∧ (∀ i, D (φ i)) ∧ (∀ W, D W → ∃ i, W = φ i) :=
  ⟨{W : World // D W}, Subtype.val, ⟨⟨w0, h0⟩⟩, fun i => i.2, fun W h => ⟨⟨W, h⟩, rfl⟩⟩
theorem wp_region_cls {ι : Type} (φ : ι → World) {id : Nat} {Q : Exit → Act → World → Prop} {a : Act} {w : World} {l : List Oper} (hm : P.follows .mixedOrders = true) (hB : Region.lexB .any l.toArray = true) (h0 : ∃ i, w.drew = φ i)
    (h : wpQuiet P l.toArray (fun w' => ∃ i, w' = φ i) (fun a' => ∀ w', (∃ i, w' = φ i) → Q .normal a' w') l a) : (Code.region id l.toArray true).wp P Q a w :=
  wp_region_quiet (C := fun w' => ∃ i, w' = φ i) hm hB h0 (by simpa using h)
theorem call_cls {ι : Type} {φ : ι → World} {D : World → Prop} (hD : ∀ i, D (φ i)) (hS : ∀ W, D W → ∃ i, W = φ i) (hst : ∀ W W', D W → Below W.heap.size W W' → D W') {f : FuncId} {args : Array Value} {v : Value}
    (k : Hid (∀ W, Calls P f args W fun e w' => e = .returned v ∧ Below W.heap.size W w')) (i : ι) : Calls P f args (φ i) fun e w'' => e = .returned v ∧ ∃ j, w'' = φ j :=
  (k.out (φ i)).mono fun _ _ ⟨he, hb⟩ => ⟨he, hS _ (hst _ _ (hD i) hb)⟩
theorem call_cls2 {ι : Type} {φ : ι → World} {D : World → Prop} (hD : ∀ i, D (φ i)) (hS : ∀ W, D W → ∃ i, W = φ i) {f : FuncId} {args : Array Value} {v : Value}
    (k : ∀ W, D W → Calls P f args W fun e w' => e = .returned v ∧ D w') (i : ι) : Calls P f args (φ i) fun e w'' => e = .returned v ∧ ∃ j, w'' = φ j :=
  (k (φ i) (hD i)).mono fun _ _ ⟨he, hb⟩ => ⟨he, hS _ hb⟩
end Go.Proofs.YtcbaflnmfiofeaaCls
