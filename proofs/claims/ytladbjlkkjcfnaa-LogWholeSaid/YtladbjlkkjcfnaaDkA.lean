/-
  vdisk: the model of a disk, and what lies in memory for it. Condition: none.
-/
import Derived.Test.YtladbjlkkjcfnaaKp
import Derived.Test.YtladbjlkkjcfnaaChecked
import Derived.WalkKit
import Derived.OwnWalk
import Derived.Maps.OwnOps
import Derived.Maps.OwnSet
namespace Go.Proofs.YtladbjlkkjcfnaaDk
open Go.RowKit Go.Maps Go.Proofs.YtladbjlkkjcfnaaKp
set_option linter.unusedVariables false
set_option linter.unusedSimpArgs false

def u8s (xs : List Int) : List Value := xs.map (Value.int .u8)
theorem u8s_length (xs : List Int) : (u8s xs).length = xs.length := by simp [u8s]
/-- a disk as the document has it: sectors, queue, power, room, fuse, writes taken -/
structure Dm where
  secs : List (List Int)
  q : List (Int × List Int)
  on : Bool
  room : Int
  fset : Bool
  fn : Int
  fk : Int
  ft : Int
  writes : Int
  cap : Nat
/-- block g holds the sectors -/
def SecAt (w : World) (g : Nat) (secs : List (List Int)) : Prop :=
  ∃ cs, w.heap[g]? = some (.cells cs 63 (0, 0)) ∧ 64 * secs.length ≤ cs.size ∧ ∀ (i : Nat) (s : List Int), secs[i]? = some s → s.length = 64 ∧ ∀ (j : Nat) (v : Int), s[j]? = some v → cs[64 * i + j]? = some (.int .u8 v)
theorem SecAt.at {w w1 : World} {g : Nat} {secs : List (List Int)} (h : SecAt w g secs) (hk : w1.heap[g]? = w.heap[g]?) : SecAt w1 g secs := by
  obtain ⟨cs, h1, r⟩ := h
  exact ⟨cs, by rw [hk]; exact h1, r⟩
theorem SecAt.range {w : World} {g : Nat} {secs : List (List Int)} (h : SecAt w g secs) {i : Nat} {s : List Int} (hi : secs[i]? = some s) : w.rangeAt g (64 * i) (u8s s) := by
  obtain ⟨cs, h1, _, h3⟩ := h
  intro j v hv
  rw [u8s, List.getElem?_map, Option.map_eq_some_iff] at hv
  obtain ⟨n, hn, rfl⟩ := hv
  rw [cell_of_row w g _ cs _ _ h1]
  exact (h3 i s hi).2 j n hn
theorem SecAt.there {w : World} {g : Nat} {secs : List (List Int)} (h : SecAt w g secs) {i : Nat} (hi : i < secs.length) {n : Nat} (hn : n ≤ 64) : w.there g (64 * i) n := by
  obtain ⟨cs, h1, h2, _⟩ := h
  intro j hj
  refine ⟨?_, frozen_of_row w g _ cs _ h1⟩
  rw [cell_of_row w g _ cs _ _ h1, Array.getElem?_eq_getElem (by omega)]
  rfl
theorem heap_setCells_same {b : Nat} {t : TypeId} : ∀ (vs : List Value) (o : Nat) (w : World) (cs : Array Value), w.heap[b]? = some (.cells cs t (0, 0)) →
    ∃ cs', (w.setCells b o vs).heap[b]? = some (.cells cs' t (0, 0)) ∧ cs'.size = cs.size ∧ ∀ k, k < cs.size → cs'[k]? = if o ≤ k ∧ k < o + vs.length then vs[k - o]? else cs[k]?
  | [], o, w, cs, h => ⟨cs, h, rfl, fun k _ => by rw [if_neg (by simp)]⟩
  | v :: vs, o, w, cs, h => by
    obtain ⟨cs', h1, h2, h3⟩ := heap_setCells_same vs (o + 1) (w.setCell ⟨b, o, none⟩ v) _ (heap_setCell_same w b o cs t v h)
    refine ⟨cs', h1, by simpa using h2, fun k hk => ?_⟩
    rw [h3 k (by simpa using hk)]
    by_cases c1 : o + 1 ≤ k ∧ k < o + 1 + vs.length
    · rw [if_pos c1, if_pos (by simp; omega), show k - o = (k - (o + 1)) + 1 by omega, List.getElem?_cons_succ]
    · rw [if_neg c1]
      by_cases c2 : k = o
      · subst c2
        rw [if_pos (by simp), Nat.sub_self, List.getElem?_cons_zero, Array.getElem?_setIfInBounds_self_of_lt hk]
      · rw [if_neg (by simp; omega), Array.getElem?_setIfInBounds_ne (fun e => c2 e.symm)]
/-- the first t bytes of the i-th sector are written -/
theorem SecAt.put {w : World} {g : Nat} {secs : List (List Int)} (h : SecAt w g secs) {i : Nat} {s : List Int} (hi : secs[i]? = some s) {xs : List Int} (hx : xs.length ≤ 64) :
    SecAt (w.setCells g (64 * i) (u8s xs)) g (secs.set i (xs ++ s.drop xs.length)) := by
  obtain ⟨cs, h1, h2, h3⟩ := h
  have hil : i < secs.length := (List.getElem?_eq_some_iff.1 hi).1
  obtain ⟨cs', k1, k2, k3⟩ := heap_setCells_same (u8s xs) (64 * i) w cs h1
  rw [u8s_length] at k3
  have hs := (h3 i s hi).1
  refine ⟨cs', k1, by rw [k2, List.length_set]; exact h2, fun i' s' hi' => ?_⟩
  by_cases e : i' = i
  · subst e
    rw [List.getElem?_set_self hil] at hi'
    obtain rfl := Option.some.inj hi'
    refine ⟨by simp; omega, fun j v hv => ?_⟩
    have hj : j < 64 := by have := (List.getElem?_eq_some_iff.1 hv).1; simp at this; omega
    rw [k3 _ (by omega)]
    by_cases c : j < xs.length
    · rw [if_pos (by omega), show 64 * i' + j - 64 * i' = j by omega, u8s, List.getElem?_map]
      rw [List.getElem?_append_left c] at hv
      rw [hv]; rfl
    · rw [if_neg (by omega)]
      rw [List.getElem?_append_right (by omega), List.getElem?_drop, show xs.length + (j - xs.length) = j by omega] at hv
      exact (h3 i' s hi).2 j v hv
  · rw [List.getElem?_set_ne (fun h => e h.symm)] at hi'
    obtain ⟨a1, a2⟩ := h3 i' s' hi'
    refine ⟨a1, fun j v hv => ?_⟩
    have hj : j < 64 := by have := (List.getElem?_eq_some_iff.1 hv).1; omega
    have hl : i' < secs.length := (List.getElem?_eq_some_iff.1 hi').1
    rw [k3 _ (by omega), if_neg (by omega)]
    exact a2 j v hv

/-! ### the queue and the map of last places -/
def wcells (x : Int × List Int) : List Value := .int .i64 x.1 :: u8s x.2
def qcells (q : List (Int × List Int)) : List Value := (q.map wcells).flatten
theorem qcells_snoc (q : List (Int × List Int)) (x : Int × List Int) : qcells (q ++ [x]) = qcells q ++ wcells x := by simp [qcells]
/-- of each sector that is written in the queue its last write's place; the queue from its end -/
def lastR : List (Int × List Int) → DataW Unit
  | [] => .map []
  | x :: r => (lastR r).put (.int .i64 x.1) (.lit (.int .i64 r.length))
def lastD (q : List (Int × List Int)) : DataW Unit := lastR q.reverse
theorem lastD_snoc (q : List (Int × List Int)) (x : Int × List Int) : lastD (q ++ [x]) = (lastD q).put (.int .i64 x.1) (.lit (.int .i64 q.length)) := by
  simp [lastD, lastR]
def drow (g m : Nat) (qv : Value) (D : Dm) : Array Value :=
  #[.slice (some ⟨g, 0, none⟩) D.secs.length D.cap, qv, .map (some m), .bool D.on, .int .i64 D.room, .bool D.fset, .int .i64 D.fn, .int .i64 D.fk, .int .i64 D.ft, .int .i64 D.writes]
/-- block p is a disk -/
structure Dsk (w : World) (p g m : Nat) (qv : Value) (D : Dm) : Prop where
  row : w.heap[p]? = some (.cells (drow g m qv D) 50 (0, 0))
  sec : SecAt w g D.secs
  que : w.ownsRow 0 65 65 qv D.q.length (qcells D.q)
  map : w.ownsMap (H := Unit) Try.prog 3 (plainElem Try.prog 3) m D.q.length (lastD D.q)
  pg : p ≠ g
  pm : p ≠ m
  gm : g ≠ m
  qp : qv.ownBlock ≠ some p
  qg : qv.ownBlock ≠ some g
  qm : qv.ownBlock ≠ some m
  len : 0 < D.secs.length ∧ D.secs.length ≤ 65536
  scap : D.secs.length ≤ D.cap ∧ D.cap ≤ 9223372036854775807
  fits : ∀ x ∈ D.q, 0 ≤ x.1 ∧ x.1 < D.secs.length ∧ x.2.length = 64
/-- the blocks of a disk -/
def fp (p g m : Nat) (qv : Value) : Nat → Prop := fun k => k = p ∨ k = g ∨ k = m ∨ qv.ownBlock = some k
theorem Dsk.at {w w1 : World} {p g m : Nat} {qv : Value} {D : Dm} (h : Dsk w p g m qv D) (hk : ∀ k, fp p g m qv k → w1.heap[k]? = w.heap[k]?) : Dsk w1 p g m qv D :=
  ⟨by rw [hk p (.inl rfl)]; exact h.row, h.sec.at (hk g (.inr (.inl rfl))), ownsRow_at h.que (fun k e => hk k (.inr (.inr (.inr e)))), ownsMap_at h.map (hk m (.inr (.inr (.inl rfl)))), h.pg, h.pm, h.gm, h.qp, h.qg, h.qm, h.len, h.scap, h.fits⟩
theorem Dsk.lt {w : World} {p g m : Nat} {qv : Value} {D : Dm} (h : Dsk w p g m qv D) : ∀ k, fp p g m qv k → k < w.heap.size := by
  rintro k (rfl | rfl | rfl | e)
  · exact lt_of_at h.row
  · obtain ⟨cs, h1, _⟩ := h.sec; exact lt_of_at h1
  · exact h.map.lt
  · exact ownBlock_lt h.que e
theorem Dsk.kept {w w1 : World} {p g m : Nat} {qv : Value} {D : Dm} {F : Nat → Prop} (h : Dsk w p g m qv D) (hk : Kept F w w1) (hF : ∀ k, fp p g m qv k → ¬ F k) : Dsk w1 p g m qv D :=
  h.at fun k hf => hk.block k (h.lt k hf) (hF k hf)
theorem Dsk.cells {w : World} {p g m : Nat} {qv : Value} {D : Dm} (h : Dsk w p g m qv D) :
    w.cell? ⟨p, 0, none⟩ = some (.slice (some ⟨g, 0, none⟩) D.secs.length D.cap) ∧ w.cell? ⟨p, 1, none⟩ = some qv ∧ w.cell? ⟨p, 2, none⟩ = some (.map (some m)) ∧ w.cell? ⟨p, 3, none⟩ = some (.bool D.on) ∧
    w.cell? ⟨p, 4, none⟩ = some (.int .i64 D.room) ∧ w.cell? ⟨p, 5, none⟩ = some (.bool D.fset) ∧ w.cell? ⟨p, 6, none⟩ = some (.int .i64 D.fn) ∧ w.cell? ⟨p, 7, none⟩ = some (.int .i64 D.fk) ∧
    w.cell? ⟨p, 8, none⟩ = some (.int .i64 D.ft) ∧ w.cell? ⟨p, 9, none⟩ = some (.int .i64 D.writes) :=
  ⟨(cell_of_row _ _ _ _ _ _ h.row).trans rfl, (cell_of_row _ _ _ _ _ _ h.row).trans rfl, (cell_of_row _ _ _ _ _ _ h.row).trans rfl, (cell_of_row _ _ _ _ _ _ h.row).trans rfl, (cell_of_row _ _ _ _ _ _ h.row).trans rfl,
   (cell_of_row _ _ _ _ _ _ h.row).trans rfl, (cell_of_row _ _ _ _ _ _ h.row).trans rfl, (cell_of_row _ _ _ _ _ _ h.row).trans rfl, (cell_of_row _ _ _ _ _ _ h.row).trans rfl, (cell_of_row _ _ _ _ _ _ h.row).trans rfl⟩
theorem Dsk.frozen {w : World} {p g m : Nat} {qv : Value} {D : Dm} (h : Dsk w p g m qv D) (j : Nat) : w.frozen? ⟨p, j, none⟩ = false := frozen_of_row _ _ _ _ _ h.row
/-- a field of the disk's own row is turned -/
theorem Dsk.field {w : World} {p g m : Nat} {qv : Value} {D D' : Dm} (h : Dsk w p g m qv D) (j : Nat) (v : Value) (hs : D'.secs = D.secs) (hq : D'.q = D.q) (hc : D'.cap = D.cap) (hr : (drow g m qv D).setIfInBounds j v = drow g m qv D') : Dsk (w.setCell ⟨p, j, none⟩ v) p g m qv D' := by
  have hk : ∀ k, k ≠ p → (w.setCell ⟨p, j, none⟩ v).heap[k]? = w.heap[k]? := fun k hk => Below.heap_setCell _ _ _ _ hk
  refine ⟨by rw [← hr]; exact heap_setCell_same w p j _ _ v h.row, by rw [hs]; exact h.sec.at (hk g h.pg.symm), by rw [hq]; exact ownsRow_at h.que (fun k e => hk k (fun e' => h.qp (by rw [e, e']))), by rw [hq]; exact ownsMap_at h.map (hk m h.pm.symm), h.pg, h.pm, h.gm, h.qp, h.qg, h.qm, by rw [hs]; exact h.len, by rw [hs, hc]; exact h.scap, by rw [hs, hq]; exact h.fits⟩
end Go.Proofs.YtladbjlkkjcfnaaDk
