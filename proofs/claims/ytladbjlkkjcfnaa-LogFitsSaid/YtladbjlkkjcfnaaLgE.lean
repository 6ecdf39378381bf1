/-
  wal: a log over a disk, both made by the call itself: their state, and the small methods. Condition: none.
-/
import Derived.Test.YtladbjlkkjcfnaaLgD
namespace Go.Proofs.YtladbjlkkjcfnaaLg
open Go.RowKit Go.Proofs.YtladbjlkkjcfnaaW.PrintWords Go.Proofs.YtladbjlkkjcfnaaW.PrintMore Go.Proofs.Ytladbjlkkjcfnaa.PU Go.Proofs.YtladbjlkkjcfnaaOc Go.Proofs.YtladbjlkkjcfnaaKp Go.Proofs.YtladbjlkkjcfnaaCm Go.Proofs.YtladbjlkkjcfnaaDk
set_option linter.unusedVariables false
set_option linter.unusedSimpArgs false
/-- a log's own values -/
structure Lm where
  fr : Int
  n : Int
  gen : Int
  op : Bool
  used : Int
  recs : List ByteArray
def lrow (p : Nat) (rv : Value) (L : Lm) : Array Value := #[.pointer (some ⟨p, 0, none⟩), .int .i64 L.fr, .int .i64 L.n, .int .i64 L.gen, .bool L.op, .int .i64 L.used, rv]
def txts (l : List ByteArray) : List Value := l.map Value.string
/-- the call began in w0; p a disk, l a log over it, both of the call's own; the blocks of B are as told and none of theirs -/
structure LgV (w0 w : World) (p l : Nat) (D : Dm) (L : Lm) (B : List (Nat × Obj)) (g m : Nat) (qv rv : Value) : Prop where
  dsk : Dsk w p g m qv D
  row : w.heap[l]? = some (.cells (lrow p rv L) 38 (0, 0))
  rcs : w.ownsRow 0 9 1 rv L.recs.length (txts L.recs)
  fpn : ∀ k, fp p g m qv k → w0.heap.size ≤ k ∧ k ≠ l ∧ rv.ownBlock ≠ some k
  rl : rv.ownBlock ≠ some l
  rn : ∀ k, rv.ownBlock = some k → w0.heap.size ≤ k
  ln : w0.heap.size ≤ l
  box : ∀ x ∈ B, w.heap[x.1]? = some x.2 ∧ ¬ fp p g m qv x.1 ∧ x.1 ≠ l ∧ rv.ownBlock ≠ some x.1
  below : Below w0.heap.size w0 w
def Lg (w0 w : World) (p l : Nat) (D : Dm) (L : Lm) (B : List (Nat × Obj)) : Prop := ∃ g m qv rv, LgV w0 w p l D L B g m qv rv
variable {w0 w w1 : World} {p l : Nat} {D D' : Dm} {L L' : Lm} {B : List (Nat × Obj)}
theorem ownRow_lt {w : World} {b : Nat} {e : TypeId} {size n : Nat} {v : Value} {xs : List Value} (h : w.ownsRow b e size v n xs) (k : Nat) (hk : v.ownBlock = some k) : k < w.heap.size := by
  obtain ⟨_, ⟨rfl, _⟩ | ⟨g, cap, cur, rfl, _, hcur, _⟩⟩ := h
  · simp [Value.ownBlock] at hk
  · simp only [Value.ownBlock, Option.some.injEq] at hk
    subst hk
    exact lt_of_at hcur
theorem Lg.below (h : Lg w0 w p l D L B) : Below w0.heap.size w0 w := by
  obtain ⟨_, _, _, _, h⟩ := h
  exact h.below
theorem LgV.b {g m : Nat} {qv rv : Value} (h : LgV w0 w p l D L B g m qv rv) (k : Below w.heap.size w w1) : LgV w0 w1 p l D L B g m qv rv :=
  ⟨h.dsk.at (fun j hj => k.block j (h.dsk.lt j hj)), by rw [k.block _ (lt_of_at h.row)]; exact h.row, ownsRow_at h.rcs (fun j hj => k.block j (ownRow_lt h.rcs j hj)), h.fpn, h.rl, h.rn, h.ln,
    fun x hx => ⟨by rw [k.block _ (lt_of_at (h.box x hx).1)]; exact (h.box x hx).1, (h.box x hx).2⟩, h.below.trans (k.mono h.below.size)⟩
theorem Lg.b (h : Lg w0 w p l D L B) (k : Below w.heap.size w w1) : Lg w0 w1 p l D L B := by
  obtain ⟨g, m, qv, rv, h⟩ := h
  exact ⟨g, m, qv, rv, h.dsk.at (fun j hj => k.block j (h.dsk.lt j hj)), by rw [k.block _ (lt_of_at h.row)]; exact h.row, ownsRow_at h.rcs (fun j hj => k.block j (ownRow_lt h.rcs j hj)), h.fpn, h.rl, h.rn, h.ln,
    fun x hx => ⟨by rw [k.block _ (lt_of_at (h.box x hx).1)]; exact (h.box x hx).1, (h.box x hx).2⟩, h.below.trans (k.mono h.below.size)⟩
theorem Lg.drew (h : Lg w0 w p l D L B) : Lg w0 w.drew p l D L B := h.b ⟨rfl, rfl, rfl, Nat.le_refl _, fun _ _ => rfl⟩
theorem Lg.at (h : Lg w0 w p l D L B) {x : Nat × Obj} (hx : x ∈ B) : w.heap[x.1]? = some x.2 := by
  obtain ⟨_, _, _, _, h⟩ := h
  exact (h.box x hx).1
theorem Lg.sub {B' : List (Nat × Obj)} (h : Lg w0 w p l D L B) (hs : ∀ x ∈ B', x ∈ B) : Lg w0 w p l D L B' := by
  obtain ⟨g, m, qv, rv, h⟩ := h
  exact ⟨g, m, qv, rv, h.dsk, h.row, h.rcs, h.fpn, h.rl, h.rn, h.ln, fun x hx => h.box x (hs x hx), h.below⟩
/-- a block that is there and none of theirs joins B -/
theorem Lg.join (h : Lg w0 w p l D L B) (k : Below w.heap.size w w1) {b : Nat} {O : Obj} (hb : w.heap.size ≤ b) (ho : w1.heap[b]? = some O) : Lg w0 w1 p l D L ((b, O) :: B) := by
  obtain ⟨g, m, qv, rv, h⟩ := h
  refine ⟨g, m, qv, rv, h.dsk.at (fun j hj => k.block j (h.dsk.lt j hj)), by rw [k.block _ (lt_of_at h.row)]; exact h.row, ownsRow_at h.rcs (fun j hj => k.block j (ownRow_lt h.rcs j hj)), h.fpn, h.rl, h.rn, h.ln, fun x hx => ?_, h.below.trans (k.mono h.below.size)⟩
  rcases List.mem_cons.1 hx with rfl | hx
  · exact ⟨ho, fun e => by have := h.dsk.lt _ e; simp at this; omega, fun e => by have := lt_of_at h.row; simp at e; omega, fun e => by have := ownRow_lt h.rcs _ e; simp at this; omega⟩
  · exact ⟨by rw [k.block _ (lt_of_at (h.box x hx).1)]; exact (h.box x hx).1, (h.box x hx).2⟩
theorem Lg.dop {f : FuncId} {args : Array Value} {v : Value} (h : Lg w0 w p l D L B)
    (k : ∀ g m qv, Dsk w p g m qv D → Calls Try.prog f args w fun e w' => e = .returned v ∧ ∃ m' qv', Dsk w' p g m' qv' D' ∧ Kept (fp p g m qv) w w' ∧ Moved w m qv m' qv') :
    Calls Try.prog f args w fun e w' => e = .returned v ∧ Lg w0 w' p l D' L B := by
  obtain ⟨g, m, qv, rv, h⟩ := h
  refine (k g m qv h.dsk).mono fun e w' ⟨he, m', qv', hd', hK, hM⟩ => ⟨he, g, m', qv', rv, hd', ?_, ownsRow_at h.rcs (fun j hj => hK.block j (ownRow_lt h.rcs j hj) (fun hf => (h.fpn j hf).2.2 hj)), fun j hj => ?_, h.rl, h.rn, h.ln, fun x hx => ⟨?_, fun hf => ?_, (h.box x hx).2.2⟩, h.below.trans ?_⟩
  · exact hK.at h.row (fun hf => (h.fpn l hf).2.1 rfl)
  · rcases Nat.lt_or_ge j w.heap.size with hl | hl
    · exact h.fpn j (hM.fp hl hj)
    · exact ⟨Nat.le_trans h.below.size hl, fun e => by have := lt_of_at h.row; omega, fun e => by have := ownRow_lt h.rcs _ e; omega⟩
  · exact hK.at (h.box x hx).1 (h.box x hx).2.1
  · exact (h.box x hx).2.1 (hM.fp (lt_of_at (h.box x hx).1) hf)
  · exact ⟨hK.os, hK.tape, hK.output, hK.size, fun j hj => hK.block j (Nat.lt_of_lt_of_le hj h.below.size) (fun hf => by have := (h.fpn j hf).1; omega)⟩
theorem Lg.dq {f : FuncId} {args : Array Value} {v : Value} (h : Lg w0 w p l D L B) (k : ∀ g m qv, Dsk w p g m qv D → Calls Try.prog f args w fun e w' => e = .returned v ∧ w' = w) :
    Calls Try.prog f args w fun e w' => e = .returned v ∧ w = w' := by
  obtain ⟨g, m, qv, rv, h⟩ := h
  exact (k g m qv h.dsk).mono fun e w' ⟨he, hw⟩ => ⟨he, hw.symm⟩
theorem Lg.db {f : FuncId} {args : Array Value} {v : Value} (h : Lg w0 w p l D L B) (k : Calls Try.prog f args w fun e w' => e = .returned v ∧ Below w.heap.size w w') :
    Calls Try.prog f args w fun e w' => e = .returned v ∧ Lg w0 w' p l D L B := k.mono fun e w' ⟨he, hb⟩ => ⟨he, h.b hb⟩
theorem l_Write (h : Lg w0 w p l D L B) (hok : DOk D) (a : Int) (s : ByteArray) : Calls Try.prog 26 #[.pointer (some ⟨p, 0, none⟩), .int .i64 a, .string s] w fun e w' => e = .returned (.int .i64 (writeE D a s)) ∧ Lg w0 w' p l (writeD D a s) L B :=
  h.dop fun g m qv hd => c_Write hd hok a s
theorem l_DSync (h : Lg w0 w p l D L B) (hok : DOk D) : Calls Try.prog 30 #[.pointer (some ⟨p, 0, none⟩)] w fun e w' => e = .returned (.int .i64 (syncE D)) ∧ Lg w0 w' p l (syncD D) L B :=
  h.dop fun g m qv hd => c_Sync hd hok
theorem l_On (h : Lg w0 w p l D L B) : Calls Try.prog 24 #[.pointer (some ⟨p, 0, none⟩)] w fun e w' => e = .returned (.bool D.on) ∧ w = w' := h.dq fun g m qv hd => c_On hd
theorem l_Writes (h : Lg w0 w p l D L B) : Calls Try.prog 10 #[.pointer (some ⟨p, 0, none⟩)] w fun e w' => e = .returned (.int .i64 D.writes) ∧ w = w' := h.dq fun g m qv hd => c_Writes hd
theorem Lg.cells (h : Lg w0 w p l D L B) : w.cell? ⟨l, 0, none⟩ = some (.pointer (some ⟨p, 0, none⟩)) ∧ w.cell? ⟨l, 1, none⟩ = some (.int .i64 L.fr) ∧ w.cell? ⟨l, 2, none⟩ = some (.int .i64 L.n) ∧ w.cell? ⟨l, 3, none⟩ = some (.int .i64 L.gen) ∧ w.cell? ⟨l, 4, none⟩ = some (.bool L.op) ∧ w.cell? ⟨l, 5, none⟩ = some (.int .i64 L.used) := by
  obtain ⟨g, m, qv, rv, h⟩ := h
  have c : ∀ j v, (lrow p rv L)[j]? = some v → w.cell? ⟨l, j, none⟩ = some v := fun j v e => (cell_of_row _ _ _ _ _ _ h.row).trans e
  exact ⟨c 0 _ rfl, c 1 _ rfl, c 2 _ rfl, c 3 _ rfl, c 4 _ rfl, c 5 _ rfl⟩
theorem Lg.frozen (h : Lg w0 w p l D L B) (j : Nat) : w.frozen? ⟨l, j, none⟩ = false := by
  obtain ⟨g, m, qv, rv, h⟩ := h
  exact frozen_of_row _ _ _ _ _ h.row
/-- a field is written -/
theorem Lg.set (h : Lg w0 w p l D L B) (j : Nat) (v : Value) (hr : L'.recs = L.recs) (hrow : ∀ rv, (lrow p rv L).setIfInBounds j v = lrow p rv L') : Lg w0 (w.setCell ⟨l, j, none⟩ v) p l D L' B := by
  obtain ⟨g, m, qv, rv, h⟩ := h
  have hk : ∀ k, k ≠ l → (w.setCell ⟨l, j, none⟩ v).heap[k]? = w.heap[k]? := fun k hk => Below.heap_setCell _ _ _ _ hk
  exact ⟨g, m, qv, rv, h.dsk.at (fun k e => hk k (h.fpn k e).2.1), by rw [← hrow]; exact heap_setCell_same w l j _ _ v h.row, by rw [hr]; exact ownsRow_at h.rcs (fun k e => hk k (fun e' => h.rl (by rw [e, e']))), h.fpn, h.rl, h.rn, h.ln,
    fun x hx => ⟨by rw [hk _ (h.box x hx).2.2.1]; exact (h.box x hx).1, (h.box x hx).2⟩, h.below.setCell h.ln _⟩
/-- the row of records is another -/
theorem LgV.recd {g m : Nat} {qv rv : Value} (h : LgV w0 w p l D L B g m qv rv) (k : Kept (fun j => rv.ownBlock = some j) w w1) (rv' : Value) (hr : w1.ownsRow 0 9 1 rv' L'.recs.length (txts L'.recs)) (hb : ∀ j, rv'.ownBlock = some j → rv.ownBlock = some j ∨ w.heap.size ≤ j) (hrow : (lrow p rv L).setIfInBounds 6 rv' = lrow p rv' L') : Lg w0 (w1.setCell ⟨l, 6, none⟩ rv') p l D L' B := by
  have hl := lt_of_at h.row
  have hsz := h.below.size
  have hk : ∀ j, j ≠ l → (w1.setCell ⟨l, 6, none⟩ rv').heap[j]? = w1.heap[j]? := fun j hj => Below.heap_setCell _ _ _ _ hj
  have hrow1 : w1.heap[l]? = some (.cells (lrow p rv L) 38 (0, 0)) := k.at h.row h.rl
  refine ⟨g, m, qv, rv', h.dsk.at (fun j e => by rw [hk j (h.fpn j e).2.1]; exact k.block j (h.dsk.lt j e) (h.fpn j e).2.2), by rw [← hrow]; exact heap_setCell_same w1 l 6 _ _ _ hrow1, ?_, fun j e => ⟨(h.fpn j e).1, (h.fpn j e).2.1, fun e' => ?_⟩, fun e => ?_, fun j e => ?_, h.ln,
    fun x hx => ⟨?_, (h.box x hx).2.1, (h.box x hx).2.2.1, fun e => ?_⟩, ?_⟩
  · exact ownsRow_at hr (fun j e => hk j (fun e' => by
      rcases hb j e with e2 | e2
      · exact h.rl (by rw [e2, e'])
      · omega))
  · rcases hb j e' with e2 | e2
    · exact (h.fpn j e).2.2 e2
    · have := h.dsk.lt j e; omega
  · rcases hb l e with e2 | e2
    · exact h.rl e2
    · omega
  · rcases hb j e with e2 | e2
    · exact h.rn j e2
    · omega
  · rw [hk _ (h.box x hx).2.2.1]
    exact k.at (h.box x hx).1 (h.box x hx).2.2.2
  · rcases hb _ e with e2 | e2
    · exact (h.box x hx).2.2.2 e2
    · have := lt_of_at (h.box x hx).1; omega
  · exact (h.below.trans ⟨k.os, k.tape, k.output, k.size, fun j hj => k.block j (by omega) (fun e => by have := h.rn j e; omega)⟩).setCell h.ln _
theorem txts_one (l : List ByteArray) : ∀ u ∈ txts l, u.oneCell' = true := by
  intro u hu
  obtain ⟨x, _, rfl⟩ := List.mem_map.1 hu
  rfl
theorem LgV.recform {g m : Nat} {qv rv : Value} (h : LgV w0 w p l D L B g m qv rv) : ∃ qa c, rv = .slice qa L.recs.length c := by
  obtain ⟨_, ⟨rfl, h0⟩ | ⟨g', cap, cur, rfl, _⟩⟩ := h.rcs
  · exact ⟨none, 0, by rw [h0]⟩
  · exact ⟨_, _, rfl⟩
theorem LgV.z6 {g m : Nat} {qv rv : Value} (h : LgV w0 w p l D L B g m qv rv) : w.frozen? ⟨l, 6, none⟩ = false := frozen_of_row _ _ _ _ _ h.row
theorem LgV.c6 {g m : Nat} {qv rv : Value} (h : LgV w0 w p l D L B g m qv rv) : w.cell? ⟨l, 6, none⟩ = some rv := (cell_of_row _ _ _ _ _ _ h.row).trans rfl
end Go.Proofs.YtladbjlkkjcfnaaLg
