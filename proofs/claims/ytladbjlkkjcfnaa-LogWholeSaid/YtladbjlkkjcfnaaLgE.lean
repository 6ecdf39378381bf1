/-
  wal: a log over a disk, both made by the call itself: their state, and the small methods. wal: none, Free, Generation, Records, Sync, Reset. wal: Append on a disk that takes every write. Condition: none; within bounds.
-/
import Derived.Test.YtladbjlkkjcfnaaLgC
import Derived.Deep.DrawnRows
import Derived.Deep.RegionHeld3
import Derived.Deep.AppendLies
namespace Go.Proofs.YtladbjlkkjcfnaaLg
open Go.RowKit Go.Proofs.YtladbjlkkjcfnaaW.PrintWords Go.Proofs.YtladbjlkkjcfnaaW.PrintMore Go.Proofs.Ytladbjlkkjcfnaa.PU Go.Proofs.YtladbjlkkjcfnaaOc Go.Proofs.YtladbjlkkjcfnaaKp Go.Proofs.YtladbjlkkjcfnaaCm Go.Proofs.YtladbjlkkjcfnaaDk
set_option linter.unusedVariables false
set_option linter.unusedSimpArgs false
/-- a log's own values -/
structure Lm where
  fr : Int
  n : Int
  gen : Int
  op : Bool
  used : Int
  recs : List ByteArray
def lrow (p : Nat) (rv : Value) (L : Lm) : Array Value := #[.pointer (some ⟨p, 0, none⟩), .int .i64 L.fr, .int .i64 L.n, .int .i64 L.gen, .bool L.op, .int .i64 L.used, rv]
def txts (l : List ByteArray) : List Value := l.map Value.string
/-- the call began in w0; p a disk, l a log over it, both of the call's own; the blocks of B are as told and none of theirs -/
structure LgV (w0 w : World) (p l : Nat) (D : Dm) (L : Lm) (B : List (Nat × Obj)) (g m : Nat) (qv rv : Value) : Prop where
  dsk : Dsk w p g m qv D
  row : w.heap[l]? = some (.cells (lrow p rv L) 38 (0, 0))
  rcs : w.ownsRow 0 9 1 rv L.recs.length (txts L.recs)
  fpn : ∀ k, fp p g m qv k → w0.heap.size ≤ k ∧ k ≠ l ∧ rv.ownBlock ≠ some k
  rl : rv.ownBlock ≠ some l
  rn : ∀ k, rv.ownBlock = some k → w0.heap.size ≤ k
  ln : w0.heap.size ≤ l
  box : ∀ x ∈ B, w.heap[x.1]? = some x.2 ∧ ¬ fp p g m qv x.1 ∧ x.1 ≠ l ∧ rv.ownBlock ≠ some x.1
  below : Below w0.heap.size w0 w
def Lg (w0 w : World) (p l : Nat) (D : Dm) (L : Lm) (B : List (Nat × Obj)) : Prop := ∃ g m qv rv, LgV w0 w p l D L B g m qv rv
variable {w0 w w1 : World} {p l : Nat} {D D' : Dm} {L L' : Lm} {B : List (Nat × Obj)}
theorem ownRow_lt {w : World} {b : Nat} {e : TypeId} {size n : Nat} {v : Value} {xs : List Value} (h : w.ownsRow b e size v n xs) (k : Nat) (hk : v.ownBlock = some k) : k < w.heap.size := by
  obtain ⟨_, ⟨rfl, _⟩ | ⟨g, cap, cur, rfl, _, hcur, _⟩⟩ := h
  · simp [Value.ownBlock] at hk
  · simp only [Value.ownBlock, Option.some.injEq] at hk
    subst hk
    exact lt_of_at hcur
theorem Lg.below (h : Lg w0 w p l D L B) : Below w0.heap.size w0 w := by
  obtain ⟨_, _, _, _, h⟩ := h
  exact h.below
theorem LgV.b {g m : Nat} {qv rv : Value} (h : LgV w0 w p l D L B g m qv rv) (k : Below w.heap.size w w1) : LgV w0 w1 p l D L B g m qv rv :=
  ⟨h.dsk.at (fun j hj => k.block j (h.dsk.lt j hj)), by rw [k.block _ (lt_of_at h.row)]; exact h.row, ownsRow_at h.rcs (fun j hj => k.block j (ownRow_lt h.rcs j hj)), h.fpn, h.rl, h.rn, h.ln,
    fun x hx => ⟨by rw [k.block _ (lt_of_at (h.box x hx).1)]; exact (h.box x hx).1, (h.box x hx).2⟩, h.below.trans (k.mono h.below.size)⟩
theorem Lg.b (h : Lg w0 w p l D L B) (k : Below w.heap.size w w1) : Lg w0 w1 p l D L B := by
  obtain ⟨g, m, qv, rv, h⟩ := h
  exact ⟨g, m, qv, rv, h.dsk.at (fun j hj => k.block j (h.dsk.lt j hj)), by rw [k.block _ (lt_of_at h.row)]; exact h.row, ownsRow_at h.rcs (fun j hj => k.block j (ownRow_lt h.rcs j hj)), h.fpn, h.rl, h.rn, h.ln,
    fun x hx => ⟨by rw [k.block _ (lt_of_at (h.box x hx).1)]; exact (h.box x hx).1, (h.box x hx).2⟩, h.below.trans (k.mono h.below.size)⟩
theorem Lg.drew (h : Lg w0 w p l D L B) : Lg w0 w.drew p l D L B := h.b ⟨rfl, rfl, rfl, Nat.le_refl _, fun _ _ => rfl⟩
theorem Lg.at (h : Lg w0 w p l D L B) {x : Nat × Obj} (hx : x ∈ B) : w.heap[x.1]? = some x.2 := by
  obtain ⟨_, _, _, _, h⟩ := h
  exact (h.box x hx).1
theorem Lg.sub {B' : List (Nat × Obj)} (h : Lg w0 w p l D L B) (hs : ∀ x ∈ B', x ∈ B) : Lg w0 w p l D L B' := by
  obtain ⟨g, m, qv, rv, h⟩ := h
  exact ⟨g, m, qv, rv, h.dsk, h.row, h.rcs, h.fpn, h.rl, h.rn, h.ln, fun x hx => h.box x (hs x hx), h.below⟩
/-- a block that is there and none of theirs joins B -/
theorem Lg.join (h : Lg w0 w p l D L B) (k : Below w.heap.size w w1) {b : Nat} {O : Obj} (hb : w.heap.size ≤ b) (ho : w1.heap[b]? = some O) : Lg w0 w1 p l D L ((b, O) :: B) := by
  obtain ⟨g, m, qv, rv, h⟩ := h
  refine ⟨g, m, qv, rv, h.dsk.at (fun j hj => k.block j (h.dsk.lt j hj)), by rw [k.block _ (lt_of_at h.row)]; exact h.row, ownsRow_at h.rcs (fun j hj => k.block j (ownRow_lt h.rcs j hj)), h.fpn, h.rl, h.rn, h.ln, fun x hx => ?_, h.below.trans (k.mono h.below.size)⟩
  rcases List.mem_cons.1 hx with rfl | hx
  · exact ⟨ho, fun e => by have := h.dsk.lt _ e; simp at this; omega, fun e => by have := lt_of_at h.row; simp at e; omega, fun e => by have := ownRow_lt h.rcs _ e; simp at this; omega⟩
  · exact ⟨by rw [k.block _ (lt_of_at (h.box x hx).1)]; exact (h.box x hx).1, (h.box x hx).2⟩
theorem Lg.dop {f : FuncId} {args : Array Value} {v : Value} (h : Lg w0 w p l D L B)
    (k : ∀ g m qv, Dsk w p g m qv D → Calls Try.prog f args w fun e w' => e = .returned v ∧ ∃ m' qv', Dsk w' p g m' qv' D' ∧ Kept (fp p g m qv) w w' ∧ Moved w m qv m' qv') :
    Calls Try.prog f args w fun e w' => e = .returned v ∧ Lg w0 w' p l D' L B := by
  obtain ⟨g, m, qv, rv, h⟩ := h
  refine (k g m qv h.dsk).mono fun e w' ⟨he, m', qv', hd', hK, hM⟩ => ⟨he, g, m', qv', rv, hd', ?_, ownsRow_at h.rcs (fun j hj => hK.block j (ownRow_lt h.rcs j hj) (fun hf => (h.fpn j hf).2.2 hj)), fun j hj => ?_, h.rl, h.rn, h.ln, fun x hx => ⟨?_, fun hf => ?_, (h.box x hx).2.2⟩, h.below.trans ?_⟩
  · exact hK.at h.row (fun hf => (h.fpn l hf).2.1 rfl)
  · rcases Nat.lt_or_ge j w.heap.size with hl | hl
    · exact h.fpn j (hM.fp hl hj)
    · exact ⟨Nat.le_trans h.below.size hl, fun e => by have := lt_of_at h.row; omega, fun e => by have := ownRow_lt h.rcs _ e; omega⟩
  · exact hK.at (h.box x hx).1 (h.box x hx).2.1
  · exact (h.box x hx).2.1 (hM.fp (lt_of_at (h.box x hx).1) hf)
  · exact ⟨hK.os, hK.tape, hK.output, hK.size, fun j hj => hK.block j (Nat.lt_of_lt_of_le hj h.below.size) (fun hf => by have := (h.fpn j hf).1; omega)⟩
theorem Lg.dq {f : FuncId} {args : Array Value} {v : Value} (h : Lg w0 w p l D L B) (k : ∀ g m qv, Dsk w p g m qv D → Calls Try.prog f args w fun e w' => e = .returned v ∧ w' = w) :
    Calls Try.prog f args w fun e w' => e = .returned v ∧ w = w' := by
  obtain ⟨g, m, qv, rv, h⟩ := h
  exact (k g m qv h.dsk).mono fun e w' ⟨he, hw⟩ => ⟨he, hw.symm⟩
theorem Lg.db {f : FuncId} {args : Array Value} {v : Value} (h : Lg w0 w p l D L B) (k : Calls Try.prog f args w fun e w' => e = .returned v ∧ Below w.heap.size w w') :
    Calls Try.prog f args w fun e w' => e = .returned v ∧ Lg w0 w' p l D L B := k.mono fun e w' ⟨he, hb⟩ => ⟨he, h.b hb⟩
theorem l_Write (h : Lg w0 w p l D L B) (hok : DOk D) (a : Int) (s : ByteArray) : Calls Try.prog 26 #[.pointer (some ⟨p, 0, none⟩), .int .i64 a, .string s] w fun e w' => e = .returned (.int .i64 (writeE D a s)) ∧ Lg w0 w' p l (writeD D a s) L B :=
  h.dop fun g m qv hd => c_Write hd hok a s
theorem l_DSync (h : Lg w0 w p l D L B) (hok : DOk D) : Calls Try.prog 30 #[.pointer (some ⟨p, 0, none⟩)] w fun e w' => e = .returned (.int .i64 (syncE D)) ∧ Lg w0 w' p l (syncD D) L B :=
  h.dop fun g m qv hd => c_Sync hd hok
theorem l_On (h : Lg w0 w p l D L B) : Calls Try.prog 24 #[.pointer (some ⟨p, 0, none⟩)] w fun e w' => e = .returned (.bool D.on) ∧ w = w' := h.dq fun g m qv hd => c_On hd
theorem l_Writes (h : Lg w0 w p l D L B) : Calls Try.prog 10 #[.pointer (some ⟨p, 0, none⟩)] w fun e w' => e = .returned (.int .i64 D.writes) ∧ w = w' := h.dq fun g m qv hd => c_Writes hd
theorem Lg.cells (h : Lg w0 w p l D L B) : w.cell? ⟨l, 0, none⟩ = some (.pointer (some ⟨p, 0, none⟩)) ∧ w.cell? ⟨l, 1, none⟩ = some (.int .i64 L.fr) ∧ w.cell? ⟨l, 2, none⟩ = some (.int .i64 L.n) ∧ w.cell? ⟨l, 3, none⟩ = some (.int .i64 L.gen) ∧ w.cell? ⟨l, 4, none⟩ = some (.bool L.op) ∧ w.cell? ⟨l, 5, none⟩ = some (.int .i64 L.used) := by
  obtain ⟨g, m, qv, rv, h⟩ := h
  have c : ∀ j v, (lrow p rv L)[j]? = some v → w.cell? ⟨l, j, none⟩ = some v := fun j v e => (cell_of_row _ _ _ _ _ _ h.row).trans e
  exact ⟨c 0 _ rfl, c 1 _ rfl, c 2 _ rfl, c 3 _ rfl, c 4 _ rfl, c 5 _ rfl⟩
theorem Lg.frozen (h : Lg w0 w p l D L B) (j : Nat) : w.frozen? ⟨l, j, none⟩ = false := by
  obtain ⟨g, m, qv, rv, h⟩ := h
  exact frozen_of_row _ _ _ _ _ h.row
/-- a field is written -/
theorem Lg.set (h : Lg w0 w p l D L B) (j : Nat) (v : Value) (hr : L'.recs = L.recs) (hrow : ∀ rv, (lrow p rv L).setIfInBounds j v = lrow p rv L') : Lg w0 (w.setCell ⟨l, j, none⟩ v) p l D L' B := by
  obtain ⟨g, m, qv, rv, h⟩ := h
  have hk : ∀ k, k ≠ l → (w.setCell ⟨l, j, none⟩ v).heap[k]? = w.heap[k]? := fun k hk => Below.heap_setCell _ _ _ _ hk
  exact ⟨g, m, qv, rv, h.dsk.at (fun k e => hk k (h.fpn k e).2.1), by rw [← hrow]; exact heap_setCell_same w l j _ _ v h.row, by rw [hr]; exact ownsRow_at h.rcs (fun k e => hk k (fun e' => h.rl (by rw [e, e']))), h.fpn, h.rl, h.rn, h.ln,
    fun x hx => ⟨by rw [hk _ (h.box x hx).2.2.1]; exact (h.box x hx).1, (h.box x hx).2⟩, h.below.setCell h.ln _⟩
/-- the row of records is another -/
theorem LgV.recd {g m : Nat} {qv rv : Value} (h : LgV w0 w p l D L B g m qv rv) (k : Kept (fun j => rv.ownBlock = some j) w w1) (rv' : Value) (hr : w1.ownsRow 0 9 1 rv' L'.recs.length (txts L'.recs)) (hb : ∀ j, rv'.ownBlock = some j → rv.ownBlock = some j ∨ w.heap.size ≤ j) (hrow : (lrow p rv L).setIfInBounds 6 rv' = lrow p rv' L') : Lg w0 (w1.setCell ⟨l, 6, none⟩ rv') p l D L' B := by
  have hl := lt_of_at h.row
  have hsz := h.below.size
  have hk : ∀ j, j ≠ l → (w1.setCell ⟨l, 6, none⟩ rv').heap[j]? = w1.heap[j]? := fun j hj => Below.heap_setCell _ _ _ _ hj
  have hrow1 : w1.heap[l]? = some (.cells (lrow p rv L) 38 (0, 0)) := k.at h.row h.rl
  refine ⟨g, m, qv, rv', h.dsk.at (fun j e => by rw [hk j (h.fpn j e).2.1]; exact k.block j (h.dsk.lt j e) (h.fpn j e).2.2), by rw [← hrow]; exact heap_setCell_same w1 l 6 _ _ _ hrow1, ?_, fun j e => ⟨(h.fpn j e).1, (h.fpn j e).2.1, fun e' => ?_⟩, fun e => ?_, fun j e => ?_, h.ln,
    fun x hx => ⟨?_, (h.box x hx).2.1, (h.box x hx).2.2.1, fun e => ?_⟩, ?_⟩
  · exact ownsRow_at hr (fun j e => hk j (fun e' => by
      rcases hb j e with e2 | e2
      · exact h.rl (by rw [e2, e'])
      · omega))
  · rcases hb j e' with e2 | e2
    · exact (h.fpn j e).2.2 e2
    · have := h.dsk.lt j e; omega
  · rcases hb l e with e2 | e2
    · exact h.rl e2
    · omega
  · rcases hb j e with e2 | e2
    · exact h.rn j e2
    · omega
  · rw [hk _ (h.box x hx).2.2.1]
    exact k.at (h.box x hx).1 (h.box x hx).2.2.2
  · rcases hb _ e with e2 | e2
    · exact (h.box x hx).2.2.2 e2
    · have := lt_of_at (h.box x hx).1; omega
  · exact (h.below.trans ⟨k.os, k.tape, k.output, k.size, fun j hj => k.block j (by omega) (fun e => by have := h.rn j e; omega)⟩).setCell h.ln _
theorem txts_one (l : List ByteArray) : ∀ u ∈ txts l, u.oneCell' = true := by
  intro u hu
  obtain ⟨x, _, rfl⟩ := List.mem_map.1 hu
  rfl
theorem LgV.recform {g m : Nat} {qv rv : Value} (h : LgV w0 w p l D L B g m qv rv) : ∃ qa c, rv = .slice qa L.recs.length c := by
  obtain ⟨_, ⟨rfl, h0⟩ | ⟨g', cap, cur, rfl, _⟩⟩ := h.rcs
  · exact ⟨none, 0, by rw [h0]⟩
  · exact ⟨_, _, rfl⟩
theorem LgV.z6 {g m : Nat} {qv rv : Value} (h : LgV w0 w p l D L B g m qv rv) : w.frozen? ⟨l, 6, none⟩ = false := frozen_of_row _ _ _ _ _ h.row
theorem LgV.c6 {g m : Nat} {qv rv : Value} (h : LgV w0 w p l D L B g m qv rv) : w.cell? ⟨l, 6, none⟩ = some rv := (cell_of_row _ _ _ _ _ _ h.row).trans rfl
end Go.Proofs.YtladbjlkkjcfnaaLg
namespace Go.Proofs.YtladbjlkkjcfnaaLg
open Go.RowKit Go.Proofs.YtladbjlkkjcfnaaW.PrintWords Go.Proofs.YtladbjlkkjcfnaaW.PrintMore Go.Proofs.Ytladbjlkkjcfnaa.PU Go.Proofs.YtladbjlkkjcfnaaOc Go.Proofs.YtladbjlkkjcfnaaKp Go.Proofs.YtladbjlkkjcfnaaCm Go.Proofs.YtladbjlkkjcfnaaDk
set_option linter.unusedVariables false
set_option linter.unusedSimpArgs false
variable {w0 w w1 : World} {p l : Nat} {D D' : Dm} {L L' : Lm} {B : List (Nat × Obj)}
structure LOk (L : Lm) : Prop where
  f1 : 0 ≤ L.fr
  f2 : L.fr ≤ 65536
  n1 : 0 ≤ L.n
  n2 : L.n ≤ 65536
  u1 : 0 ≤ L.used
  u2 : L.used ≤ L.n
  g1 : 0 ≤ L.gen
  g2 : L.gen ≤ 4294967295
  rc : L.recs.length ≤ 65536
theorem l_none (h : Lg w0 w p l D L B) : Calls Try.prog 23 #[.pointer (some ⟨l, 0, none⟩)] w fun e w' => e = .returned (.bool false) ∧ w = w' := by
  have c0 := h.cells.1
  clear h
  go_enter Try.func23, Try.ntmps23
  go_wp2_with fail
  go_ret
  exact ⟨rfl, rfl⟩
theorem none_nil (w : World) : Calls Try.prog 23 #[.pointer none] w fun e w' => e = .returned (.bool true) ∧ w = w' := by
  go_enter Try.func23, Try.ntmps23
  go_wp2_with fail
  go_ret
  exact ⟨rfl, rfl⟩
theorem none_zero (w : World) (a : Nat) (h : w.cell? ⟨a, 0, none⟩ = some (.pointer none)) : Calls Try.prog 23 #[.pointer (some ⟨a, 0, none⟩)] w fun e w' => e = .returned (.bool true) ∧ w = w' := by
  go_enter Try.func23, Try.ntmps23
  go_wp2_with fail
  go_ret
  exact ⟨rfl, rfl⟩
theorem l_Generation (h : Lg w0 w p l D L B) : Calls Try.prog 15 #[.pointer (some ⟨l, 0, none⟩)] w fun e w' => e = .returned (.int .i64 L.gen) ∧ w = w' := by
  obtain ⟨c0, c1, c2, c3, c4, c5⟩ := h.cells
  have k1 := Lib.hid (l_none h)
  clear h
  go_enter Try.func15, Try.ntmps15
  go_wp2_with (go_at_call 23; refine k1.out.mono ?_; rintro e w2 ⟨rfl, hw⟩; have hw := hw.symm; subst hw)
  go_ret
  exact ⟨rfl, rfl⟩
attribute [local go_sem ↓] Go.wp_at_zero Go.wp_at_succ
theorem l_Free (h : Lg w0 w p l D L B) (hL : LOk L) : Calls Try.prog 13 #[.pointer (some ⟨l, 0, none⟩)] w fun e w' => e = .returned (.int .i64 (L.n - L.used)) ∧ Lg w0 w' p l D L B := by
  obtain ⟨c0, c1, c2, c3, c4, c5⟩ := h.cells
  have k1 := Lib.hid (l_none h)
  have hw : IntKind.i64.wrap (L.n - L.used) = L.n - L.used := by
    obtain ⟨_, _, _, _, _, _, _, _⟩ := hL
    rw [IntKind.wrap_i64]
    omega
  have H := Lib.hid h
  clear h hL
  go_enter Try.func13, Try.ntmps13
  go_upto_region 3 with (go_at_call 23; refine k1.out.mono ?_; rintro e w2 ⟨rfl, hw⟩; have hw := hw.symm; subst hw)
  go_region_held3 (fun W => W.cell? ⟨l, 2, none⟩ = some (.int .i64 L.n) ∧ W.cell? ⟨l, 5, none⟩ = some (.int .i64 L.used)) (go_keep) (fail)
  go_wp2_with fail
  go_ret
  exact ⟨rfl, H.out.drew⟩
theorem l_Sync (h : Lg w0 w p l D L B) (hok : DOk D) : Calls Try.prog 14 #[.pointer (some ⟨l, 0, none⟩)] w fun e w' => e = .returned (.int .i64 (syncE D)) ∧ Lg w0 w' p l (syncD D) L B := by
  obtain ⟨c0, c1, c2, c3, c4, c5⟩ := h.cells
  have k1 := Lib.hid (l_none h)
  have k2 := Lib.hid (l_DSync h hok)
  clear h hok
  go_enter Try.func14, Try.ntmps14
  go_wp2_with (first
    | (go_at_call 23; refine k1.out.mono ?_; rintro e w2 ⟨rfl, hw⟩; have hw := hw.symm; subst hw)
    | (go_at_call 30; refine k2.out.mono ?_; rintro e w2 ⟨rfl, hs⟩; have HS := Lib.hid hs; clear hs))
  go_ret
  exact ⟨rfl, HS.out⟩
theorem txt_cells {g : Nat} {cur : Array Value} {l : List ByteArray} (hcur : w.heap[g]? = some (.cells cur 9 (0, 0))) (ht : cur.toList.take (l.length * 1) = txts l) : ∀ j, j < l.length → w.cell? ⟨g, j, none⟩ = some (.string (l.getD j ByteArray.empty)) := by
  intro j hj
  rw [cell_of_row _ _ _ _ _ _ hcur, ← Array.getElem?_toList]
  have : (cur.toList.take (l.length * 1))[j]? = some (.string (l.getD j ByteArray.empty)) := by
    rw [ht, txts, List.getElem?_map, List.getElem?_eq_getElem hj, Option.map_some, List.getD_eq_getElem?_getD, List.getElem?_eq_getElem hj, Option.getD_some]
  rw [List.getElem?_take, if_pos (by omega)] at this
  exact this
theorem l_RecordsR (h : Lg w0 w p l D L B) (hln : L.recs.length ≤ 65536) : Calls Try.prog 12 #[.pointer (some ⟨l, 0, none⟩)] w fun e w' => ∃ A c, e = .returned (.slice A L.recs.length c) ∧ w'.ownsRow w.heap.size 9 1 (.slice A L.recs.length c) L.recs.length (txts L.recs) ∧ Below w.heap.size w w' := by
  have k1 := Lib.hid (l_none h)
  obtain ⟨c0, c1, c2, c3, c4, c5⟩ := h.cells
  obtain ⟨g, m, qv, rv, hV⟩ := h
  have c6 := hV.c6
  have hk : Calls Try.prog 29 #[rv] w fun e w' => ∃ A c, e = .returned (.slice A L.recs.length c) ∧ w'.ownsRow w.heap.size 9 1 (.slice A L.recs.length c) L.recs.length (txts L.recs) ∧ Below w.heap.size w w' := by
    have hR := hV.rcs
    obtain ⟨hlen, ⟨rfl, h0⟩ | ⟨g', cap, cur, rfl, _, hcur, hn, _, hcs, htk⟩⟩ := hR
    · have hnil : L.recs = [] := List.eq_nil_of_length_eq_zero h0
      rw [hnil]
      exact (Try.slices_Clone_string_nil 0 0 w).mono fun e w' ⟨he, hw⟩ => ⟨none, 0, he, ⟨rfl, .inl ⟨rfl, rfl⟩⟩, by rw [hw]; exact Below.refl _ _⟩
    · have hform : ∀ {w' : World} {b n : Nat} {v : Value} {xs : List Value}, w'.ownsRow b 9 1 v n xs → ∃ A c, v = .slice A n c := by
        intro w' b n v xs ho
        obtain ⟨_, ⟨rfl, h0⟩ | ⟨g2, cap2, cur2, rfl, _⟩⟩ := ho
        · exact ⟨none, 0, by rw [h0]⟩
        · exact ⟨_, _, rfl⟩
      rcases Nat.eq_zero_or_pos L.recs.length with h0 | h0
      · have hnil : L.recs = [] := List.eq_nil_of_length_eq_zero h0
        rw [hnil]
        refine (Try.slices_Clone_string_zero ⟨g', 0, none⟩ cap w).mono fun e w' ⟨v', he, ho, _, hb⟩ => ?_
        obtain ⟨A, c, rfl⟩ := hform ho
        exact ⟨A, c, he, ho, hb⟩
      · refine (Try.slices_Clone_string g' 0 L.recs.length cap L.recs w (Nat.le_refl _) (by omega) (fun j hj => by rw [Nat.zero_add]; exact txt_cells hcur htk j hj)).mono fun e w' ⟨v', he, ho, _, hb⟩ => ?_
        rw [List.take_length] at ho
        obtain ⟨A, c, rfl⟩ := hform ho
        exact ⟨A, c, he, ho, hb⟩
  obtain ⟨qa, cc, rfl⟩ := hV.recform
  replace hk := Lib.hid hk
  clear hV hln
  go_enter Try.func12, Try.ntmps12
  go_wp2_with (first
    | (go_at_call 23; refine k1.out.mono ?_; rintro e w2 ⟨rfl, hw⟩; have hw := hw.symm; subst hw)
    | (go_at_call 29; refine hk.out.mono ?_; rintro e w2 ⟨A, c, rfl, hs⟩; have HS := Lib.hid hs; clear hs))
  go_ret
  exact ⟨A, c, rfl, HS.out⟩
theorem l_Records (h : Lg w0 w p l D L B) (hL : LOk L) : Calls Try.prog 12 #[.pointer (some ⟨l, 0, none⟩)] w fun e w' => ∃ A c, e = .returned (.slice A L.recs.length c) ∧ w'.ownsRow w.heap.size 9 1 (.slice A L.recs.length c) L.recs.length (txts L.recs) ∧ Below w.heap.size w w' := l_RecordsR h hL.rc
/-- Reset -/
def resetL (L : Lm) : Lm := { L with gen := L.gen + 1, op := true, used := 0, recs := [] }
theorem l_Reset (h : Lg w0 w p l D L B) (hL : LOk L) (ho : D.on = true) (hg : L.gen < 4294967295) : Calls Try.prog 9 #[.pointer (some ⟨l, 0, none⟩)] w fun e w' => e = .returned (.int .i64 0) ∧ Lg w0 w' p l D (resetL L) B := by
  obtain ⟨c0, c1, c2, c3, c4, c5⟩ := h.cells
  have k1 := Lib.hid (l_none h)
  have k2 := Lib.hid (l_On h)
  rw [ho] at k2
  have hw : IntKind.i64.wrap (L.gen + 1) = L.gen + 1 := by
    have := hL.g1
    rw [IntKind.wrap_i64]
    omega
  have hne : ¬ L.gen = 4294967295 := by omega
  have z3 := h.frozen 3
  have z4 := h.frozen 4
  have z5 := h.frozen 5
  have z6 := h.frozen 6
  obtain ⟨g, m, qv, rv, hV⟩ := id h
  have c6 := hV.c6
  obtain ⟨qa, cc, rfl⟩ := hV.recform
  have H := Lib.hid h
  clear hV h hL hg ho
  go_enter Try.func9, Try.ntmps9
  go_wp2_with (first
    | (go_at_call 23; refine k1.out.mono ?_; rintro e w2 ⟨rfl, hw⟩; have hw := hw.symm; subst hw)
    | (go_at_call 24; refine k2.out.mono ?_; rintro e w2 ⟨rfl, hw⟩; have hw := hw.symm; subst hw))
  go_ret
  refine ⟨rfl, ?_⟩
  have h1 := H.out.set (L' := { L with gen := L.gen + 1 }) 3 (.int .i64 (L.gen + 1)) rfl (fun rv => rfl)
  have h2 := h1.set (L' := { L with gen := L.gen + 1, op := true }) 4 (.bool true) rfl (fun rv => rfl)
  have h3 := h2.set (L' := { L with gen := L.gen + 1, op := true, used := 0 }) 5 (.int .i64 0) rfl (fun rv => rfl)
  obtain ⟨g, m, qv, rv, hV⟩ := h3
  exact hV.recd (L' := resetL L) (Kept.refl _ _) (.slice none 0 0) ⟨rfl, .inl ⟨rfl, rfl⟩⟩ (fun j e => by simp [Value.ownBlock] at e) rfl
end Go.Proofs.YtladbjlkkjcfnaaLg
namespace Go.Proofs.YtladbjlkkjcfnaaLg
open Go.RowKit Go.Proofs.YtladbjlkkjcfnaaW.PrintWords Go.Proofs.YtladbjlkkjcfnaaW.PrintMore Go.Proofs.Ytladbjlkkjcfnaa.PU Go.Proofs.YtladbjlkkjcfnaaOc Go.Proofs.YtladbjlkkjcfnaaKp Go.Proofs.YtladbjlkkjcfnaaCm Go.Proofs.YtladbjlkkjcfnaaDk
set_option linter.unusedVariables false
set_option linter.unusedSimpArgs false
variable {w0 w w1 : World} {p l : Nat} {D D' : Dm} {L L' : Lm} {B : List (Nat × Obj)}
theorem put_size (v : Int) (n : Nat) (h1 : 1 ≤ n) (h7 : n ≤ 7) (h0 : 0 ≤ v) (hv : v < 256 ^ n) : (putS v n).1 = strOfNums (beL n v) := by
  unfold putS
  rw [Int.toNat_natCast, if_neg]
  rintro (h | h | h | h)
  · omega
  · omega
  · omega
  · exact h (Int.ediv_eq_zero_of_lt h0 hv)
theorem formS_eq (s : ByteArray) (kind gen place : Int) (hs : s.size ≤ 48) (hg : 0 ≤ gen ∧ gen ≤ 4294967295) (hp : 0 ≤ place ∧ place ≤ 4294967295) :
    formS s kind gen place = strOfNums (beL 4 gen) ++ strOfNums (beL 2 s.size) ++ strOfNums [kind, 0] ++ s ++ zeros (48 - s.size) ++ strOfNums (beL 4 place) ++ strOfNums (beL 4 gen) := by
  unfold formS
  rw [show (4 : Int) = ((4 : Nat) : Int) from rfl, show (2 : Int) = ((2 : Nat) : Int) from rfl, put_size gen 4 (by omega) (by omega) hg.1 (by have := hg.2; omega), put_size place 4 (by omega) (by omega) hp.1 (by have := hp.2; omega), put_size s.size 2 (by omega) (by omega) (by omega) (by omega)]
theorem formS_size (s : ByteArray) (kind gen place : Int) (hs : s.size ≤ 48) (hg : 0 ≤ gen ∧ gen ≤ 4294967295) (hp : 0 ≤ place ∧ place ≤ 4294967295) : (formS s kind gen place).size = 64 := by
  rw [formS_eq s kind gen place hs hg hp]
  simp only [ByteArray.size_append, strOfNums_size, beL_length, zeros_size, List.length_cons, List.length_nil]
  omega
/-- a disk that takes every write; at most k writes wait -/
structure Hl (D : Dm) (k : Nat) : Prop where
  on : D.on = true
  room : D.room = -1
  fset : D.fset = false
  fn : D.fn ≤ 9223372036854775807
  q : D.q.length ≤ k
theorem Hl.ok {k : Nat} (h : Hl D k) (hk : k < 1000000000000) : DOk D := ⟨by rw [h.room]; omega, by rw [h.room]; omega, h.fn, by have := h.q; omega⟩
theorem Hl.up {k j : Nat} (h : Hl D k) (hj : k ≤ j) : Hl D j := ⟨h.on, h.room, h.fset, h.fn, Nat.le_trans h.q hj⟩
theorem hl_write {k : Nat} (h : Hl D k) (a : Int) (s : ByteArray) (ha : 0 ≤ a ∧ a < D.secs.length) (hs : s.size = 64) :
    writeE D a s = 0 ∧ writeD D a s = writeS D a.toNat (bts s) ∧ Hl (writeD D a s) (k + 1) ∧ (writeD D a s).secs = D.secs := by
  have hask : askS D a = 0 := by
    unfold askS
    rw [if_neg (by rw [h.on]; simp), if_neg (by omega)]
  have hr : ¬ D.room = 0 := by rw [h.room]; omega
  have hf : ¬ (D.fset = true ∧ D.fn ≤ 0) := by rw [h.fset]; simp
  have e1 : writeE D a s = 0 := by
    unfold writeE
    rw [if_neg (by rw [hask]; simp), if_neg (by simp [hs]), if_neg hr, if_neg hf]
  have e2 : writeD D a s = writeS D a.toNat (bts s) := by
    unfold writeD
    rw [if_neg (by rw [hask]; simp), if_neg (by simp [hs]), if_neg hr, if_neg hf]
  refine ⟨e1, e2, ?_, by rw [e2]; rfl⟩
  rw [e2]
  refine ⟨h.on, ?_, h.fset, ?_, ?_⟩
  · show (if 0 < D.room then D.room - 1 else D.room) = -1
    rw [if_neg (by rw [h.room]; omega), h.room]
  · show (if D.fset then D.fn - 1 else D.fn) ≤ _
    have := h.fn
    split <;> omega
  · show (D.q ++ [_]).length ≤ _
    rw [List.length_append, List.length_singleton]
    have := h.q
    omega
/-- the disk when i of the pieces are written -/
def wrI (D : Dm) (fr gen used : Int) (parts : List ByteArray) : Nat → Dm
  | 0 => D
  | i + 1 => writeD (wrI D fr gen used parts i) (fr + (used + i)) (formS (parts.getD i ByteArray.empty) (if i + 1 = parts.length then 2 else 1) gen (used + i))
theorem wrI_hl {fr gen used : Int} {parts : List ByteArray} {k : Nat} (h : Hl D k) (hp : ∀ x ∈ parts, x.size ≤ 48) (hg : 0 ≤ gen ∧ gen ≤ 4294967295) (hf : 0 ≤ fr) (hu : 0 ≤ used) (hb : fr + used + parts.length ≤ D.secs.length) (hs : D.secs.length ≤ 65536) :
    ∀ i, i ≤ parts.length → Hl (wrI D fr gen used parts i) (k + i) ∧ (wrI D fr gen used parts i).secs = D.secs
  | 0, _ => ⟨h, rfl⟩
  | i + 1, hi => by
    obtain ⟨h1, h2⟩ := wrI_hl h hp hg hf hu hb hs i (by omega)
    have hx : (parts.getD i ByteArray.empty).size ≤ 48 := by
      rw [List.getD_eq_getElem?_getD, List.getElem?_eq_getElem (by omega), Option.getD_some]
      exact hp _ (List.getElem_mem _)
    obtain ⟨_, _, h3, h4⟩ := hl_write h1 (fr + (used + i)) (formS (parts.getD i ByteArray.empty) (if i + 1 = parts.length then 2 else 1) gen (used + i)) ⟨by omega, by rw [h2]; omega⟩ (formS_size _ _ _ _ hx hg ⟨by omega, by omega⟩)
    exact ⟨by have : k + i + 1 = k + (i + 1) := by omega
              rw [← this]; exact h3, by show (writeD _ _ _).secs = _; rw [h4, h2]⟩
theorem wrI_ok {fr gen used : Int} {parts : List ByteArray} {k : Nat} (h : Hl D k) (hp : ∀ x ∈ parts, x.size ≤ 48) (hg : 0 ≤ gen ∧ gen ≤ 4294967295) (hf : 0 ≤ fr) (hu : 0 ≤ used) (hb : fr + used + parts.length ≤ D.secs.length) (hs : D.secs.length ≤ 65536) (i : Nat) (hi : i < parts.length) :
    writeE (wrI D fr gen used parts i) (fr + (used + i)) (formS (parts.getD i ByteArray.empty) (if i + 1 = parts.length then 2 else 1) gen (used + i)) = 0 := by
  obtain ⟨h1, h2⟩ := wrI_hl h hp hg hf hu hb hs i (by omega)
  have hx : (parts.getD i ByteArray.empty).size ≤ 48 := by
    rw [List.getD_eq_getElem?_getD, List.getElem?_eq_getElem (by omega), Option.getD_some]
    exact hp _ (List.getElem_mem _)
  exact (hl_write h1 _ _ ⟨by omega, by rw [h2]; omega⟩ (formS_size _ _ _ _ hx hg ⟨by omega, by omega⟩)).1
theorem l_pieces (h : Lg w0 w p l D L B) (s : ByteArray) (hs : s.size ≤ 140737488355328) : Calls Try.prog 25 #[.string s] w fun e w' => ∃ g c cs, e = .returned (.slice (some ⟨g, 0, none⟩) (pcs s).length c) ∧ (pcs s).length ≤ c ∧ (∀ (j : Nat) (x : ByteArray), (pcs s)[j]? = some x → cs[j]? = some (.string x)) ∧ Lg w0 w' p l D L ((g, .cells cs 9 (0, 0)) :: B) :=
  (c_pieces s hs w).mono fun e w' ⟨g, c, he, hc, hg, ⟨cs, h1, h2⟩, hb⟩ => ⟨g, c, cs, he, hc, h2, h.join hb hg h1⟩
theorem b_Clone (s : ByteArray) (hs : s.size ≤ 1000000) (w : World) : Calls Try.prog 28 #[.string s] w fun e w' => e = .returned (.string s) ∧ Below w.heap.size w w' := by
  have k1 := Lib.hid (Try.stringslite_Clone s w (by omega))
  go_enter Try.func28, Try.ntmps28
  go_wp2_with (go_at_call 37; refine k1.out.mono ?_; rintro e w2 ⟨rfl, hb⟩; have HB := Lib.hid hb; clear hb)
  go_ret
  exact ⟨rfl, HB.out⟩
theorem infoS : (Try.prog.info? 9).map (fun i => (i.zero, i.size, i.bytes)) = some (some (.string ByteArray.empty), 1, 16) := by kernel_rfl
/-- append, closed to the walk, which goes by its run -/
def apR (a : Array Value) : Sem Value := Builtin.append_ #[34, 34] 34 a
theorem apR_eq (a : Array Value) : Builtin.append_ #[34, 34] 34 a = apR a := rfl
/-- a record joins the row: append's run, and the state behind the store -/
theorem LgV.grow {g m : Nat} {qv rv : Value} (h : LgV w0 w p l D L B g m qv rv) (hb : Below w.heap.size w w1) (x : ByteArray) (hrc : L.recs.length ≤ 65536) :
    ∃ ga cap w9, (apR #[rv, .slice (some ⟨w1.heap.size, 0, none⟩) 1 1]).run Try.prog (w1.alloc (.cells #[.string x] 9)) = .ok (.slice (some ⟨ga, 0, none⟩) (L.recs.length + 1) cap) w9 ∧
      w9.cell? ⟨l, 6, none⟩ = some rv ∧ w9.frozen? ⟨l, 6, none⟩ = false ∧ Lg w0 (w9.setCell ⟨l, 6, none⟩ (.slice (some ⟨ga, 0, none⟩) (L.recs.length + 1) cap)) p l D { L with recs := L.recs ++ [x] } B := by
  obtain ⟨i0, hi0, hz0, hz1, hz2⟩ := info_parts infoS
  have hb2 : Below w.heap.size w (w1.alloc (.cells #[.string x] 9)) := hb.alloc hb.size _
  have h2 := h.b hb2
  obtain ⟨ga, cap, w9, hrun, hown, hgrow, hat, hlt⟩ := run_append_lies (P := Try.prog) (w1.alloc (.cells #[.string x] 9)) 34 34 0 9 i0 _ 1 16 Try.underlying34 hi0 hz0 hz1 hz2 rfl (by omega) rv L.recs.length (txts L.recs) h2.rcs ⟨w1.heap.size, 0, none⟩ 1 1 [.string x] rfl (World.news_of_block (cs := #[.string x]) (t := 9) (fr := (0, 0)) (heap_alloc_new w1 _)) (by simp [Value.oneCell']) (by omega) (by unfold maxLen; omega) (by omega) (Nat.zero_le _) (w1.heap.size + 1) (by simp)
  have K : Kept (fun j => rv.ownBlock = some j) w w9 := (Go.Proofs.YtladbjlkkjcfnaaKp.Kept.of_below hb2).grown hgrow (fun k e _ => e)
  have hrow := K.at h.row h.rl
  refine ⟨ga, cap, w9, hrun, (cell_of_row _ _ _ _ _ _ hrow).trans rfl, frozen_of_row _ _ _ _ _ hrow, h.recd (L' := { L with recs := L.recs ++ [x] }) K _ ?_ ?_ rfl⟩
  · have e1 : (L.recs ++ [x]).length = L.recs.length + 1 := by simp
    have e2 : txts (L.recs ++ [x]) = txts L.recs ++ [.string x] := by simp [txts]
    show w9.ownsRow 0 _ 1 _ (L.recs ++ [x]).length (txts (L.recs ++ [x]))
    rw [e1, e2]
    exact hown
  · intro j hj
    simp only [Value.ownBlock, Option.some.injEq] at hj
    subst hj
    rcases hat with e | e
    · exact .inl e
    · right; have := hb.size; omega
def appL (L : Lm) (rec : ByteArray) : Lm := { L with used := L.used + (pcs rec).length, recs := L.recs ++ [rec] }
def appD (D : Dm) (L : Lm) (rec : ByteArray) : Dm := wrI D L.fr L.gen L.used (pcs rec) (pcs rec).length
theorem l_Append_open (h : Lg w0 w p l D L B) (rec : ByteArray) (hs : rec.size ≤ 140737488355328) (ho : L.op = false) : Calls Try.prog 11 #[.pointer (some ⟨l, 0, none⟩), .string rec] w fun e w' => e = .returned (.int .i64 90) ∧ Lg w0 w' p l D L B := by
  have k1 := Lib.hid (l_pieces h rec hs)
  have HO := Lib.hid ho
  clear h hs ho
  go_enter Try.func11, Try.ntmps11
  go_wp2_with (first
    | (go_at_call 25; refine k1.out.mono ?_; rintro e w2 ⟨g, c, cs, rfl, hc, hcs, hs⟩; have HS := Lib.hid (hs.sub (B' := B) (fun x hx => List.mem_cons_of_mem _ hx)); obtain ⟨c0, c1, c2, c3, c4, c5⟩ := hs.cells; rw [HO.out] at c4; clear hs hcs)
    | (go_at_call 23; refine (l_none HS.out).mono ?_; rintro e w3 ⟨rfl, hw⟩; have hw := hw.symm; subst hw))
  go_ret
  exact ⟨rfl, HS.out⟩
theorem l_Append_full (h : Lg w0 w p l D L B) (hL : LOk L) (rec : ByteArray) (hs : rec.size ≤ 140737488355328) (ho : L.op = true) (hf : L.n - L.used < (pcs rec).length) : Calls Try.prog 11 #[.pointer (some ⟨l, 0, none⟩), .string rec] w fun e w' => e = .returned (.int .i64 83) ∧ Lg w0 w' p l D L B := by
  have k1 := l_pieces h rec hs
  have HO := Lib.hid ho
  generalize (pcs rec).length = N at *
  replace k1 := Lib.hid k1
  have d1 : decide (L.n - L.used < (N : Int)) = true := decide_eq_true hf
  have HL := Lib.hid hL
  clear h hs ho hf hL
  go_enter Try.func11, Try.ntmps11
  go_wp2_with (first
    | (go_at_call 25; refine k1.out.mono ?_; rintro e w2 ⟨g, c, cs, rfl, hc, hcs, hs⟩; have HS := Lib.hid (hs.sub (B' := B) (fun x hx => List.mem_cons_of_mem _ hx)); obtain ⟨c0, c1, c2, c3, c4, c5⟩ := hs.cells; rw [HO.out] at c4; clear hs hcs)
    | (go_at_call 23; refine (l_none HS.out).mono ?_; rintro e w3 ⟨rfl, hw⟩; have hw := hw.symm; subst hw)
    | (go_at_call 13; refine (l_Free HS.out HL.out).mono ?_; rintro e w3 ⟨rfl, hs⟩; have HS3 := Lib.hid hs; clear hs))
  go_ret
  exact ⟨rfl, HS3.out⟩
end Go.Proofs.YtladbjlkkjcfnaaLg
