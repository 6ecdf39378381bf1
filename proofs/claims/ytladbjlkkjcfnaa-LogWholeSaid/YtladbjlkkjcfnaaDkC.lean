/-
  vdisk: kept: the first writes of the queue go onto the disk. Condition: as many as there are.
-/
import Derived.Test.YtladbjlkkjcfnaaDkB
import Derived.Deep.WholeRow
import Derived.Deep.RegionHeld3
import Derived.Test.YtladbjlkkjcfnaaWWords
namespace Go.Proofs.YtladbjlkkjcfnaaDk
open Go.RowKit Go.Maps Go.Proofs.YtladbjlkkjcfnaaKp Go.Proofs.YtladbjlkkjcfnaaW.PrintWords
set_option linter.unusedVariables false
set_option linter.unusedSimpArgs false
variable {w : World} {p g m : Nat} {qv : Value} {D : Dm}

theorem flat_get (n : Nat) : ∀ (l : List (List Value)), (∀ x ∈ l, x.length = n) → ∀ (i j : Nat), j < n → l.flatten[n * i + j]? = (l[i]?).bind (·[j]?)
  | [], _, i, j, _ => by simp
  | x :: l, h, 0, j, hj => by
    rw [List.flatten_cons, Nat.mul_zero, Nat.zero_add, List.getElem?_append_left (by rw [h x List.mem_cons_self]; exact hj)]
    rfl
  | x :: l, h, i + 1, j, hj => by
    have hx := h x List.mem_cons_self
    rw [List.flatten_cons, List.getElem?_append_right (by rw [hx, Nat.mul_succ]; omega), hx, show n * (i + 1) + j - n = n * i + j by rw [Nat.mul_succ]; omega,
      flat_get n l (fun y hy => h y (List.mem_cons_of_mem _ hy)) i j hj]
    rfl
theorem wcells_length (x : Int × List Int) (h : x.2.length = 64) : (wcells x).length = 65 := by simp [wcells, u8s_length, h]
theorem qcells_get {q : List (Int × List Int)} (h : ∀ x ∈ q, x.2.length = 64) {i : Nat} {x : Int × List Int} (hi : q[i]? = some x) {j : Nat} (hj : j < 65) : (qcells q)[65 * i + j]? = (wcells x)[j]? := by
  unfold qcells
  rw [flat_get 65 _ (fun y hy => by obtain ⟨z, hz, rfl⟩ := List.mem_map.1 hy; exact wcells_length z (h z hz)) i j hj, List.getElem?_map, hi]
  rfl
theorem qcells_length {q : List (Int × List Int)} (h : ∀ x ∈ q, x.2.length = 64) : (qcells q).length = 65 * q.length := by
  induction q with
  | nil => rfl
  | cons x q ih =>
    have := ih (fun y hy => h y (List.mem_cons_of_mem _ hy))
    have hx := wcells_length x (h x List.mem_cons_self)
    simp only [qcells, List.map_cons, List.flatten_cons, List.length_append, hx, List.length_cons] at this ⊢
    omega
/-- the k-th write of the queue, as it lies in memory -/
theorem Dsk.qrange (h : Dsk w p g m qv D) {b : Nat} {n cap : Nat} (hq : qv = .slice (some ⟨b, 0, none⟩) n cap) {i : Nat} {x : Int × List Int} (hi : D.q[i]? = some x) : w.rangeAt b (65 * i) (wcells x) := by
  have hl : ∀ y ∈ D.q, y.2.length = 64 := fun y hy => (h.fits y hy).2.2
  obtain ⟨_, ⟨e, _⟩ | ⟨b', cap', cur, e, _, hh, _, _, hs, ht⟩⟩ := h.que
  · rw [hq] at e; cases e
  · rw [hq] at e
    obtain ⟨rfl, rfl, rfl⟩ : b = b' ∧ n = D.q.length ∧ cap = cap' := by simpa using e
    intro j v hv
    have hx := wcells_length x (hl x (List.mem_of_getElem? hi))
    have hj : j < 65 := by have := (List.getElem?_eq_some_iff.1 hv).1; omega
    have hil := (List.getElem?_eq_some_iff.1 hi).1
    rw [cell_of_row w b _ cur _ _ hh, ← Array.getElem?_toList]
    have : (qcells D.q)[65 * i + j]? = some v := by rw [qcells_get hl hi hj]; exact hv
    rw [← ht, List.getElem?_take] at this
    split at this
    · exact this
    · cases this
def layK (secs : List (List Int)) (q : List (Int × List Int)) (k : Nat) : List (List Int) := (q.take k).foldl (fun s x => s.set x.1.toNat x.2) secs
theorem layK_succ {secs : List (List Int)} {q : List (Int × List Int)} {k : Nat} {x : Int × List Int} (h : q[k]? = some x) : layK secs q (k + 1) = (layK secs q k).set x.1.toNat x.2 := by
  unfold layK
  rw [List.take_add_one, h]
  simp
theorem layK_length (secs : List (List Int)) (q : List (Int × List Int)) (k : Nat) : (layK secs q k).length = secs.length := by
  unfold layK
  generalize q.take k = l
  induction l generalizing secs with
  | nil => rfl
  | cons x l ih => rw [List.foldl_cons, ih, List.length_set]
theorem cell_setCells_other (b k j : Nat) (hk : k ≠ b) (vs : List Value) (o : Nat) (w : World) : (w.setCells b o vs).cell? ⟨k, j, none⟩ = w.cell? ⟨k, j, none⟩ := World.cell?_of_block (w := w) (heap_setCells_other b k hk vs o w)
/-- the first bytes of a sector are written -/
theorem Dsk.sector (h : Dsk w p g m qv D) {i : Nat} {s : List Int} (hi : D.secs[i]? = some s) {xs : List Int} (hx : xs.length ≤ 64) : Dsk (w.setCells g (i * 64) (u8s xs)) p g m qv { D with secs := D.secs.set i (xs ++ s.drop xs.length) } := by
  have hk : ∀ k, k ≠ g → (w.setCells g (i * 64) (u8s xs)).heap[k]? = w.heap[k]? := fun k hk => heap_setCells_other g k hk _ _ _
  have hrow : drow g m qv { D with secs := D.secs.set i (xs ++ s.drop xs.length) } = drow g m qv D := by simp [drow]
  refine ⟨by rw [hrow, hk p h.pg]; exact h.row, ?_, ownsRow_at h.que (fun k e => hk k (fun e' => h.qg (by rw [e, e']))), ownsMap_at h.map (hk m h.gm.symm), h.pg, h.pm, h.gm, h.qp, h.qg, h.qm, ?_, by simpa using h.scap, ?_⟩
  · rw [Nat.mul_comm]; exact h.sec.put hi hx
  · simpa using h.len
  · simpa using h.fits
/-- the queue is emptied, its map made anew -/
theorem Dsk.emptied (h : Dsk w p g m qv D) : Dsk (((w.alloc (.map #[] 0)).setCell ⟨p, 1, none⟩ (.slice none 0 0)).setCell ⟨p, 2, none⟩ (.map (some w.heap.size))) p g w.heap.size (.slice none 0 0) { D with q := [] } := by
  have hlt := h.lt
  have hp := hlt p (.inl rfl)
  have hg := hlt g (.inr (.inl rfl))
  have e0 : ∀ k, k < w.heap.size → k ≠ p → (((w.alloc (.map #[] 0)).setCell ⟨p, 1, none⟩ (.slice none 0 0)).setCell ⟨p, 2, none⟩ (.map (some w.heap.size))).heap[k]? = w.heap[k]? := fun k hk hn => by
    rw [Below.heap_setCell _ _ _ _ hn, Below.heap_setCell _ _ _ _ hn, Below.heap_alloc _ _ _ hk]
  have r0 : (w.alloc (.map #[] 0)).heap[p]? = some (.cells (drow g m qv D) 50 (0, 0)) := by rw [Below.heap_alloc _ _ _ hp]; exact h.row
  have r1 := heap_setCell_same _ p 1 _ _ (.slice none 0 0) r0
  have r2 := heap_setCell_same _ p 2 _ _ (.map (some w.heap.size)) r1
  have hne : p ≠ w.heap.size := by omega
  refine ⟨by rw [r2]; rfl, h.sec.at (e0 g hg h.pg.symm), ?_, ?_, h.pg, hne, by omega, by simp [Value.ownBlock], by simp [Value.ownBlock], by simp [Value.ownBlock], h.len, h.scap, by simp⟩
  · exact ⟨rfl, .inl ⟨rfl, rfl⟩⟩
  · exact ownsMap_at (w := w.alloc (.map #[] 0)) (World.ownsMap_made _ _ _ _) (by rw [Below.heap_setCell _ _ _ _ hne.symm, Below.heap_setCell _ _ _ _ hne.symm])
/-- a new write's and a new sector's cells -/
def zw59 : Array Value := (Value.int .i64 0 :: List.replicate 64 (Value.int .u8 0)).toArray
def zw57 : Array Value := (List.replicate 64 (Value.int .u8 0)).toArray
theorem info59 : (Try.prog.info? 65).map (fun i => (i.zero, i.size)) = some (some (.agg zw59), 65) := by kernel_rfl
theorem info57 : (Try.prog.info? 63).map (fun i => (i.zero, i.size)) = some (some (.agg zw57), 64) := by kernel_rfl
theorem oneW (x : Int × List Int) : ∀ v ∈ wcells x, v.oneCell' = true := by
  intro v hv
  simp only [wcells, u8s, List.mem_cons, List.mem_map] at hv
  rcases hv with rfl | ⟨_, _, rfl⟩ <;> rfl
theorem oneU (x : List Int) : ∀ v ∈ u8s x, v.oneCell' = true := by
  intro v hv
  simp only [u8s, List.mem_map] at hv
  rcases hv with ⟨_, _, rfl⟩
  rfl
/-- behind a store of a whole write into a block that is new -/
theorem new_write (W : World) (x : Int × List Int) (hl : x.2.length = 64) :
    (W.alloc (.cells zw59 65)).there W.heap.size 0 (wcells x).toArray.size ∧ Below W.heap.size W ((W.alloc (.cells zw59 65)).setCells W.heap.size 0 (wcells x)) ∧
    W.heap.size < ((W.alloc (.cells zw59 65)).setCells W.heap.size 0 (wcells x)).heap.size ∧
    ((W.alloc (.cells zw59 65)).setCells W.heap.size 0 (wcells x)).rangeAt W.heap.size 0 (wcells x) := by
  have hn := heap_alloc_new W (.cells zw59 65 (0, 0))
  have hs : (wcells x).length = 65 := wcells_length x hl
  have hz : zw59.size = 65 := rfl
  have ht : (W.alloc (.cells zw59 65)).there W.heap.size 0 65 := fun j hj => ⟨by
    rw [cell_of_row _ _ _ _ _ _ hn, Array.getElem?_eq_getElem (by omega)]; rfl, frozen_of_row _ _ _ _ _ hn⟩
  have hs2 : (wcells x).toArray.size = 65 := by rw [List.size_toArray, hs]
  refine ⟨by rw [hs2]; exact ht, ?_, ?_, World.rangeAt_setCells_same _ _ _ _ (by rw [hs]; exact ht)⟩
  · have := (Kept.refl (fun i => i = W.heap.size) W).alloc (.cells zw59 65 (0, 0))
    exact (this.setCells (b := W.heap.size) (fun h => absurd h (Nat.lt_irrefl _)) 0 (wcells x)).to_below (Nat.le_refl _) (fun i e => by rw [e]; exact Nat.le_refl _)
  · rw [size_setCells]
    simp
set_option maxRecDepth 100000 in
theorem c_kept (h : Dsk w p g m qv D) (n : Nat) (hn : n ≤ D.q.length) (a : Option Addr) (cap : Nat) (hq : qv = .slice a D.q.length cap) (hc : D.q.length ≤ cap) (hmx : cap ≤ 9223372036854775807) :
    Calls Try.prog 31 #[.pointer (some ⟨p, 0, none⟩), .int .i64 n] w fun e w' => e = .returned (.tuple #[]) ∧
      ∃ m', w.heap.size ≤ m' ∧ Dsk w' p g m' (.slice none 0 0) { D with secs := layK D.secs D.q n, q := [] } ∧ Kept (fun k => k = p ∨ k = g) w w' := by
  obtain ⟨h0, h1, _⟩ := h.cells
  rw [hq] at h1
  have H := Lib.hid h
  have HQ := Lib.hid hq
  clear h hq
  go_enter Try.func31, Try.ntmps31
  go_wp2_with fail
  clear h0 h1
  go_loopw [13] (fun i wr => ∃ k : Nat, k ≤ n ∧ i = .int .i64 k ∧ Dsk wr p g m qv { D with secs := layK D.secs D.q k } ∧ Kept (fun b => b = g) w wr) (fun i _ => n - (intOf i).toNat)
  case atStart => exact ⟨0, Nat.zero_le _, rfl, H.out, Kept.refl _ _⟩
  case round =>
    obtain ⟨k, hk, rfl, hd, hK⟩ := hrel
    by_cases hkn : k = n
    · subst hkn
      have d1 : decide ((k : Int) < (k : Int)) = false := by simp
      obtain ⟨_, h1, h2, _⟩ := hd.cells
      have z1 := hd.frozen 1
      have z2 := hd.frozen 2
      have hp : p ≠ wr.heap.size := fun e => by have := hd.lt p (.inl rfl); omega
      have hal := (Below.refl wr.heap.size wr).alloc (Nat.le_refl _) (.map #[] 0)
      have hpl := hd.lt p (.inl rfl)
      have c1 := (hal.cell (p := ⟨p, 1, none⟩) hpl).trans h1
      have c2 := (hal.cell (p := ⟨p, 2, none⟩) hpl).trans h2
      have f1 := (hal.frozen (p := ⟨p, 1, none⟩) hpl).trans z1
      have f2 := (hal.frozen (p := ⟨p, 2, none⟩) hpl).trans z2
      have hmm := @run_makeMap Try.prog
      have HX := Lib.hid (And.intro hd hK)
      clear hd hK hal hpl hp
      go_wp2_with fail
      obtain ⟨hd, hK⟩ := HX.out
      exact ⟨rfl, _, results_void rfl _ _, rfl, wr.heap.size, hK.size, hd.emptied, ((((hK.mono (fun i _ e => .inr e)).alloc _).setCell (a := ⟨p, 1, none⟩) (fun _ => .inl rfl) _).setCell (a := ⟨p, 2, none⟩) (fun _ => .inl rfl) _)⟩
    · have d1 : decide ((k : Int) < (n : Int)) = true := by simp; omega
      have hkl : k < D.q.length := by omega
      have hk1 : Hid (k + 1 ≤ n) := Lib.hid (by omega)
      have hkm : Hid (n - (k + 1) < n - k) := Lib.hid (by omega)
      obtain ⟨x, hx⟩ : ∃ x, D.q[k]? = some x := ⟨_, List.getElem?_eq_getElem hkl⟩
      obtain ⟨i0, s⟩ := x
      have hf := H.out.fits _ (List.mem_of_getElem? hx)
      simp only at hf
      obtain ⟨i, rfl⟩ := Int.eq_ofNat_of_zero_le hf.1
      have hi : i < D.secs.length := by omega
      obtain ⟨b, rfl⟩ : ∃ b, a = some ⟨b, 0, none⟩ := by
        obtain ⟨_, ⟨e, h0⟩ | ⟨b, cap', cur, e, _⟩⟩ := H.out.que
        · omega
        · rw [HQ.out] at e; simp at e; exact ⟨b, e.1⟩
      have hr := hd.qrange HQ.out (x := ((i : Int), s)) hx
      have hl : s.length = 64 := hf.2.2
      rw [Nat.mul_comm] at hr
      have hsz : (Try.prog.info? 65).map (·.size) = some (wcells ((i : Int), s)).length := by rw [wcells_length _ hl]; exact (zero_of_info info59).2
      have hsz2 : (Try.prog.info? 65).map (·.size) = some (wcells ((i : Int), s)).toArray.size := by rw [List.size_toArray]; exact hsz
      have hz9 := (zero_of_info info59).1
      have hnw := new_write wr ((i : Int), s) hl
      have HX := Lib.hid (And.intro hd (And.intro hK (And.intro hr (And.intro hsz (And.intro hsz2 hnw)))))
      clear hd hK hr hsz hsz2 hnw
      go_wp2_with (first
        | ((with_reducible refine gate_dst (N := 16) rfl ?_); (refine wpList_load_mid rfl 65 _ rfl b (k * 65) rfl (wcells (↑i, s)) _ HX.out.2.2.1 Try.underlying65 rfl HX.out.2.2.2.1 ?_))
        | ((with_reducible refine gate_store (t := 65) (p := 5) rfl ?_); (refine wpList_store_mid rfl 65 _ _ rfl wr.heap.size 0 (wcells (↑i, s)).toArray rfl rfl HX.out.2.2.2.2.2.1 HX.out.2.2.2.2.1 (all_oneCell_toArray (oneW _)) ?_)))
      obtain ⟨hd, hK, hr, hsz, hsz2, hth, hb1, hlt, hrg⟩ := HX.out
      have hd1 : Dsk ((wr.alloc (.cells zw59 65)).setCells wr.heap.size 0 (wcells ((i : Int), s))) p g m qv { D with secs := layK D.secs D.q k } := hd.at (fun j hj => hb1.block j (hd.lt j hj))
      have hK1 := hK.below hb1
      have hng : wr.heap.size ≠ g := fun e => by have := hd.lt g (.inr (.inl rfl)); omega
      have hnp : wr.heap.size ≠ p := fun e => by have := hd.lt p (.inl rfl); omega
      clear HX hsz hsz2 hth hd hK hr hb1
      generalize (wr.alloc (.cells zw59 65)).setCells wr.heap.size 0 (wcells ((i : Int), s)) = W1 at *
      generalize wr.heap.size = nb at *
      have s0 := hd1.cells.1
      simp only [layK_length] at s0
      have s1 : W1.cell? ⟨nb, 0, none⟩ = some (.int .i64 (i : Int)) := hrg 0 _ rfl
      have s2 : W1.rangeAt nb 1 (u8s s) := fun j v hv => by rw [Nat.add_comm 1 j]; have := hrg (j + 1) v hv; simpa using this
      have s3 : W1.there g (i * 64) 64 := by rw [Nat.mul_comm]; exact hd1.sec.there (by simp only [layK_length]; exact hi) (Nat.le_refl _)
      have hu := Try.underlying63
      have hlen : (u8s s).length = 64 := by rw [u8s_length]; exact hl
      have hi57 : (Try.prog.info? 63).map (·.size) = some (u8s s).length := by rw [hlen]; exact (zero_of_info info57).2
      have hone := oneU s
      have HY := Lib.hid (And.intro hd1 hK1)
      have hd1pg : p ≠ g := hd1.pg
      have HXX := Lib.hid hx
      clear hd1 hK1 hrg hx
      go_region_held3 (fun W => W.cell? ⟨p, 0, none⟩ = some (.slice (some ⟨g, 0, none⟩) D.secs.length D.cap) ∧ W.cell? ⟨nb, 0, none⟩ = some (.int .i64 (i : Int)) ∧ W.rangeAt nb 1 (u8s s) ∧ W.there g (i * 64) 64) (first | go_keep_ranges | exact ⟨(cell_setCells_other _ _ _ hd1pg _ _ _).trans s0, (cell_setCells_other _ _ _ hng _ _ _).trans s1, fun j v hv => (cell_setCells_other _ _ _ hng _ _ _).trans (s2 j v hv), World.there_setCells (w := W1.drew) s3 _ _ _⟩) (fail)
      all_goals
        have hd2 : Dsk W1.drew p g m qv { D with secs := layK D.secs D.q k } := HY.out.1.at (fun _ _ => rfl)
        obtain ⟨s0', hs0⟩ : ∃ s0', (layK D.secs D.q k)[i]? = some s0' := ⟨_, List.getElem?_eq_getElem (by rw [layK_length]; exact hi)⟩
        have hd3 := hd2.sector (i := i) (s := s0') hs0 (xs := s) (Nat.le_of_eq hl)
        have hl0 : s0'.length = 64 := by obtain ⟨_, _, _, hh⟩ := hd2.sec; exact (hh i s0' hs0).1
        have hlay : (layK D.secs D.q k).set i (s ++ s0'.drop s.length) = layK D.secs D.q (k + 1) := by
          rw [layK_succ HXX.out, hl, List.drop_of_length_le (by rw [hl0]; exact Nat.le_refl _), List.append_nil]
          rfl
        simp only [hlay] at hd3
        have hKK := (HY.out.2.drew).setCells (b := g) (fun _ => rfl) (i * 64) (u8s s)
        have HZ := Lib.hid (And.intro hd3 hKK)
        clear hd2 hs0 hd3 hl0 hlay hKK
        go_wp2_with fail
        exact ⟨⟨k + 1, hk1.out, by simp, HZ.out.1, HZ.out.2⟩, by simpa [intOf] using hkm.out⟩
end Go.Proofs.YtladbjlkkjcfnaaDk
