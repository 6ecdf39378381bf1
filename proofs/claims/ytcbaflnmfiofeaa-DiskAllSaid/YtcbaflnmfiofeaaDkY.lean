/-
  chanceryref10: the reference's disk, as it lies in memory; lay. chanceryref10: lay. chanceryref10: Crash, Sync, burn. chanceryref10: Crash, burn, Sync, Room, SetFuse, whole. chanceryref10: Sync and Write. Condition: none; a sector that is there; whole numbers as Go has them; the room, the fuse and the queue within bounds.
-/
import Derived.Test.YtcbaflnmfiofeaaDkQ
import Derived.Laws.OwnMore
import Derived.StillTailTactics
import Derived.Maps.RangeWalk
import Derived.Deep.AppendLies
namespace Go.Proofs.YtcbaflnmfiofeaaDk
open Go.RowKit Go.Maps Go.Proofs.YtcbaflnmfiofeaaKp Go.Proofs.YtcbaflnmfiofeaaCm
set_option linter.unusedVariables false
set_option linter.unusedSimpArgs false
def rcells (q : List (Int × List Int)) : List Value := (q.map fun x => [Value.int .i64 x.1, .string (strOfNums x.2)]).flatten
theorem rcells_snoc (q : List (Int × List Int)) (x : Int × List Int) : rcells (q ++ [x]) = rcells q ++ [.int .i64 x.1, .string (strOfNums x.2)] := by simp [rcells]
theorem rcells_length (q : List (Int × List Int)) : (rcells q).length = q.length * 2 := by
  induction q with
  | nil => rfl
  | cons x q ih =>
    simp only [rcells, List.map_cons, List.flatten_cons, List.length_append, List.length_cons] at ih ⊢
    rw [ih]
    simp
    omega
theorem rcells_get {q : List (Int × List Int)} {i : Nat} {x : Int × List Int} (hi : q[i]? = some x) : (rcells q)[2 * i]? = some (.int .i64 x.1) ∧ (rcells q)[2 * i + 1]? = some (.string (strOfNums x.2)) := by
  have h := fun j (hj : j < 2) => flat_get 2 (q.map fun x => [Value.int .i64 x.1, .string (strOfNums x.2)]) (fun y hy => by obtain ⟨z, _, rfl⟩ := List.mem_map.1 hy; rfl) i j hj
  refine ⟨?_, ?_⟩
  · have := h 0 (by omega)
    rw [rcells, show 2 * i = 2 * i + 0 by omega, this, List.getElem?_map, hi]
    rfl
  · rw [rcells, h 1 (by omega), List.getElem?_map, hi]
    rfl
/-- the reference's own row -/
def rrow (g bc : Nat) (qv : Value) (D : Dm) (fk ft : Int) : Array Value :=
  #[.slice (some ⟨g, 0, none⟩) (64 * D.secs.length) bc, qv, .bool (!D.on), .int .i64 (if D.fset then D.fn else -1), .int .i64 fk, .int .i64 ft, .int .i64 D.room, .int .i64 D.writes]
/-- block r is the reference's disk that is alike -/
structure Rf (w : World) (r g bc : Nat) (qv : Value) (D : Dm) : Prop where
  row : ∃ fk ft, w.heap[r]? = some (.cells (rrow g bc qv D fk ft) 75 (0, 0)) ∧ (D.fset = true → fk = D.fk ∧ ft = D.ft)
  b : w.ownsRow 0 5 1 (.slice (some ⟨g, 0, none⟩) (64 * D.secs.length) bc) (64 * D.secs.length) (u8s D.secs.flatten)
  q : w.ownsRow 0 77 2 qv D.q.length (rcells D.q)
  rg : r ≠ g
  qr : qv.ownBlock ≠ some r
  qg : qv.ownBlock ≠ some g
  each : ∀ s ∈ D.secs, s.length = 64
  len : 0 < D.secs.length ∧ D.secs.length ≤ 65536
  fits : ∀ x ∈ D.q, 0 ≤ x.1 ∧ x.1 < D.secs.length ∧ x.2.length = 64
  fz : D.fset = true → 0 ≤ D.fn
  rng : ∀ x ∈ D.q, ∀ b ∈ x.2, 0 ≤ b ∧ b ≤ 255
def rfp (r g : Nat) (qv : Value) : Nat → Prop := fun k => k = r ∨ k = g ∨ qv.ownBlock = some k
variable {w w1 : World} {r g bc : Nat} {qv : Value} {D : Dm}
theorem Rf.at (h : Rf w r g bc qv D) (hk : ∀ k, rfp r g qv k → w1.heap[k]? = w.heap[k]?) : Rf w1 r g bc qv D := by
  obtain ⟨fk, ft, hr, hf⟩ := h.row
  exact ⟨⟨fk, ft, by rw [hk r (.inl rfl)]; exact hr, hf⟩, ownsRow_at h.b (fun k e => hk k (.inr (.inl (by cases e; rfl)))), ownsRow_at h.q (fun k e => hk k (.inr (.inr e))), h.rg, h.qr, h.qg, h.each, h.len, h.fits, h.fz, h.rng⟩
theorem Rf.lt (h : Rf w r g bc qv D) : ∀ k, rfp r g qv k → k < w.heap.size := by
  rintro k (rfl | rfl | e)
  · obtain ⟨_, _, hr, _⟩ := h.row; exact lt_of_at hr
  · exact ownBlock_lt h.b rfl
  · exact ownBlock_lt h.q e
theorem Rf.cells (h : Rf w r g bc qv D) : w.cell? ⟨r, 0, none⟩ = some (.slice (some ⟨g, 0, none⟩) (64 * D.secs.length) bc) ∧ w.cell? ⟨r, 1, none⟩ = some qv ∧ w.cell? ⟨r, 2, none⟩ = some (.bool (!D.on)) ∧ w.cell? ⟨r, 3, none⟩ = some (.int .i64 (if D.fset then D.fn else -1)) ∧
    w.cell? ⟨r, 6, none⟩ = some (.int .i64 D.room) ∧ w.cell? ⟨r, 7, none⟩ = some (.int .i64 D.writes) := by
  obtain ⟨fk, ft, hr, _⟩ := h.row
  exact ⟨(cell_of_row _ _ _ _ _ _ hr).trans rfl, (cell_of_row _ _ _ _ _ _ hr).trans rfl, (cell_of_row _ _ _ _ _ _ hr).trans rfl, (cell_of_row _ _ _ _ _ _ hr).trans rfl, (cell_of_row _ _ _ _ _ _ hr).trans rfl, (cell_of_row _ _ _ _ _ _ hr).trans rfl⟩
theorem Rf.frozen (h : Rf w r g bc qv D) (j : Nat) : w.frozen? ⟨r, j, none⟩ = false := by
  obtain ⟨fk, ft, hr, _⟩ := h.row
  exact frozen_of_row _ _ _ _ _ hr
theorem Rf.cap (h : Rf w r g bc qv D) : 64 * D.secs.length ≤ bc ∧ bc ≤ maxLen := by
  obtain ⟨_, ⟨e, h0⟩ | ⟨b, cap, cur, e, _, _, h1, h2, _⟩⟩ := h.b
  · cases e
  · cases e; exact ⟨h1, h2⟩
/-- a field of the row is turned -/
theorem Rf.field {D' : Dm} (h : Rf w r g bc qv D) (j : Nat) (v : Value) (hs : D'.secs = D.secs) (hq : D'.q = D.q) (hz : D'.fset = true → 0 ≤ D'.fn)
    (hr : ∀ fk ft, (D.fset = true → fk = D.fk ∧ ft = D.ft) → ∃ fk' ft', (rrow g bc qv D fk ft).setIfInBounds j v = rrow g bc qv D' fk' ft' ∧ (D'.fset = true → fk' = D'.fk ∧ ft' = D'.ft)) : Rf (w.setCell ⟨r, j, none⟩ v) r g bc qv D' := by
  have hk : ∀ k, k ≠ r → (w.setCell ⟨r, j, none⟩ v).heap[k]? = w.heap[k]? := fun k hk => Below.heap_setCell _ _ _ _ hk
  obtain ⟨fk, ft, hrow, hf⟩ := h.row
  obtain ⟨fk', ft', e, hf'⟩ := hr fk ft hf
  refine ⟨⟨fk', ft', by rw [← e]; exact heap_setCell_same w r j _ _ v hrow, hf'⟩, ?_, ?_, h.rg, h.qr, h.qg, by rw [hs]; exact h.each, by rw [hs]; exact h.len, by rw [hs, hq]; exact h.fits, hz, by rw [hq]; exact h.rng⟩
  · rw [hs]; exact ownsRow_at h.b (fun k e => hk k (by cases e; exact h.rg.symm))
  · rw [hq]; exact ownsRow_at h.q (fun k e => hk k (fun e' => h.qr (by rw [e, e'])))
theorem flatten_set : ∀ (secs : List (List Int)) (a : Nat) (i : Nat) (v : Int) (s : List Int), (∀ x ∈ secs, x.length = 64) → secs[a]? = some s → i < 64 → (secs.set a (s.set i v)).flatten = secs.flatten.set (64 * a + i) v
  | [], a, _, _, _, _, h, _ => by simp at h
  | x :: secs, 0, i, v, s, he, h, hi => by
    obtain rfl : x = s := by simpa using h
    rw [List.set_cons_zero, List.flatten_cons, List.flatten_cons, Nat.mul_zero, Nat.zero_add, List.set_append_left _ _ (by rw [he x List.mem_cons_self]; exact hi)]
  | x :: secs, a + 1, i, v, s, he, h, hi => by
    rw [List.set_cons_succ, List.flatten_cons, List.flatten_cons, flatten_set secs a i v s (fun y hy => he y (List.mem_cons_of_mem _ hy)) (by simpa using h) hi, List.set_append_right _ _ (by rw [he x List.mem_cons_self]; omega), he x List.mem_cons_self]
    congr 2
    omega
theorem torn_succ (secs : List (List Int)) (a : Nat) (s s0 : List Int) (i : Nat) (h : secs[a]? = some s0) (h0 : s0.length = 64) (hi : i < 64) (v : Int) (hv : s[i]? = some v) :
    tornS secs ((a : Int), s) (i + 1) = (tornS secs ((a : Int), s) i).set a ((s.take i ++ s0.drop i).set i v) := by
  have hs : i < s.length := (List.getElem?_eq_some_iff.1 hv).1
  have e : (s.take i ++ s0.drop i).set i v = s.take (i + 1) ++ s0.drop (i + 1) := by
    rw [List.set_append_right _ _ (by simp; omega), List.length_take, Nat.min_eq_left (by omega), Nat.sub_self, List.drop_eq_getElem_cons (by omega : i < s0.length), List.set_cons_zero, List.take_add_one, hv, List.append_assoc]
    rfl
  rw [e]
  unfold tornS
  simp only [Int.toNat_natCast, List.getD_eq_getElem?_getD, h, Option.getD_some, List.set_set]
theorem torn_get (secs : List (List Int)) (a : Nat) (s s0 : List Int) (i : Nat) (h : secs[a]? = some s0) : (tornS secs ((a : Int), s) i)[a]? = some (s.take i ++ s0.drop i) := by
  have hl := (List.getElem?_eq_some_iff.1 h).1
  unfold tornS
  simp only [Int.toNat_natCast, List.getD_eq_getElem?_getD, h, Option.getD_some]
  rw [List.getElem?_set_self hl]
theorem torn_each {secs : List (List Int)} (he : ∀ x ∈ secs, x.length = 64) (a : Nat) (s : List Int) (hs : s.length = 64) (i : Nat) (hi : i ≤ 64) (ha : a < secs.length) : ∀ x ∈ tornS secs ((a : Int), s) i, x.length = 64 := by
  intro x hx
  unfold tornS at hx
  rcases List.mem_or_eq_of_mem_set hx with hx | rfl
  · exact he x hx
  · have h0 : (secs.getD a []).length = 64 := by rw [List.getD_eq_getElem?_getD, List.getElem?_eq_getElem ha]; exact he _ (List.getElem_mem ha)
    simp only [Int.toNat_natCast, List.length_append, List.length_take, List.length_drop, h0, hs]
    omega
/-- one byte of B is written -/
theorem Rf.byte (h : Rf w r g bc qv D) (a i : Nat) (v : Int) (s : List Int) (hs : D.secs[a]? = some s) (hi : i < 64) : Rf (w.setCell ⟨g, 64 * a + i, none⟩ (.int .u8 v)) r g bc qv { D with secs := D.secs.set a (s.set i v) } := by
  have hk : ∀ k, k ≠ g → (w.setCell ⟨g, 64 * a + i, none⟩ (.int .u8 v)).heap[k]? = w.heap[k]? := fun k hk => Below.heap_setCell _ _ _ _ hk
  obtain ⟨fk, ft, hrow, hf⟩ := h.row
  have hl : (D.secs.set a (s.set i v)).length = D.secs.length := List.length_set
  have e1 : rrow g bc qv { D with secs := D.secs.set a (s.set i v) } fk ft = rrow g bc qv D fk ft := by simp [rrow]
  refine ⟨⟨fk, ft, by rw [hk r h.rg, e1]; exact hrow, hf⟩, ?_, ownsRow_at h.q (fun k e => hk k (fun e' => h.qg (by rw [e, e']))), h.rg, h.qr, h.qg, ?_, by simpa using h.len, by simpa using h.fits, h.fz, h.rng⟩
  · have := (h.b.stored (64 * a + i) (.int .u8 v)).1
    simp only [hl]
    rw [flatten_set D.secs a i v s h.each hs hi, u8s, List.map_set]
    exact this
  · intro x hx
    rcases List.mem_or_eq_of_mem_set hx with hx | rfl
    · exact h.each x hx
    · rw [List.length_set]; exact h.each s (List.mem_of_getElem? hs)
theorem bcell (h : Rf w r g bc qv D) {j : Nat} (hj : j < 64 * D.secs.length) : (∃ v, w.cell? ⟨g, j, none⟩ = some v) ∧ w.frozen? ⟨g, j, none⟩ = false := by
  have h1 := h.b.cellAt j (by omega)
  have hl : (u8s D.secs.flatten).length = 64 * D.secs.length := by have := h.b.1; omega
  refine ⟨⟨(u8s D.secs.flatten)[j]'(by omega), by rw [h1, List.getElem?_eq_getElem (by omega)]⟩, h.b.frozenAt j⟩
end Go.Proofs.YtcbaflnmfiofeaaDk
namespace Go.Proofs.YtcbaflnmfiofeaaDk
open Go.RowKit Go.Maps Go.Proofs.YtcbaflnmfiofeaaKp Go.Proofs.YtcbaflnmfiofeaaCm
set_option linter.unusedVariables false
set_option linter.unusedSimpArgs false
variable {w w1 : World} {r g bc : Nat} {qv : Value} {D : Dm}
theorem torn_zero {secs : List (List Int)} {a : Nat} (s : List Int) (ha : a < secs.length) : tornS secs ((a : Int), s) 0 = secs := by
  unfold tornS
  simp only [Int.toNat_natCast, List.take_zero, List.drop_zero, List.nil_append, List.getD_eq_getElem?_getD, List.getElem?_eq_getElem ha, Option.getD_some, List.set_getElem_self]
theorem str_byte {s : List Int} {i : Nat} {v : Int} (hr : ∀ b ∈ s, 0 ≤ b ∧ b ≤ 255) (hi : s[i]? = some v) (h : i < (strOfNums s).size) : (((strOfNums s)[i]'h).toNat : Int) = v := by
  have hl := (List.getElem?_eq_some_iff.1 hi)
  obtain ⟨hl, e⟩ := hl
  have hv := hr v (by rw [← e]; exact List.getElem_mem hl)
  have : (strOfNums s)[i]'h = UInt8.ofNat v.toNat := by
    show (strOfNums s).data[i]'_ = _
    simp [strOfNums, e]
  rw [this]
  simp
  omega
set_option maxRecDepth 100000 in
theorem c_lay (h : Rf w r g bc qv D) (a : Nat) (s : List Int) (hs : s.length = 64) (ha : a < D.secs.length) (hrg : ∀ b ∈ s, 0 ≤ b ∧ b ≤ 255) (n : Int) :
    Calls Try.prog 43 #[.pointer (some ⟨r, 0, none⟩), .agg #[.int .i64 a, .string (strOfNums s)], .int .i64 n] w fun e w' =>
      e = .returned (.tuple #[]) ∧ Rf w' r g bc qv { D with secs := tornS D.secs ((a : Int), s) (tornT n) } ∧ Kept (fun k => k = g) w w' := by
  have hle := h.len
  obtain ⟨T, hT⟩ : ∃ T, T = tornT n := ⟨_, rfl⟩
  have hT64 : T ≤ 64 := by rw [hT]; unfold tornT; omega
  have hTn : ∀ i : Nat, i < T → (i : Int) < n := by intro i hi; rw [hT] at hi; unfold tornT at hi; omega
  have hTx : (T : Int) < n → 64 ≤ T := by intro hi; rw [hT] at hi ⊢; unfold tornT at hi ⊢; omega
  rw [← hT]
  have H := Lib.hid (And.intro h (And.intro hs (And.intro ha (And.intro hrg (And.intro hTn hTx)))))
  clear h hs ha hrg hT hTn hTx
  go_enter Try.func43, Try.ntmps43
  go_wp2_with fail
  go_loopw [6] (fun v wr => ∃ i : Nat, i ≤ T ∧ v = .int .i64 i ∧ Rf wr r g bc qv { D with secs := tornS D.secs ((a : Int), s) i } ∧ wr.heap[w.heap.size]? = some (.cells #[.int .i64 a, .string (strOfNums s)] 77 (0, 0)) ∧ Kept (fun k => k = g) w wr) (fun v _ => T - (intOf v).toNat)
  case atStart =>
    obtain ⟨h, hs, ha, hrg, _⟩ := H.out
    refine ⟨0, Nat.zero_le _, rfl, ?_, heap_alloc_new w _, (Kept.refl _ _).alloc _⟩
    rw [torn_zero s ha]
    exact h.at (fun k hk => Below.heap_alloc _ _ _ (h.lt k hk))
  case round =>
    obtain ⟨i, hi, rfl, hrf, hbx, hK⟩ := hrel
    obtain ⟨h, hs, ha, hrg, hTn, hTx⟩ := H.out
    by_cases hiT : i < T
    · have d1 : decide ((i : Int) < n) = true := decide_eq_true (hTn i hiT)
      have d2 : decide ((i : Int) < 64) = true := decide_eq_true (by omega)
      have hi1 : Hid (i + 1 ≤ T) := Lib.hid (by omega)
      obtain ⟨c0, _⟩ := hrf.cells
      obtain ⟨s0, hs0⟩ : ∃ s0, D.secs[a]? = some s0 := ⟨_, List.getElem?_eq_getElem ha⟩
      have hs0l := h.each s0 (List.mem_of_getElem? hs0)
      obtain ⟨v, hv⟩ : ∃ v, s[i]? = some v := ⟨_, List.getElem?_eq_getElem (by omega)⟩
      have hszs : (strOfNums s).size = 64 := by rw [strOfNums_size]; exact hs
      have hix : ∀ h, (((strOfNums s)[i]'h).toNat : Int) = v := fun h => str_byte hrg hv h
      have hlen : (tornS D.secs ((a : Int), s) i).length = D.secs.length := tornS_length _ _ _
      simp only [hlen] at c0
      have b0 : wr.cell? ⟨w.heap.size, 0, none⟩ = some (.int .i64 a) := (cell_of_row _ _ _ _ _ _ hbx).trans rfl
      have b1 : wr.cell? ⟨w.heap.size, 1, none⟩ = some (.string (strOfNums s)) := (cell_of_row _ _ _ _ _ _ hbx).trans rfl
      obtain ⟨⟨ov, g0⟩, g1⟩ := bcell hrf (j := a * 64 + i) (by simp only [hlen]; omega)
      have w1 : IntKind.i64.wrap ((a : Int) * 64) = (a : Int) * 64 := by rw [IntKind.wrap_i64]; omega
      have w2 : IntKind.i64.wrap ((a : Int) * 64 + (i : Int)) = (a : Int) * 64 + (i : Int) := by rw [IntKind.wrap_i64]; omega
      have j1 : (0 : Int) ≤ (a : Int) * 64 + (i : Int) := by omega
      have j2 : (a : Int) * 64 + (i : Int) < ((64 * D.secs.length : Nat) : Int) := by omega
      have j2' : (a : Int) * 64 + (i : Int) < 64 * (D.secs.length : Int) := by omega
      have j3 : ((a : Int) * 64 + (i : Int)).toNat = a * 64 + i := by omega
      have j4 : (0 : Int) ≤ (i : Int) := by omega
      have j5 : (i : Int) < 64 := by omega
      have HX := Lib.hid (And.intro hrf (And.intro hbx (And.intro hK (And.intro hs0 (And.intro hs0l hv)))))
      clear hrf hbx hK hs0 hs0l hv h hs ha hrg hTn hTx hiT
      go_wp2_with fail
      go_still_tail 13, (by kernel_rfl)
      change wpList _ _ _ _ _ wr.drew
      go_wp2_with fail
      obtain ⟨hrf, hbx, hK, hs0, hs0l, hv⟩ := HX.out
      have h2 := hrf.byte a i v (s.take i ++ s0.drop i) (torn_get D.secs a s s0 i hs0) (by omega)
      have hng : w.heap.size ≠ g := fun e => by have := H.out.1.lt g (.inr (.inl rfl)); omega
      rw [show 64 * a + i = a * 64 + i by omega] at h2
      simp only at h2
      rw [← torn_succ D.secs a s s0 i hs0 hs0l (by omega) v hv] at h2
      exact ⟨⟨i + 1, hi1.out, by simp, h2.at (fun _ _ => rfl), (Below.heap_setCell wr ⟨g, a * 64 + i, none⟩ (.int .u8 v) w.heap.size hng).trans hbx, (hK.setCell (a := ⟨g, a * 64 + i, none⟩) (fun _ => rfl) _).drew⟩, by have := hi1.out; simp [intOf]; omega⟩
    · obtain rfl : i = T := by omega
      have HX := Lib.hid (And.intro hrf hK)
      clear hrf hbx hK h hs ha hrg
      by_cases hin : (i : Int) < n
      · have d1 : decide ((i : Int) < n) = true := decide_eq_true hin
        have d2 : decide ((i : Int) < 64) = false := decide_eq_false (by have := hTx hin; omega)
        clear hTn hTx hin
        go_wp2_with fail
        exact ⟨rfl, _, results_void rfl _ _, rfl, HX.out⟩
      · have d1 : decide ((i : Int) < n) = false := decide_eq_false hin
        clear hTn hTx hin
        go_wp2_with fail
        exact ⟨rfl, _, results_void rfl _ _, rfl, HX.out⟩
end Go.Proofs.YtcbaflnmfiofeaaDk
namespace Go.Proofs.YtcbaflnmfiofeaaDk
open Go.RowKit Go.Maps Go.Proofs.YtcbaflnmfiofeaaKp Go.Proofs.YtcbaflnmfiofeaaCm
set_option linter.unusedVariables false
set_option linter.unusedSimpArgs false
variable {w w1 : World} {r g bc : Nat} {qv : Value} {D : Dm}
/-- the queue's value, and where its writes lie -/
theorem Rf.que_form (h : Rf w r g bc qv D) : ∃ a cap, qv = .slice a D.q.length cap ∧ D.q.length ≤ cap ∧ cap ≤ 9223372036854775807 ∧ (0 < D.q.length → ∃ b, a = some ⟨b, 0, none⟩) := by
  obtain ⟨_, ⟨e, h0⟩ | ⟨b, cap, cur, e, _, _, h1, h2, _⟩⟩ := h.q
  · exact ⟨none, 0, by rw [e, h0], by omega, by omega, fun h => by omega⟩
  · exact ⟨_, _, e, h1, h2, fun _ => ⟨b, rfl⟩⟩
theorem Rf.qcell (h : Rf w r g bc qv D) {b n cap : Nat} (hq : qv = .slice (some ⟨b, 0, none⟩) n cap) {i : Nat} {x : Int × List Int} (hi : D.q[i]? = some x) :
    w.cell? ⟨b, i * 2, none⟩ = some (.int .i64 x.1) ∧ w.cell? ⟨b, i * 2 + 1, none⟩ = some (.string (strOfNums x.2)) := by
  have hg := rcells_get hi
  have hc := h.q.cells (g := b) (by rw [hq]; rfl)
  refine ⟨?_, ?_⟩
  · have := hc (2 * i) _ hg.1
    rw [Addr.add_mid, Nat.zero_add, Nat.mul_comm] at this
    exact this
  · have := hc (2 * i + 1) _ hg.2
    rw [Addr.add_mid, Nat.zero_add, Nat.mul_comm] at this
    exact this
/-- the reference's sectors behind i rounds of a crash -/
def crC (D : Dm) (keep : Int) (t i : Nat) : List (List Int) :=
  if (min (max keep 0) (i : Int)).toNat < i then tornS (layK D.secs D.q (min (max keep 0) (i : Int)).toNat) (D.q.getD (min (max keep 0) (i : Int)).toNat (0, [])) t
  else layK D.secs D.q (min (max keep 0) (i : Int)).toNat
theorem crC_length (D : Dm) (keep : Int) (t i : Nat) : (crC D keep t i).length = D.secs.length := by
  unfold crC
  split
  · rw [tornS_length, layK_length]
  · rw [layK_length]
theorem crC_zero (D : Dm) (keep : Int) (t : Nat) : crC D keep t 0 = D.secs := by
  have e : (min (max keep 0) ((0 : Nat) : Int)).toNat = 0 := by omega
  unfold crC
  rw [e, if_neg (by omega)]
  rfl
theorem tornS_full (secs : List (List Int)) (x : Int × List Int) (hs : ∀ s ∈ secs, s.length = 64) (hx : x.2.length = 64) (ha : x.1.toNat < secs.length) : tornS secs x 64 = secs.set x.1.toNat x.2 := by
  unfold tornS
  rw [List.take_of_length_le (by omega), List.getD_eq_getElem?_getD, List.getElem?_eq_getElem ha, Option.getD_some, List.drop_of_length_le (by rw [hs _ (List.getElem_mem ha)]; exact Nat.le_refl _), List.append_nil]
theorem layK_each {secs : List (List Int)} (hs : ∀ s ∈ secs, s.length = 64) (q : List (Int × List Int)) (hq : ∀ x ∈ q, x.2.length = 64) : ∀ k, k ≤ q.length → ∀ s ∈ layK secs q k, s.length = 64
  | 0, _ => hs
  | k + 1, h => by
    obtain ⟨x, hx⟩ : ∃ x, q[k]? = some x := ⟨_, List.getElem?_eq_getElem (by omega)⟩
    rw [layK_succ hx]
    intro s hm
    rcases List.mem_or_eq_of_mem_set hm with hm | rfl
    · exact layK_each hs q hq k (by omega) s hm
    · exact hq x (List.mem_of_getElem? hx)
theorem crC_first {D : Dm} {keep : Int} {t i : Nat} (hi : (i : Int) < keep) : crC D keep t i = layK D.secs D.q i := by
  have e : (min (max keep 0) (i : Int)).toNat = i := by omega
  unfold crC
  rw [e, if_neg (by omega)]
theorem crC_step1 {D : Dm} {keep : Int} {t i : Nat} (hi : (i : Int) < keep) {x : Int × List Int} (hx : D.q[i]? = some x) : crC D keep t (i + 1) = (layK D.secs D.q i).set x.1.toNat x.2 := by
  have e : (min (max keep 0) ((i + 1 : Nat) : Int)).toNat = i + 1 := by omega
  unfold crC
  rw [e, if_neg (by omega), layK_succ hx]
theorem crC_at {D : Dm} {keep : Int} {t i : Nat} (hi : (i : Int) = max keep 0) : crC D keep t i = layK D.secs D.q i := by
  have e : (min (max keep 0) (i : Int)).toNat = i := by omega
  unfold crC
  rw [e, if_neg (by omega)]
theorem crC_step2 {D : Dm} {keep : Int} {t i : Nat} (hi : (i : Int) = max keep 0) {x : Int × List Int} (hx : D.q[i]? = some x) : crC D keep t (i + 1) = tornS (layK D.secs D.q i) x t := by
  have e : (min (max keep 0) ((i + 1 : Nat) : Int)).toNat = i := by omega
  unfold crC
  rw [e, if_pos (by omega), List.getD_eq_getElem?_getD, hx, Option.getD_some]
theorem crC_step3 {D : Dm} {keep : Int} {t i : Nat} (hi : max keep 0 < (i : Int)) : crC D keep t (i + 1) = crC D keep t i := by
  have e : (min (max keep 0) ((i + 1 : Nat) : Int)).toNat = (max keep 0).toNat := by omega
  have e2 : (min (max keep 0) (i : Int)).toNat = (max keep 0).toNat := by omega
  unfold crC
  rw [e, e2, if_pos (by omega), if_pos (by omega)]
theorem crC_end (D : Dm) (keep : Int) (t : Nat) : crC D keep t D.q.length = crashSecs D (keepS D keep) t := by
  unfold crC crashSecs
  have e : keepS D keep = (min (max keep 0) (D.q.length : Int)).toNat := rfl
  rw [e]
  by_cases c : (min (max keep 0) (D.q.length : Int)).toNat < D.q.length
  · rw [if_pos c, List.getD_eq_getElem?_getD, List.getElem?_eq_getElem c]
    rfl
  · rw [if_neg c, List.getElem?_eq_none (by omega)]
set_option maxRecDepth 100000 in
theorem r_Crash_on (h : Rf w r g bc qv D) (ho : D.on = true) (keep torn : Int) : Calls Try.prog 38 #[.pointer (some ⟨r, 0, none⟩), .int .i64 keep, .int .i64 torn] w fun e w' =>
    e = .returned (.tuple #[]) ∧ Rf w' r g bc (.slice none 0 0) (crashS D keep torn) ∧ Kept (fun k => k = r ∨ k = g) w w' := by
  obtain ⟨_, _, c2, _⟩ := h.cells
  rw [ho] at c2
  have z2 := h.frozen 2
  have h1 : Rf (w.setCell ⟨r, 2, none⟩ (.bool true)) r g bc qv { D with on := false } := h.field 2 _ rfl rfl h.fz (fun fk ft hf => ⟨fk, ft, rfl, hf⟩)
  have hK1 : Kept (fun k => k = r ∨ k = g) w (w.setCell ⟨r, 2, none⟩ (.bool true)) := (Kept.refl _ _).setCell (a := ⟨r, 2, none⟩) (fun _ => .inl rfl) _
  have H := Lib.hid (And.intro h (And.intro ho (And.intro h1 hK1)))
  clear h ho h1 hK1
  go_enter Try.func38, Try.ntmps38
  go_wp2_with fail
  clear c2 z2
  go_loopw [6] (fun v wr => ∃ i : Nat, i ≤ D.q.length ∧ v = .int .i64 i ∧ Rf wr r g bc qv { D with on := false, secs := crC D keep (tornT torn) i } ∧ Kept (fun k => k = r ∨ k = g) w wr) (fun v _ => D.q.length - (intOf v).toNat)
  case atStart => exact ⟨0, Nat.zero_le _, rfl, by rw [crC_zero]; exact H.out.2.2.1, H.out.2.2.2⟩
  case round =>
    obtain ⟨i, hi, rfl, hrf, hK⟩ := hrel
    obtain ⟨h, ho, _, _⟩ := H.out
    obtain ⟨qa, cap, hqq, hcq, hmq, hsome⟩ := h.que_form
    obtain ⟨_, c1, _⟩ := hrf.cells
    rw [hqq] at c1
    by_cases hil : i < D.q.length
    · have d1 : decide (i < D.q.length) = true := decide_eq_true hil
      have hi1 : Hid (i + 1 ≤ D.q.length) := Lib.hid (by omega)
      obtain ⟨qb, rfl⟩ := hsome (by omega)
      obtain ⟨x, hx⟩ : ∃ x, D.q[i]? = some x := ⟨_, List.getElem?_eq_getElem hil⟩
      obtain ⟨xa, s⟩ := x
      have hf := h.fits _ (List.mem_of_getElem? hx)
      simp only at hf
      obtain ⟨a, rfl⟩ := Int.eq_ofNat_of_zero_le hf.1
      obtain ⟨b0, b1⟩ := hrf.qcell hqq (i := i) (x := ((a : Int), s)) hx
      have hla : a < (crC D keep (tornT torn) i).length := by rw [crC_length]; omega
      have hLay : ∀ n : Int, Calls Try.prog 43 #[.pointer (some ⟨r, 0, none⟩), .agg #[.int .i64 a, .string (strOfNums s)], .int .i64 n] wr fun e w' => e = .returned (.tuple #[]) ∧ Rf w' r g bc qv { D with on := false, secs := tornS (crC D keep (tornT torn) i) ((a : Int), s) (tornT n) } ∧ Kept (fun k => k = r ∨ k = g) w w' := fun n =>
        (c_lay hrf a s hf.2.2 hla (h.rng _ (List.mem_of_getElem? hx)) n).mono fun e w' ⟨he, hr', hk'⟩ => ⟨he, hr', hK.trans hk' (fun _ _ e => .inr e)⟩
      replace hLay := Lib.hid hLay
      have j1 : (0 : Int) ≤ (i : Int) := by omega
      have hE := Lib.hid (show (i : Int) < keep → tornS (crC D keep (tornT torn) i) ((a : Int), s) (tornT 64) = crC D keep (tornT torn) (i + 1) by
        intro hk
        rw [crC_step1 hk hx, crC_first hk, show tornT 64 = 64 from rfl]
        exact tornS_full _ _ (layK_each h.each D.q (fun y hy => (h.fits y hy).2.2) i (by omega)) hf.2.2 (by simp only [layK_length, Int.toNat_natCast]; omega))
      have hE2 := Lib.hid (show (i : Int) = max keep 0 → tornS (crC D keep (tornT torn) i) ((a : Int), s) (tornT torn) = crC D keep (tornT torn) (i + 1) by
        intro hk
        rw [crC_step2 hk hx, crC_at hk])
      have HX := Lib.hid (And.intro hrf hK)
      clear hrf hK hx hf hqq hla h ho hsome
      by_cases k1 : (i : Int) < keep
      · have d2 : decide ((i : Int) < keep) = true := decide_eq_true k1
        go_wp2_with (go_at_call 43; refine (hLay.out _).mono ?_; rintro e w2 ⟨rfl, hr2⟩; have HR := Lib.hid hr2; clear hr2)
        have hF := HR.out
        rw [hE.out k1] at hF
        exact ⟨⟨i + 1, hi1.out, by simp, hF⟩, by have := hi1.out; simp [intOf]; omega⟩
      · have d2 : decide ((i : Int) < keep) = false := decide_eq_false k1
        by_cases k2 : (i : Int) = max keep 0
        · by_cases k3 : keep < 0
          · have d3 : decide (keep < 0) = true := decide_eq_true k3
            have d4 : ((i : Int) == keep) = false := by simp; omega
            have d5 : ((i : Int) == 0) = true := by simp; omega
            have HE := Lib.hid (hE2.out k2)
            clear k1 k2
            go_wp2_with (go_at_call 43; refine (hLay.out _).mono ?_; rintro e w2 ⟨rfl, hr2⟩; have HR := Lib.hid hr2; clear hr2)
            have hF := HR.out
            rw [HE.out] at hF
            exact ⟨⟨i + 1, hi1.out, by simp, hF⟩, by have := hi1.out; simp [intOf]; omega⟩
          · have d4 : ((i : Int) == keep) = true := by simp; omega
            have HE := Lib.hid (hE2.out k2)
            clear k1 k2
            go_wp2_with (go_at_call 43; refine (hLay.out _).mono ?_; rintro e w2 ⟨rfl, hr2⟩; have HR := Lib.hid hr2; clear hr2)
            have hF := HR.out
            rw [HE.out] at hF
            exact ⟨⟨i + 1, hi1.out, by simp, hF⟩, by have := hi1.out; simp [intOf]; omega⟩
        · have d4 : ((i : Int) == keep) = false := by simp; omega
          have HE := Lib.hid (crC_step3 (D := D) (t := tornT torn) (show max keep 0 < (i : Int) by omega))
          by_cases k3 : keep < 0
          · have d3 : decide (keep < 0) = true := decide_eq_true k3
            have d5 : ((i : Int) == 0) = false := by simp; omega
            clear k1 k2
            go_wp2_with fail
            have hF := HX.out
            rw [← HE.out] at hF
            exact ⟨⟨i + 1, hi1.out, by simp, hF⟩, by have := hi1.out; simp [intOf]; omega⟩
          · have d3 : decide (keep < 0) = false := decide_eq_false k3
            clear k1 k2
            go_wp2_with fail
            have hF := HX.out
            rw [← HE.out] at hF
            exact ⟨⟨i + 1, hi1.out, by simp, hF⟩, by have := hi1.out; simp [intOf]; omega⟩
    · obtain rfl : i = D.q.length := by omega
      have d1 : decide (D.q.length < D.q.length) = false := by simp
      have z1 := hrf.frozen 1
      have HX := Lib.hid (And.intro hrf (And.intro hK (And.intro ho hqq)))
      clear hrf hK ho hqq h hsome
      go_wp2_with fail
      obtain ⟨hrf, hK, ho, hqq⟩ := HX.out
      refine ⟨rfl, _, results_void rfl _ _, rfl, ?_, hK.setCell (a := ⟨r, 1, none⟩) (fun _ => .inl rfl) _⟩
      have hD : crashS D keep torn = { D with secs := crC D keep (tornT torn) D.q.length, q := [], on := false } := by
        unfold crashS
        rw [if_pos ho, crC_end]
      rw [hD]
      obtain ⟨fk, ft, hrow, hfk⟩ := hrf.row
      have hk : ∀ k, k ≠ r → (wr.setCell ⟨r, 1, none⟩ (.slice none 0 0)).heap[k]? = wr.heap[k]? := fun k hk => Below.heap_setCell _ _ _ _ hk
      exact ⟨⟨fk, ft, heap_setCell_same wr r 1 _ _ _ hrow, hfk⟩, ownsRow_at hrf.b (fun k e => hk k (by cases e; exact hrf.rg.symm)), ⟨rfl, .inl ⟨rfl, rfl⟩⟩, hrf.rg, by simp [Value.ownBlock], by simp [Value.ownBlock], hrf.each, hrf.len, by simp, hrf.fz, by simp⟩
end Go.Proofs.YtcbaflnmfiofeaaDk
namespace Go.Proofs.YtcbaflnmfiofeaaDk
open Go.RowKit Go.Maps Go.Proofs.YtcbaflnmfiofeaaKp Go.Proofs.YtcbaflnmfiofeaaCm
set_option linter.unusedVariables false
set_option linter.unusedSimpArgs false
variable {w w1 : World} {r g bc : Nat} {qv : Value} {D : Dm}
/-- where the reference's queue has gone -/
def Went (w : World) (qv qv' : Value) : Prop := ∀ k, qv'.ownBlock = some k → qv.ownBlock = some k ∨ w.heap.size ≤ k
theorem Went.refl (w : World) (qv : Value) : Went w qv qv := fun _ h => .inl h
theorem Went.nil (w : World) (qv : Value) : Went w qv (.slice none 0 0) := fun _ e => by simp [Value.ownBlock] at e
theorem r_Crash_off (h : Rf w r g bc qv D) (ho : D.on = false) (keep torn : Int) : Calls Try.prog 38 #[.pointer (some ⟨r, 0, none⟩), .int .i64 keep, .int .i64 torn] w fun e w' => e = .returned (.tuple #[]) ∧ w' = w := by
  obtain ⟨_, _, c2, _⟩ := h.cells
  rw [ho] at c2
  clear h ho
  go_enter Try.func38, Try.ntmps38
  go_wp2_with fail
  exact ⟨rfl, _, results_void rfl _ _, rfl, rfl⟩
theorem keptR {F : Nat → Prop} (h : Kept (fun k => k = r ∨ k = g) w w1) : Kept (rfp r g qv) w w1 := h.mono fun i _ e => e.elim .inl (fun e => .inr (.inl e))
theorem r_Crash (h : Rf w r g bc qv D) (keep torn : Int) : Calls Try.prog 38 #[.pointer (some ⟨r, 0, none⟩), .int .i64 keep, .int .i64 torn] w fun e w' =>
    e = .returned (.tuple #[]) ∧ ∃ qv', Rf w' r g bc qv' (crashS D keep torn) ∧ Kept (rfp r g qv) w w' ∧ Went w qv qv' := by
  cases ho : D.on
  · exact (r_Crash_off h ho keep torn).mono fun e w' ⟨he, hw⟩ => by subst hw; exact ⟨he, qv, by unfold crashS; rw [if_neg (by rw [ho]; simp)]; exact h, Kept.refl _ _, Went.refl _ _⟩
  · exact (r_Crash_on h ho keep torn).mono fun e w' ⟨he, hr, hk⟩ => ⟨he, _, hr, keptR (F := fun _ => True) hk, Went.nil _ _⟩
theorem r_burn_none (h : Rf w r g bc qv D) (hf : D.fset = false) : Calls Try.prog 42 #[.pointer (some ⟨r, 0, none⟩)] w fun e w' => e = .returned (.bool false) ∧ w' = w := by
  obtain ⟨_, _, _, c3, _⟩ := h.cells
  rw [hf] at c3
  simp only [Bool.false_eq_true, if_false] at c3
  clear h hf
  go_enter Try.func42, Try.ntmps42
  go_wp2_with fail
  go_ret
  exact ⟨rfl, rfl⟩
theorem r_burn_some (h : Rf w r g bc qv D) (hf : D.fset = true) (hn : 0 < D.fn) (hm : D.fn ≤ 9223372036854775807) : Calls Try.prog 42 #[.pointer (some ⟨r, 0, none⟩)] w fun e w' => e = .returned (.bool false) ∧
    Rf w' r g bc qv { D with fn := D.fn - 1 } ∧ Kept (fun k => k = r) w w' := by
  obtain ⟨_, _, _, c3, _⟩ := h.cells
  rw [hf] at c3
  simp only [if_true] at c3
  have z3 := h.frozen 3
  have d1 : decide (D.fn < 0) = false := decide_eq_false (by omega)
  have d2 : (D.fn == 0) = false := by simp; omega
  have hw : IntKind.i64.wrap (D.fn - 1) = D.fn - 1 := by rw [IntKind.wrap_i64]; omega
  have H := Lib.hid (And.intro h (And.intro hf hn))
  clear h hf hn
  go_enter Try.func42, Try.ntmps42
  go_wp2_with fail
  go_ret
  obtain ⟨h, hf, hn⟩ := H.out
  exact ⟨rfl, h.field 3 _ rfl rfl (fun _ => by simp only; omega) (fun fk ft hfk => ⟨fk, ft, by simp [rrow, hf], hfk⟩), (Kept.refl (fun k => k = r) w).setCell (a := ⟨r, 3, none⟩) (fun _ => rfl) _⟩
theorem r_burn_fail (h : Rf w r g bc qv D) (ho : D.on = true) (hf : D.fset = true) (hn : D.fn ≤ 0) : Calls Try.prog 42 #[.pointer (some ⟨r, 0, none⟩)] w fun e w' => e = .returned (.bool true) ∧
    Rf w' r g bc (.slice none 0 0) (burnedS D) ∧ Kept (fun k => k = r ∨ k = g) w w' := by
  have h0 : D.fn = 0 := by have := h.fz hf; omega
  obtain ⟨_, _, _, c3, _⟩ := h.cells
  rw [hf, h0] at c3
  simp only [if_true] at c3
  have z3 := h.frozen 3
  obtain ⟨fk, ft, hrow, hfk⟩ := h.row
  obtain ⟨rfl, rfl⟩ := hfk hf
  have c4 : w.cell? ⟨r, 4, none⟩ = some (.int .i64 D.fk) := (cell_of_row _ _ _ _ _ _ hrow).trans rfl
  have c5 : w.cell? ⟨r, 5, none⟩ = some (.int .i64 D.ft) := (cell_of_row _ _ _ _ _ _ hrow).trans rfl
  have h1 : Rf (w.setCell ⟨r, 3, none⟩ (.int .i64 (-1))) r g bc qv { D with fset := false, fn := 0, fk := 0, ft := 0 } := h.field 3 _ rfl rfl (fun e => by cases e) (fun fk ft hfk => ⟨fk, ft, by simp [rrow], fun e => by cases e⟩)
  have h2 : Rf (w.setCell ⟨r, 3, none⟩ (.int .i64 (-1))).drew r g bc qv { D with fset := false, fn := 0, fk := 0, ft := 0 } := h1.at (fun _ _ => rfl)
  have k1 := Lib.hid (r_Crash_on h2 ho D.fk D.ft)
  have hK : Kept (fun k => k = r ∨ k = g) w (w.setCell ⟨r, 3, none⟩ (.int .i64 (-1))).drew := ((Kept.refl _ _).setCell (a := ⟨r, 3, none⟩) (fun _ => .inl rfl) _).drew
  have H := Lib.hid hK
  have c4' : (w.setCell ⟨r, 3, none⟩ (.int .i64 (-1))).cell? ⟨r, 4, none⟩ = some (.int .i64 D.fk) := (World.cell?_setCell_other _ _ _ _ (by simp)).trans c4
  have c5' : (w.setCell ⟨r, 3, none⟩ (.int .i64 (-1))).cell? ⟨r, 5, none⟩ = some (.int .i64 D.ft) := (World.cell?_setCell_other _ _ _ _ (by simp)).trans c5
  clear h ho hf hn h0 hrow hfk h1 h2 hK
  go_enter Try.func42, Try.ntmps42
  go_wp2_with fail
  generalize (w.setCell ⟨r, 3, none⟩ (.int .i64 (-1))) = W at *
  go_still_tail 9, (by kernel_rfl)
  change wpList _ _ _ _ _ W.drew
  go_wp2_with (go_at_call 38; refine k1.out.mono ?_; rintro e w2 ⟨rfl, hr2⟩; have HR := Lib.hid hr2; clear hr2)
  go_ret
  exact ⟨rfl, HR.out.1, H.out.trans HR.out.2 (fun _ _ e => e)⟩
theorem r_Room (h : Rf w r g bc qv D) (n : Int) : Calls Try.prog 39 #[.pointer (some ⟨r, 0, none⟩), .int .i64 n] w fun e w' => e = .returned (.tuple #[]) ∧ Rf w' r g bc qv { D with room := roomS n } ∧ Kept (fun k => k = r) w w' := by
  obtain ⟨_, _, _, _, c6, _⟩ := h.cells
  have z6 := h.frozen 6
  have H := Lib.hid h
  clear h
  by_cases hn : n < 0
  · have d1 : decide (n < 0) = true := decide_eq_true hn
    have hr : roomS n = -1 := by unfold roomS; split <;> omega
    replace hr := Lib.hid hr
    go_enter Try.func39, Try.ntmps39
    go_wp2_with fail
    refine ⟨rfl, _, results_void rfl _ _, rfl, ?_, ?_⟩
    · rw [hr.out]
      exact (H.out.field (D' := { D with room := n }) 6 _ rfl rfl H.out.fz (fun fk ft hf => ⟨fk, ft, rfl, hf⟩)).field 6 _ rfl rfl H.out.fz (fun fk ft hf => ⟨fk, ft, rfl, hf⟩)
    · exact ((Kept.refl (fun k => k = r) w).setCell (a := ⟨r, 6, none⟩) (fun _ => rfl) _).setCell (a := ⟨r, 6, none⟩) (fun _ => rfl) _
  · have d1 : decide (n < 0) = false := decide_eq_false hn
    have hr : roomS n = n := by unfold roomS; split <;> omega
    replace hr := Lib.hid hr
    go_enter Try.func39, Try.ntmps39
    go_wp2_with fail
    refine ⟨rfl, _, results_void rfl _ _, rfl, ?_, ?_⟩
    · rw [hr.out]
      exact H.out.field 6 _ rfl rfl H.out.fz (fun fk ft hf => ⟨fk, ft, rfl, hf⟩)
    · exact (Kept.refl (fun k => k = r) w).setCell (a := ⟨r, 6, none⟩) (fun _ => rfl) _
theorem r_SetFuse (h : Rf w r g bc qv D) (n k t : Int) : Calls Try.prog 40 #[.pointer (some ⟨r, 0, none⟩), .int .i64 n, .int .i64 k, .int .i64 t] w fun e w' => e = .returned (.tuple #[]) ∧ Rf w' r g bc qv (fuseS D n k t) ∧ Kept (fun k => k = r) w w' := by
  obtain ⟨fk, ft, hrow, hfk⟩ := h.row
  have c3 : ∃ v, w.cell? ⟨r, 3, none⟩ = some v := ⟨_, (cell_of_row _ _ _ _ _ _ hrow).trans rfl⟩
  obtain ⟨v3, c3⟩ := c3
  have c4 : w.cell? ⟨r, 4, none⟩ = some (.int .i64 fk) := (cell_of_row _ _ _ _ _ _ hrow).trans rfl
  have c5 : w.cell? ⟨r, 5, none⟩ = some (.int .i64 ft) := (cell_of_row _ _ _ _ _ _ hrow).trans rfl
  have z3 := h.frozen 3
  have z4 := h.frozen 4
  have z5 := h.frozen 5
  have H := Lib.hid (And.intro h hrow)
  clear h hrow hfk
  have hall : ∀ n' : Int, Kept (fun k => k = r) w (((w.setCell ⟨r, 3, none⟩ (.int .i64 n')).setCell ⟨r, 4, none⟩ (.int .i64 k)).setCell ⟨r, 5, none⟩ (.int .i64 t)) := fun n' =>
    (((Kept.refl (fun k => k = r) w).setCell (a := ⟨r, 3, none⟩) (fun _ => rfl) _).setCell (a := ⟨r, 4, none⟩) (fun _ => rfl) _).setCell (a := ⟨r, 5, none⟩) (fun _ => rfl) _
  have HK := Lib.hid hall
  clear hall
  have hrf : ∀ (w2 : World) (D' : Dm) (n' : Int), Kept (fun k => k = r) w w2 → w2.heap[r]? = some (.cells (rrow g bc qv D' k t) 75 (0, 0)) → D'.secs = D.secs → D'.q = D.q → (D'.fset = true → 0 ≤ D'.fn ∧ D'.fk = k ∧ D'.ft = t) → Rf w2 r g bc qv D' := fun w2 D' n' hk hr hs hq hz => by
    have h := H.out.1
    have hkb : ∀ j, rfp r g qv j → j ≠ r → w2.heap[j]? = w.heap[j]? := fun j hj hn => hk.block j (h.lt j hj) hn
    exact ⟨⟨k, t, hr, fun e => ⟨(hz e).2.1.symm, (hz e).2.2.symm⟩⟩, by rw [hs]; exact ownsRow_at h.b (fun j e => hkb j (.inr (.inl (by cases e; rfl))) (by cases e; exact h.rg.symm)), by rw [hq]; exact ownsRow_at h.q (fun j e => hkb j (.inr (.inr e)) (fun e' => h.qr (by rw [e, e']))),
      h.rg, h.qr, h.qg, by rw [hs]; exact h.each, by rw [hs]; exact h.len, by rw [hs, hq]; exact h.fits, fun e => (hz e).1, by rw [hq]; exact h.rng⟩
  have HR := Lib.hid hrf
  clear hrf
  have hrow3 : ∀ n' : Int, (((w.setCell ⟨r, 3, none⟩ (.int .i64 n')).setCell ⟨r, 4, none⟩ (.int .i64 k)).setCell ⟨r, 5, none⟩ (.int .i64 t)).heap[r]? = some (.cells ((((rrow g bc qv D fk ft).setIfInBounds 3 (.int .i64 n')).setIfInBounds 4 (.int .i64 k)).setIfInBounds 5 (.int .i64 t)) 75 (0, 0)) := fun n' =>
    heap_setCell_same _ r 5 _ _ _ (heap_setCell_same _ r 4 _ _ _ (heap_setCell_same w r 3 _ _ _ H.out.2))
  have HW := Lib.hid hrow3
  clear hrow3
  by_cases hn : n < 0
  · have d1 : decide (n < 0) = true := decide_eq_true hn
    have hf : fuseS D n k t = { D with fset := false, fn := 0, fk := 0, ft := 0 } := by unfold fuseS; rw [if_pos hn]
    replace hf := Lib.hid hf
    go_enter Try.func40, Try.ntmps40
    go_wp2_with fail
    refine ⟨rfl, _, results_void rfl _ _, rfl, ?_, ?_⟩
    · rw [hf.out]
      refine HR.out _ _ n ((HK.out n).setCell (a := ⟨r, 3, none⟩) (fun _ => rfl) _) ?_ rfl rfl (fun e => by cases e)
      rw [heap_setCell_same _ r 3 _ _ _ (HW.out n)]
      simp [rrow]
    · exact (HK.out n).setCell (a := ⟨r, 3, none⟩) (fun _ => rfl) _
  · have d1 : decide (n < 0) = false := decide_eq_false hn
    have hf : fuseS D n k t = { D with fset := true, fn := n, fk := k, ft := t } := by unfold fuseS; rw [if_neg hn]
    replace hf := Lib.hid hf
    go_enter Try.func40, Try.ntmps40
    go_wp2_with fail
    refine ⟨rfl, _, results_void rfl _ _, rfl, ?_, ?_⟩
    · rw [hf.out]
      refine HR.out _ _ n (HK.out n) ?_ rfl rfl (fun e => ⟨by simp only; omega, rfl, rfl⟩)
      rw [HW.out n]
      simp [rrow]
    · exact HK.out n
end Go.Proofs.YtcbaflnmfiofeaaDk
namespace Go.Proofs.YtcbaflnmfiofeaaDk
open Go.RowKit Go.Maps Go.Proofs.YtcbaflnmfiofeaaKp Go.Proofs.YtcbaflnmfiofeaaCm
set_option linter.unusedVariables false
set_option linter.unusedSimpArgs false
variable {w w1 : World} {r g bc : Nat} {qv : Value} {D : Dm}
theorem r_Sync_off (h : Rf w r g bc qv D) (ho : D.on = false) : Calls Try.prog 37 #[.pointer (some ⟨r, 0, none⟩)] w fun e w' => e = .returned (.int .i64 80) ∧ w' = w := by
  obtain ⟨_, _, c2, _⟩ := h.cells
  rw [ho] at c2
  clear h ho
  go_enter Try.func37, Try.ntmps37
  go_wp2_with fail
  go_ret
  exact ⟨rfl, rfl⟩
theorem r_Sync_burn (h : Rf w r g bc qv D) (ho : D.on = true) (hf : D.fset = true) (hn : D.fn ≤ 0) : Calls Try.prog 37 #[.pointer (some ⟨r, 0, none⟩)] w fun e w' => e = .returned (.int .i64 80) ∧
    Rf w' r g bc (.slice none 0 0) (burnedS D) ∧ Kept (fun k => k = r ∨ k = g) w w' := by
  obtain ⟨_, _, c2, _⟩ := h.cells
  rw [ho] at c2
  have k1 := Lib.hid (r_burn_fail h ho hf hn)
  clear h ho hf hn
  go_enter Try.func37, Try.ntmps37
  go_wp2_with (go_at_call 42; refine k1.out.mono ?_; rintro e w2 ⟨rfl, hr2⟩; have HR := Lib.hid hr2; clear hr2)
  go_ret
  exact ⟨rfl, HR.out⟩
set_option maxRecDepth 100000 in
theorem r_Sync_go {D1 : Dm} (h : Rf w r g bc qv D) (ho : D.on = true)
    (kb : Calls Try.prog 42 #[.pointer (some ⟨r, 0, none⟩)] w fun e w' => e = .returned (.bool false) ∧ Rf w' r g bc qv D1 ∧ Kept (fun k => k = r) w w') :
    Calls Try.prog 37 #[.pointer (some ⟨r, 0, none⟩)] w fun e w' => e = .returned (.int .i64 0) ∧
      Rf w' r g bc (.slice none 0 0) { D1 with secs := layK D1.secs D1.q D1.q.length, q := [] } ∧ Kept (fun k => k = r ∨ k = g) w w' := by
  obtain ⟨_, _, c2, _⟩ := h.cells
  rw [ho] at c2
  have k1 := Lib.hid kb
  clear kb h ho
  go_enter Try.func37, Try.ntmps37
  go_wp2_with (go_at_call 42; refine k1.out.mono ?_; rintro e w2 ⟨rfl, hr2⟩; have H := Lib.hid hr2; clear hr2)
  clear c2 k1
  go_loopw [3] (fun v wr => ∃ i : Nat, i ≤ D1.q.length ∧ v = .int .i64 i ∧ Rf wr r g bc qv { D1 with secs := layK D1.secs D1.q i } ∧ Kept (fun k => k = r ∨ k = g) w wr) (fun v _ => D1.q.length - (intOf v).toNat)
  case atStart => exact ⟨0, Nat.zero_le _, rfl, H.out.1, H.out.2.mono (fun _ _ e => .inl e)⟩
  case round =>
    obtain ⟨i, hi, rfl, hrf, hK⟩ := hrel
    have h := H.out.1
    obtain ⟨qa, cap, hqq, hcq, hmq, hsome⟩ := h.que_form
    obtain ⟨_, c1, _⟩ := hrf.cells
    rw [hqq] at c1
    by_cases hil : i < D1.q.length
    · have d1 : decide (i < D1.q.length) = true := decide_eq_true hil
      have hi1 : Hid (i + 1 ≤ D1.q.length) := Lib.hid (by omega)
      obtain ⟨qb, rfl⟩ := hsome (by omega)
      obtain ⟨x, hx⟩ : ∃ x, D1.q[i]? = some x := ⟨_, List.getElem?_eq_getElem hil⟩
      obtain ⟨xa, s⟩ := x
      have hf := h.fits _ (List.mem_of_getElem? hx)
      simp only at hf
      obtain ⟨a, rfl⟩ := Int.eq_ofNat_of_zero_le hf.1
      obtain ⟨b0, b1⟩ := hrf.qcell hqq (i := i) (x := ((a : Int), s)) hx
      have hla : a < (layK D1.secs D1.q i).length := by rw [layK_length]; omega
      have hE : tornS (layK D1.secs D1.q i) ((a : Int), s) (tornT 64) = layK D1.secs D1.q (i + 1) := by
        rw [layK_succ hx, show tornT 64 = 64 from rfl]
        exact tornS_full _ _ (layK_each h.each D1.q (fun y hy => (h.fits y hy).2.2) i (by omega)) hf.2.2 (by simpa using hla)
      have hLay := (c_lay hrf a s hf.2.2 hla (h.rng _ (List.mem_of_getElem? hx)) 64).mono (R' := fun e w' => e = .returned (.tuple #[]) ∧ Rf w' r g bc qv { D1 with secs := layK D1.secs D1.q (i + 1) } ∧ Kept (fun k => k = r ∨ k = g) w w') fun e w' ⟨he, hr', hk'⟩ => ⟨he, by rw [← hE]; exact hr', hK.trans hk' (fun _ _ e => .inr e)⟩
      replace hLay := Lib.hid hLay
      have j1 : (0 : Int) ≤ (i : Int) := by omega
      clear hrf hK hx hf hqq hla h hsome hE
      go_wp2_with (go_at_call 43; refine hLay.out.mono ?_; rintro e w3 ⟨rfl, hr2⟩; have HR := Lib.hid hr2; clear hr2)
      exact ⟨⟨i + 1, hi1.out, by simp, HR.out⟩, by have := hi1.out; simp [intOf]; omega⟩
    · obtain rfl : i = D1.q.length := by omega
      have d1 : decide (D1.q.length < D1.q.length) = false := by simp
      have z1 := hrf.frozen 1
      have HX := Lib.hid (And.intro hrf hK)
      clear hrf hK hqq h hsome
      go_wp2_with fail
      go_ret
      obtain ⟨hrf, hK⟩ := HX.out
      refine ⟨rfl, ?_, hK.setCell (a := ⟨r, 1, none⟩) (fun _ => .inl rfl) _⟩
      obtain ⟨fk, ft, hrow, hfk⟩ := hrf.row
      have hk : ∀ k, k ≠ r → (wr.setCell ⟨r, 1, none⟩ (.slice none 0 0)).heap[k]? = wr.heap[k]? := fun k hk => Below.heap_setCell _ _ _ _ hk
      exact ⟨⟨fk, ft, heap_setCell_same wr r 1 _ _ _ hrow, hfk⟩, ownsRow_at hrf.b (fun k e => hk k (by cases e; exact hrf.rg.symm)), ⟨rfl, .inl ⟨rfl, rfl⟩⟩, hrf.rg, by simp [Value.ownBlock], by simp [Value.ownBlock], hrf.each, hrf.len, by simp, hrf.fz, by simp⟩
theorem r_Sync (h : Rf w r g bc qv D) (hok : DOk D) : Calls Try.prog 37 #[.pointer (some ⟨r, 0, none⟩)] w fun e w' => e = .returned (.int .i64 (syncE D)) ∧ ∃ qv', Rf w' r g bc qv' (syncD D) ∧ Kept (rfp r g qv) w w' ∧ Went w qv qv' := by
  unfold syncE syncD
  by_cases h1 : D.on = false
  · rw [if_pos h1, if_pos h1]
    exact (r_Sync_off h h1).mono fun e w' ⟨he, hw⟩ => by subst hw; exact ⟨he, qv, h, Kept.refl _ _, Went.refl _ _⟩
  · rw [if_neg h1, if_neg h1]
    have h1 : D.on = true := by simpa using h1
    by_cases h4 : D.fset = true ∧ D.fn ≤ 0
    · rw [if_pos h4, if_pos h4]
      exact (r_Sync_burn h h1 h4.1 h4.2).mono fun e w' ⟨he, hr, hk⟩ => ⟨he, _, hr, keptR (F := fun _ => True) hk, Went.nil _ _⟩
    · rw [if_neg h4, if_neg h4]
      by_cases h5 : D.fset = true
      · rw [if_pos h5]
        exact (r_Sync_go h h1 (r_burn_some h h5 (by have : ¬ D.fn ≤ 0 := fun e2 => h4 ⟨h5, e2⟩; omega) hok.f2)).mono fun e w' ⟨he, hr, hk⟩ => ⟨he, _, hr, keptR (F := fun _ => True) hk, Went.nil _ _⟩
      · rw [if_neg h5]
        exact (r_Sync_go (D1 := D) h h1 ((r_burn_none h (by simpa using h5)).mono fun e w' ⟨he, hw⟩ => by subst hw; exact ⟨he, h, Kept.refl _ _⟩)).mono fun e w' ⟨he, hr, hk⟩ => ⟨he, _, hr, keptR (F := fun _ => True) hk, Went.nil _ _⟩
theorem r_Sectors (h : Rf w r g bc qv D) : Calls Try.prog 41 #[.pointer (some ⟨r, 0, none⟩)] w fun e w' => e = .returned (.int .i64 D.secs.length) ∧ w = w' := by
  obtain ⟨c0, _⟩ := h.cells
  have hl := h.len
  have b1 : (0 : Int) ≤ 64 * (D.secs.length : Int) := by omega
  have b2 : 64 * (D.secs.length : Int) ≤ 4194304 := by omega
  have e3 : wrap64 (D.secs.length : Int) = (D.secs.length : Int) := by unfold wrap64; omega
  have e4 : 64 * (D.secs.length : Int) / 64 = (D.secs.length : Int) := by omega
  clear h
  go_enter Try.func41, Try.ntmps41
  go_wp2_with fail
  go_ret
  exact ⟨rfl, rfl⟩
end Go.Proofs.YtcbaflnmfiofeaaDk
