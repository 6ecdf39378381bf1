/-
  chancerylaw11: alive. chancerylaw11: LogFits, the walk. Condition: none.
-/
import Derived.Test.YtladbjlkkjcfnaaLgJ
namespace Go.Proofs.YtladbjlkkjcfnaaLg
open Go.RowKit Go.Proofs.YtladbjlkkjcfnaaW.PrintWords Go.Proofs.YtladbjlkkjcfnaaW.PrintMore Go.Proofs.Ytladbjlkkjcfnaa.PU Go.Proofs.YtladbjlkkjcfnaaOc Go.Proofs.YtladbjlkkjcfnaaKp Go.Proofs.YtladbjlkkjcfnaaCm Go.Proofs.YtladbjlkkjcfnaaDk
set_option linter.unusedVariables false
set_option linter.unusedSimpArgs false
variable {w0 w w1 : World} {p l : Nat} {D D' : Dm} {L L' : Lm} {B : List (Nat × Obj)}
theorem new_read (N a : Nat) (ha : a < N) : readS (newD N) (a : Int) = strOfNums zsec := by
  have hask : askS (newD N) (a : Int) = 0 := by
    unfold askS
    rw [if_neg (by simp [newD]), if_neg (by simp [newD]; omega)]
  unfold readS
  rw [if_neg (fun e => e hask), Int.toNat_natCast]
  have : readM (newD N) a = some zsec := by
    show (newD N).secs[a]? = some zsec
    simp [newD, ha]
  rw [this]
  rfl
theorem gen_zero : genS (strOfNums zsec) = 0 := by kernel_rfl
theorem open_new (N fr n : Nat) (h : fr < N) : openL (newD N) fr n = ⟨fr, n, 0, false, 0, []⟩ := by
  unfold openL
  rw [new_read N fr h, gen_zero]
  rfl
theorem new_hl (N : Nat) : Hl (newD N) 0 := ⟨rfl, rfl, rfl, by simp [newD], Nat.le_refl _⟩
theorem new_secs (N : Nat) : (newD N).secs.length = N := by simp [newD]
theorem d_Open_new (N : Nat) (h : Ds w0 w p (newD N) B) (fr n : Nat) (hn : 1 ≤ n) (hs : fr + n ≤ N) (h6 : N ≤ 65536) : Calls Try.prog 8 #[.pointer (some ⟨p, 0, none⟩), .int .i64 fr, .int .i64 n] w fun e w' => ∃ l, e = .returned (.tuple #[.pointer (some ⟨l, 0, none⟩), .int .i64 0]) ∧ Lg w0 w' p l (newD N) ⟨fr, n, 0, false, 0, []⟩ B := by
  have := l_Open h rfl fr n hn (by rw [new_secs]; exact hs) (by rw [new_secs]; exact h6)
  rw [open_new N fr n (by omega)] at this
  exact this
@[reducible] def aS : ByteArray := ⟨#[97]⟩
theorem aS_pcs : (pcs aS).length = 1 := by rw [pcs_count]; rfl
def aL0 : Lm := ⟨2, 4, 0, false, 0, []⟩
def aL1 : Lm := ⟨2, 4, 1, true, 0, []⟩
def aL2 : Lm := ⟨2, 4, 1, true, 1, [aS]⟩
theorem aL0_ok : LOk aL0 := ⟨by decide, by decide, by decide, by decide, by decide, by decide, by decide, by decide, by decide⟩
theorem aL1_ok : LOk aL1 := ⟨by decide, by decide, by decide, by decide, by decide, by decide, by decide, by decide, by decide⟩
theorem aL2_ok : LOk aL2 := ⟨by decide, by decide, by decide, by decide, by decide, by decide, by decide, by decide, by decide⟩
theorem aL2_eq : appL aL1 aS = aL2 := by
  unfold appL
  rw [aS_pcs]
  rfl
theorem a_Reset (h : Lg w0 w p l (newD 8) aL0 B) : Calls Try.prog 9 #[.pointer (some ⟨l, 0, none⟩)] w fun e w' => e = .returned (.int .i64 0) ∧ Lg w0 w' p l (newD 8) aL1 B := l_Reset h aL0_ok rfl (by decide)
theorem a_Append (h : Lg w0 w p l (newD 8) aL1 B) : Calls Try.prog 11 #[.pointer (some ⟨l, 0, none⟩), .string aS] w fun e w' => e = .returned (.int .i64 0) ∧ ∃ D, Lg w0 w' p l D aL2 B := by
  have := l_Append h aL1_ok aS (by decide) rfl (by rw [aS_pcs]; decide) (new_hl 8) (by omega) (by rw [new_secs]; decide) (by rw [new_secs]; omega)
  rw [aL2_eq] at this
  exact this.mono fun e w' ⟨he, h⟩ => ⟨he, _, h⟩
theorem c_alive (w : World) : Calls Try.prog 6 #[] w fun e w' => e = .returned (.bool true) ∧ Below w.heap.size w w' := by
  have k1 := Lib.hid (d_New (w0 := w) (Below.refl _ w) 8 (by omega) (by omega))
  have k2 := Lib.hid (fun (w' : World) (p : Nat) (h : Ds w w' p (newD 8) []) => d_Open_new 8 h 2 4 (by omega) (by omega) (by omega))
  go_enter Try.func6, Try.ntmps6
  go_wp2_with (first
    | (go_at_call 7; refine k1.out.mono ?_; rintro e w1 ⟨p, rfl, hs⟩; have HD := Lib.hid hs; clear hs)
    | (go_at_call 8; refine (k2.out _ _ HD.out).mono ?_; rintro e w2 ⟨l, rfl, hs⟩; have HS0 := (Lib.hid (show Lg w w2 p l (newD 8) aL0 [] from hs)); clear hs)
    | (go_at_call 11; with_reducible refine (l_Append_open HS0.out aS (by decide) rfl).mono ?_; rintro e w3 ⟨rfl, hs⟩; clear HS0; have HS1 := Lib.hid hs; clear hs)
    | (go_at_call 9; refine (a_Reset HS1.out).mono ?_; rintro e w4 ⟨rfl, hs⟩; have HS2 := Lib.hid hs; clear hs)
    | (go_at_call 11; with_reducible refine (a_Append HS2.out).mono ?_; rintro e w5 ⟨rfl, D, hs⟩; clear HS2; have HS := Lib.hid hs; clear hs)
    | (go_at_call 13; refine (l_Free HS.out aL2_ok).mono ?_; rintro e w6 ⟨rfl, hs⟩; clear HS; have HS := Lib.hid hs; clear hs)
    | (go_at_call 15; refine (l_Generation HS.out).mono ?_; rintro e w7 ⟨rfl, hw⟩; have hw := hw.symm; subst hw)
    | (go_at_call 12; refine (l_Records HS.out aL2_ok).mono ?_; rintro e w8 ⟨A, c, rfl, _, hb⟩; have HS9 := Lib.hid (HS.out.b hb); clear hb))
  go_ret
  exact ⟨rfl, HS9.out.below⟩
end Go.Proofs.YtladbjlkkjcfnaaLg
namespace Go.Proofs.YtladbjlkkjcfnaaLg
open Go.RowKit Go.Proofs.YtladbjlkkjcfnaaW.PrintWords Go.Proofs.YtladbjlkkjcfnaaW.PrintMore Go.Proofs.Ytladbjlkkjcfnaa.PU Go.Proofs.YtladbjlkkjcfnaaOc Go.Proofs.YtladbjlkkjcfnaaKp Go.Proofs.YtladbjlkkjcfnaaCm Go.Proofs.YtladbjlkkjcfnaaDk
set_option linter.unusedVariables false
set_option linter.unusedSimpArgs false
variable {w0 w w1 : World} {p l : Nat} {D D' : Dm} {L L' : Lm} {B : List (Nat × Obj)}
theorem wrI_writes {fr gen used : Int} {parts : List ByteArray} {k : Nat} (h : Hl D k) (hp : ∀ x ∈ parts, x.size ≤ 48) (hg : 0 ≤ gen ∧ gen ≤ 4294967295) (hf : 0 ≤ fr) (hu : 0 ≤ used) (hb : fr + used + parts.length ≤ D.secs.length) (hs : D.secs.length ≤ 65536) (h0 : D.writes = 0) :
    ∀ i, i ≤ parts.length → (wrI D fr gen used parts i).writes = i
  | 0, _ => h0
  | i + 1, hi => by
    have ih := wrI_writes h hp hg hf hu hb hs h0 i (by omega)
    obtain ⟨h1, h2⟩ := wrI_hl h hp hg hf hu hb hs i (by omega)
    have hx : (parts.getD i ByteArray.empty).size ≤ 48 := by
      rw [List.getD_eq_getElem?_getD, List.getElem?_eq_getElem (by omega), Option.getD_some]
      exact hp _ (List.getElem_mem _)
    have e := (hl_write h1 (fr + (used + i)) (formS (parts.getD i ByteArray.empty) (if i + 1 = parts.length then 2 else 1) gen (used + i)) ⟨by omega, by rw [h2]; omega⟩ (formS_size _ _ _ _ hx hg ⟨by omega, by omega⟩)).2.1
    show (writeD _ _ _).writes = _
    rw [e]
    show wrap64 ((wrI D fr gen used parts i).writes + 1) = _
    rw [ih, w64 (by omega)]
    omega
theorem zeros_eq (k : Nat) : zeros k = strOfNums (List.replicate k 0) := by
  apply ByteArray.ext
  show (List.replicate k (0 : UInt8)).toArray = ((List.replicate k (0 : Int)).map _).toArray
  rw [List.map_replicate]
  rfl
theorem f_Writes (h : Lg w0 w p l D L B) {v : Int} (hv : D.writes = v) : Calls Try.prog 10 #[.pointer (some ⟨p, 0, none⟩)] w fun e w' => e = .returned (.int .i64 v) ∧ w = w' := by
  have := l_Writes h
  rwa [hv] at this
theorem l_alive (h : Lg w0 w p l D L B) : Calls Try.prog 6 #[] w fun e w' => e = .returned (.bool true) ∧ Lg w0 w' p l D L B := h.db (c_alive w)
/-- one record is told -/
theorem l_Records1 (h : Lg w0 w p l D L B) (hL : LOk L) {x : ByteArray} (hx : L.recs = [x]) : Calls Try.prog 12 #[.pointer (some ⟨l, 0, none⟩)] w fun e w' => ∃ g c cs, e = .returned (.slice (some ⟨g, 0, none⟩) 1 c) ∧ cs[0]? = some (.string x) ∧ Lg w0 w' p l D L ((g, .cells cs 9 (0, 0)) :: B) := by
  refine (l_Records h hL).mono fun e w' ⟨A, c, he, ho, hb⟩ => ?_
  rw [hx] at he ho
  obtain ⟨_, ⟨_, e2⟩ | ⟨g, cap, cur, e0, hg, hcur, hn, _, hcs, htk⟩⟩ := ho
  · cases e2
  · simp only [Value.slice.injEq] at e0
    obtain ⟨rfl, _, rfl⟩ := e0
    have hc := txt_cells (l := [x]) hcur htk 0 (by simp)
    rw [cell_of_row _ _ _ _ _ _ hcur] at hc
    exact ⟨g, c, cur, he, hc, h.join hb hg hcur⟩
theorem fits_early (n size : Int) (h : n < 1 ∨ 30 < n ∨ size < 0 ∨ 2000 < size) (w : World) : Calls Try.prog 3 #[.int .i64 n, .int .i64 size] w fun e w' => e = .returned (.bool true) ∧ Below w.heap.size w w' := by
  have ka := Lib.hid c_alive
  by_cases h1 : n < 1
  · have d1 : decide (n < 1) = true := decide_eq_true h1
    clear h
    go_enter Try.func3, Try.ntmps3
    go_wp2_with (go_at_call 6; refine (ka.out _).mono ?_; rintro e w1 ⟨rfl, hb⟩; have HB := Lib.hid hb; clear hb)
    go_ret
    exact ⟨rfl, HB.out⟩
  have d1 : decide (n < 1) = false := decide_eq_false h1
  by_cases h2 : 30 < n
  · have d2 : decide (30 < n) = true := decide_eq_true h2
    clear h
    go_enter Try.func3, Try.ntmps3
    go_wp2_with (go_at_call 6; refine (ka.out _).mono ?_; rintro e w1 ⟨rfl, hb⟩; have HB := Lib.hid hb; clear hb)
    go_ret
    exact ⟨rfl, HB.out⟩
  have d2 : decide (30 < n) = false := decide_eq_false h2
  by_cases h3 : size < 0
  · have d3 : decide (size < 0) = true := decide_eq_true h3
    clear h
    go_enter Try.func3, Try.ntmps3
    go_wp2_with (go_at_call 6; refine (ka.out _).mono ?_; rintro e w1 ⟨rfl, hb⟩; have HB := Lib.hid hb; clear hb)
    go_ret
    exact ⟨rfl, HB.out⟩
  have d3 : decide (size < 0) = false := decide_eq_false h3
  have d4 : decide (2000 < size) = true := decide_eq_true (by omega)
  clear h
  go_enter Try.func3, Try.ntmps3
  go_wp2_with (go_at_call 6; refine (ka.out _).mono ?_; rintro e w1 ⟨rfl, hb⟩; have HB := Lib.hid hb; clear hb)
  go_ret
  exact ⟨rfl, HB.out⟩
theorem info5' : (Try.prog.info? 5).map (fun i => (i.zero, i.size, i.bytes)) = some (some (.int .u8 0), 1, 1) := by kernel_rfl
/-- zeros are made, and told as a string -/
theorem make_zeros (k : Nat) (hk : k ≤ 2000) : ∃ ZS : Array Value, (∀ W, (Instr.makeSlice 31 (.int .i64 (k : Int)) (.int .i64 (k : Int))).run Try.prog W = .ok (.slice (some ⟨W.heap.size, 0, none⟩) k k) (W.alloc (.cells ZS 5))) ∧
    ∀ W : World, (convert 31 9 (.slice (some ⟨W.heap.size, 0, none⟩) k k)).run Try.prog (W.alloc (.cells ZS 5)) = .ok (.string (zeros k)) (W.alloc (.cells ZS 5)) := by
  obtain ⟨i0, hi0, hz0, hz1, hz2⟩ := info_parts info5'
  refine ⟨madeCells #[.int .u8 0] (k * 1), fun W => ?_, fun W => ?_⟩
  · have := run_make (P := Try.prog) W 31 5 i0 _ Try.underlying31 hi0 hz0 .i64 .i64 k k (by omega) (Int.le_refl _) (by rw [hz2]; omega) (by omega)
    simpa [hz1, Value.cells] using this
  · have hrg : (W.alloc (.cells (madeCells #[.int .u8 0] (k * 1)) 5)).rangeAt W.heap.size 0 ((List.replicate k (0 : Int)).map (.int .u8)) := by
      intro j v hv
      rw [List.getElem?_map, Option.map_eq_some_iff] at hv
      obtain ⟨x, hx, rfl⟩ := hv
      have hj : j < k := by have := (List.getElem?_eq_some_iff.1 hx).1; simpa using this
      rw [List.getElem?_replicate, if_pos hj] at hx
      cases hx
      rw [Nat.zero_add, cell_of_row _ _ _ _ _ _ (heap_alloc_new _ _), madeCells, Array.getElem?_map, Array.getElem?_range, if_pos (by omega), Option.map_some]
      have e : j % (#[Value.int .u8 0] : Array Value).size = 0 := Nat.mod_one j
      rw [e]
      rfl
    rw [run_cvN _ _ _ _ Try.underlying31 Try.underlying5 Try.underlying9 _ 0 k k (isStrN_of hrg (by simp)), strN_of hrg (by simp), zeros_eq]
end Go.Proofs.YtladbjlkkjcfnaaLg
