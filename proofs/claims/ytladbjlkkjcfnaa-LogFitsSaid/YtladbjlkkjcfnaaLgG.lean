/-
  wal: Append on a disk that takes every write. Condition: within bounds.
-/
import Derived.Test.YtladbjlkkjcfnaaLgF
import Derived.Deep.AppendLies
namespace Go.Proofs.YtladbjlkkjcfnaaLg
open Go.RowKit Go.Proofs.YtladbjlkkjcfnaaW.PrintWords Go.Proofs.YtladbjlkkjcfnaaW.PrintMore Go.Proofs.Ytladbjlkkjcfnaa.PU Go.Proofs.YtladbjlkkjcfnaaOc Go.Proofs.YtladbjlkkjcfnaaKp Go.Proofs.YtladbjlkkjcfnaaCm Go.Proofs.YtladbjlkkjcfnaaDk
set_option linter.unusedVariables false
set_option linter.unusedSimpArgs false
variable {w0 w w1 : World} {p l : Nat} {D D' : Dm} {L L' : Lm} {B : List (Nat × Obj)}
theorem put_size (v : Int) (n : Nat) (h1 : 1 ≤ n) (h7 : n ≤ 7) (h0 : 0 ≤ v) (hv : v < 256 ^ n) : (putS v n).1 = strOfNums (beL n v) := by
  unfold putS
  rw [Int.toNat_natCast, if_neg]
  rintro (h | h | h | h)
  · omega
  · omega
  · omega
  · exact h (Int.ediv_eq_zero_of_lt h0 hv)
theorem formS_eq (s : ByteArray) (kind gen place : Int) (hs : s.size ≤ 48) (hg : 0 ≤ gen ∧ gen ≤ 4294967295) (hp : 0 ≤ place ∧ place ≤ 4294967295) :
    formS s kind gen place = strOfNums (beL 4 gen) ++ strOfNums (beL 2 s.size) ++ strOfNums [kind, 0] ++ s ++ zeros (48 - s.size) ++ strOfNums (beL 4 place) ++ strOfNums (beL 4 gen) := by
  unfold formS
  rw [show (4 : Int) = ((4 : Nat) : Int) from rfl, show (2 : Int) = ((2 : Nat) : Int) from rfl, put_size gen 4 (by omega) (by omega) hg.1 (by have := hg.2; omega), put_size place 4 (by omega) (by omega) hp.1 (by have := hp.2; omega), put_size s.size 2 (by omega) (by omega) (by omega) (by omega)]
theorem formS_size (s : ByteArray) (kind gen place : Int) (hs : s.size ≤ 48) (hg : 0 ≤ gen ∧ gen ≤ 4294967295) (hp : 0 ≤ place ∧ place ≤ 4294967295) : (formS s kind gen place).size = 64 := by
  rw [formS_eq s kind gen place hs hg hp]
  simp only [ByteArray.size_append, strOfNums_size, beL_length, zeros_size, List.length_cons, List.length_nil]
  omega
/-- a disk that takes every write; at most k writes wait -/
structure Hl (D : Dm) (k : Nat) : Prop where
  on : D.on = true
  room : D.room = -1
  fset : D.fset = false
  fn : D.fn ≤ 9223372036854775807
  q : D.q.length ≤ k
theorem Hl.ok {k : Nat} (h : Hl D k) (hk : k < 1000000000000) : DOk D := ⟨by rw [h.room]; omega, by rw [h.room]; omega, h.fn, by have := h.q; omega⟩
theorem Hl.up {k j : Nat} (h : Hl D k) (hj : k ≤ j) : Hl D j := ⟨h.on, h.room, h.fset, h.fn, Nat.le_trans h.q hj⟩
theorem hl_write {k : Nat} (h : Hl D k) (a : Int) (s : ByteArray) (ha : 0 ≤ a ∧ a < D.secs.length) (hs : s.size = 64) :
    writeE D a s = 0 ∧ writeD D a s = writeS D a.toNat (bts s) ∧ Hl (writeD D a s) (k + 1) ∧ (writeD D a s).secs = D.secs := by
  have hask : askS D a = 0 := by
    unfold askS
    rw [if_neg (by rw [h.on]; simp), if_neg (by omega)]
  have hr : ¬ D.room = 0 := by rw [h.room]; omega
  have hf : ¬ (D.fset = true ∧ D.fn ≤ 0) := by rw [h.fset]; simp
  have e1 : writeE D a s = 0 := by
    unfold writeE
    rw [if_neg (by rw [hask]; simp), if_neg (by simp [hs]), if_neg hr, if_neg hf]
  have e2 : writeD D a s = writeS D a.toNat (bts s) := by
    unfold writeD
    rw [if_neg (by rw [hask]; simp), if_neg (by simp [hs]), if_neg hr, if_neg hf]
  refine ⟨e1, e2, ?_, by rw [e2]; rfl⟩
  rw [e2]
  refine ⟨h.on, ?_, h.fset, ?_, ?_⟩
  · show (if 0 < D.room then D.room - 1 else D.room) = -1
    rw [if_neg (by rw [h.room]; omega), h.room]
  · show (if D.fset then D.fn - 1 else D.fn) ≤ _
    have := h.fn
    split <;> omega
  · show (D.q ++ [_]).length ≤ _
    rw [List.length_append, List.length_singleton]
    have := h.q
    omega
/-- the disk when i of the pieces are written -/
def wrI (D : Dm) (fr gen used : Int) (parts : List ByteArray) : Nat → Dm
  | 0 => D
  | i + 1 => writeD (wrI D fr gen used parts i) (fr + (used + i)) (formS (parts.getD i ByteArray.empty) (if i + 1 = parts.length then 2 else 1) gen (used + i))
theorem wrI_hl {fr gen used : Int} {parts : List ByteArray} {k : Nat} (h : Hl D k) (hp : ∀ x ∈ parts, x.size ≤ 48) (hg : 0 ≤ gen ∧ gen ≤ 4294967295) (hf : 0 ≤ fr) (hu : 0 ≤ used) (hb : fr + used + parts.length ≤ D.secs.length) (hs : D.secs.length ≤ 65536) :
    ∀ i, i ≤ parts.length → Hl (wrI D fr gen used parts i) (k + i) ∧ (wrI D fr gen used parts i).secs = D.secs
  | 0, _ => ⟨h, rfl⟩
  | i + 1, hi => by
    obtain ⟨h1, h2⟩ := wrI_hl h hp hg hf hu hb hs i (by omega)
    have hx : (parts.getD i ByteArray.empty).size ≤ 48 := by
      rw [List.getD_eq_getElem?_getD, List.getElem?_eq_getElem (by omega), Option.getD_some]
      exact hp _ (List.getElem_mem _)
    obtain ⟨_, _, h3, h4⟩ := hl_write h1 (fr + (used + i)) (formS (parts.getD i ByteArray.empty) (if i + 1 = parts.length then 2 else 1) gen (used + i)) ⟨by omega, by rw [h2]; omega⟩ (formS_size _ _ _ _ hx hg ⟨by omega, by omega⟩)
    exact ⟨by have : k + i + 1 = k + (i + 1) := by omega
              rw [← this]; exact h3, by show (writeD _ _ _).secs = _; rw [h4, h2]⟩
theorem wrI_ok {fr gen used : Int} {parts : List ByteArray} {k : Nat} (h : Hl D k) (hp : ∀ x ∈ parts, x.size ≤ 48) (hg : 0 ≤ gen ∧ gen ≤ 4294967295) (hf : 0 ≤ fr) (hu : 0 ≤ used) (hb : fr + used + parts.length ≤ D.secs.length) (hs : D.secs.length ≤ 65536) (i : Nat) (hi : i < parts.length) :
    writeE (wrI D fr gen used parts i) (fr + (used + i)) (formS (parts.getD i ByteArray.empty) (if i + 1 = parts.length then 2 else 1) gen (used + i)) = 0 := by
  obtain ⟨h1, h2⟩ := wrI_hl h hp hg hf hu hb hs i (by omega)
  have hx : (parts.getD i ByteArray.empty).size ≤ 48 := by
    rw [List.getD_eq_getElem?_getD, List.getElem?_eq_getElem (by omega), Option.getD_some]
    exact hp _ (List.getElem_mem _)
  exact (hl_write h1 _ _ ⟨by omega, by rw [h2]; omega⟩ (formS_size _ _ _ _ hx hg ⟨by omega, by omega⟩)).1
theorem l_pieces (h : Lg w0 w p l D L B) (s : ByteArray) (hs : s.size ≤ 140737488355328) : Calls Try.prog 25 #[.string s] w fun e w' => ∃ g c cs, e = .returned (.slice (some ⟨g, 0, none⟩) (pcs s).length c) ∧ (pcs s).length ≤ c ∧ (∀ (j : Nat) (x : ByteArray), (pcs s)[j]? = some x → cs[j]? = some (.string x)) ∧ Lg w0 w' p l D L ((g, .cells cs 9 (0, 0)) :: B) :=
  (c_pieces s hs w).mono fun e w' ⟨g, c, he, hc, hg, ⟨cs, h1, h2⟩, hb⟩ => ⟨g, c, cs, he, hc, h2, h.join hb hg h1⟩
theorem b_Clone (s : ByteArray) (hs : s.size ≤ 1000000) (w : World) : Calls Try.prog 28 #[.string s] w fun e w' => e = .returned (.string s) ∧ Below w.heap.size w w' := by
  have k1 := Lib.hid (Try.stringslite_Clone s w (by omega))
  go_enter Try.func28, Try.ntmps28
  go_wp2_with (go_at_call 37; refine k1.out.mono ?_; rintro e w2 ⟨rfl, hb⟩; have HB := Lib.hid hb; clear hb)
  go_ret
  exact ⟨rfl, HB.out⟩
theorem infoS : (Try.prog.info? 9).map (fun i => (i.zero, i.size, i.bytes)) = some (some (.string ByteArray.empty), 1, 16) := by kernel_rfl
/-- append, closed to the walk, which goes by its run -/
def apR (a : Array Value) : Sem Value := Builtin.append_ #[34, 34] 34 a
theorem apR_eq (a : Array Value) : Builtin.append_ #[34, 34] 34 a = apR a := rfl
/-- a record joins the row: append's run, and the state behind the store -/
theorem LgV.grow {g m : Nat} {qv rv : Value} (h : LgV w0 w p l D L B g m qv rv) (hb : Below w.heap.size w w1) (x : ByteArray) (hrc : L.recs.length ≤ 65536) :
    ∃ ga cap w9, (apR #[rv, .slice (some ⟨w1.heap.size, 0, none⟩) 1 1]).run Try.prog (w1.alloc (.cells #[.string x] 9)) = .ok (.slice (some ⟨ga, 0, none⟩) (L.recs.length + 1) cap) w9 ∧
      w9.cell? ⟨l, 6, none⟩ = some rv ∧ w9.frozen? ⟨l, 6, none⟩ = false ∧ Lg w0 (w9.setCell ⟨l, 6, none⟩ (.slice (some ⟨ga, 0, none⟩) (L.recs.length + 1) cap)) p l D { L with recs := L.recs ++ [x] } B := by
  obtain ⟨i0, hi0, hz0, hz1, hz2⟩ := info_parts infoS
  have hb2 : Below w.heap.size w (w1.alloc (.cells #[.string x] 9)) := hb.alloc hb.size _
  have h2 := h.b hb2
  obtain ⟨ga, cap, w9, hrun, hown, hgrow, hat, hlt⟩ := run_append_lies (P := Try.prog) (w1.alloc (.cells #[.string x] 9)) 34 34 0 9 i0 _ 1 16 Try.underlying34 hi0 hz0 hz1 hz2 rfl (by omega) rv L.recs.length (txts L.recs) h2.rcs ⟨w1.heap.size, 0, none⟩ 1 1 [.string x] rfl (World.news_of_block (cs := #[.string x]) (t := 9) (fr := (0, 0)) (heap_alloc_new w1 _)) (by simp [Value.oneCell']) (by omega) (by unfold maxLen; omega) (by omega) (Nat.zero_le _) (w1.heap.size + 1) (by simp)
  have K : Kept (fun j => rv.ownBlock = some j) w w9 := (Go.Proofs.YtladbjlkkjcfnaaKp.Kept.of_below hb2).grown hgrow (fun k e _ => e)
  have hrow := K.at h.row h.rl
  refine ⟨ga, cap, w9, hrun, (cell_of_row _ _ _ _ _ _ hrow).trans rfl, frozen_of_row _ _ _ _ _ hrow, h.recd (L' := { L with recs := L.recs ++ [x] }) K _ ?_ ?_ rfl⟩
  · have e1 : (L.recs ++ [x]).length = L.recs.length + 1 := by simp
    have e2 : txts (L.recs ++ [x]) = txts L.recs ++ [.string x] := by simp [txts]
    show w9.ownsRow 0 _ 1 _ (L.recs ++ [x]).length (txts (L.recs ++ [x]))
    rw [e1, e2]
    exact hown
  · intro j hj
    simp only [Value.ownBlock, Option.some.injEq] at hj
    subst hj
    rcases hat with e | e
    · exact .inl e
    · right; have := hb.size; omega
def appL (L : Lm) (rec : ByteArray) : Lm := { L with used := L.used + (pcs rec).length, recs := L.recs ++ [rec] }
def appD (D : Dm) (L : Lm) (rec : ByteArray) : Dm := wrI D L.fr L.gen L.used (pcs rec) (pcs rec).length
theorem l_Append_open (h : Lg w0 w p l D L B) (rec : ByteArray) (hs : rec.size ≤ 140737488355328) (ho : L.op = false) : Calls Try.prog 11 #[.pointer (some ⟨l, 0, none⟩), .string rec] w fun e w' => e = .returned (.int .i64 90) ∧ Lg w0 w' p l D L B := by
  have k1 := Lib.hid (l_pieces h rec hs)
  have HO := Lib.hid ho
  clear h hs ho
  go_enter Try.func11, Try.ntmps11
  go_wp2_with (first
    | (go_at_call 25; refine k1.out.mono ?_; rintro e w2 ⟨g, c, cs, rfl, hc, hcs, hs⟩; have HS := Lib.hid (hs.sub (B' := B) (fun x hx => List.mem_cons_of_mem _ hx)); obtain ⟨c0, c1, c2, c3, c4, c5⟩ := hs.cells; rw [HO.out] at c4; clear hs hcs)
    | (go_at_call 23; refine (l_none HS.out).mono ?_; rintro e w3 ⟨rfl, hw⟩; have hw := hw.symm; subst hw))
  go_ret
  exact ⟨rfl, HS.out⟩
theorem l_Append_full (h : Lg w0 w p l D L B) (hL : LOk L) (rec : ByteArray) (hs : rec.size ≤ 140737488355328) (ho : L.op = true) (hf : L.n - L.used < (pcs rec).length) : Calls Try.prog 11 #[.pointer (some ⟨l, 0, none⟩), .string rec] w fun e w' => e = .returned (.int .i64 83) ∧ Lg w0 w' p l D L B := by
  have k1 := l_pieces h rec hs
  have HO := Lib.hid ho
  generalize (pcs rec).length = N at *
  replace k1 := Lib.hid k1
  have d1 : decide (L.n - L.used < (N : Int)) = true := decide_eq_true hf
  have HL := Lib.hid hL
  clear h hs ho hf hL
  go_enter Try.func11, Try.ntmps11
  go_wp2_with (first
    | (go_at_call 25; refine k1.out.mono ?_; rintro e w2 ⟨g, c, cs, rfl, hc, hcs, hs⟩; have HS := Lib.hid (hs.sub (B' := B) (fun x hx => List.mem_cons_of_mem _ hx)); obtain ⟨c0, c1, c2, c3, c4, c5⟩ := hs.cells; rw [HO.out] at c4; clear hs hcs)
    | (go_at_call 23; refine (l_none HS.out).mono ?_; rintro e w3 ⟨rfl, hw⟩; have hw := hw.symm; subst hw)
    | (go_at_call 13; refine (l_Free HS.out HL.out).mono ?_; rintro e w3 ⟨rfl, hs⟩; have HS3 := Lib.hid hs; clear hs))
  go_ret
  exact ⟨rfl, HS3.out⟩
end Go.Proofs.YtladbjlkkjcfnaaLg
