/-
  wal: Open: what is found on a disk. Condition: within bounds.
-/
import Derived.Test.YtladbjlkkjcfnaaLgH
namespace Go.Proofs.YtladbjlkkjcfnaaLg
open Go.RowKit Go.Proofs.YtladbjlkkjcfnaaW.PrintWords Go.Proofs.YtladbjlkkjcfnaaW.PrintMore Go.Proofs.Ytladbjlkkjcfnaa.PU Go.Proofs.YtladbjlkkjcfnaaOc Go.Proofs.YtladbjlkkjcfnaaKp Go.Proofs.YtladbjlkkjcfnaaCm Go.Proofs.YtladbjlkkjcfnaaDk
set_option linter.unusedVariables false
set_option linter.unusedSimpArgs false
variable {w0 w w1 : World} {p l : Nat} {D D' : Dm} {L L' : Lm} {B : List (Nat × Obj)}
/-- a disk of the call's own -/
def Ds (w0 w : World) (p : Nat) (D : Dm) (B : List (Nat × Obj)) : Prop := (∃ g m qv, Dsk w p g m qv D ∧ (∀ k, fp p g m qv k → w0.heap.size ≤ k) ∧ ∀ x ∈ B, w.heap[x.1]? = some x.2 ∧ ¬ fp p g m qv x.1) ∧ Below w0.heap.size w0 w
theorem Lg.ds (h : Lg w0 w p l D L B) : Ds w0 w p D B := by
  obtain ⟨g, m, qv, rv, h⟩ := h
  exact ⟨⟨g, m, qv, h.dsk, fun k hk => (h.fpn k hk).1, fun x hx => ⟨(h.box x hx).1, (h.box x hx).2.1⟩⟩, h.below⟩
theorem Ds.b (h : Ds w0 w p D B) (k : Below w.heap.size w w1) : Ds w0 w1 p D B := by
  obtain ⟨⟨g, m, qv, hd, hn, hB⟩, hb⟩ := h
  exact ⟨⟨g, m, qv, hd.at (fun j hj => k.block j (hd.lt j hj)), hn, fun x hx => ⟨by rw [k.block _ (lt_of_at (hB x hx).1)]; exact (hB x hx).1, (hB x hx).2⟩⟩, hb.trans (k.mono hb.size)⟩
theorem d_New (hb : Below w0.heap.size w0 w) (n : Nat) (h1 : 1 ≤ n) (h2 : n ≤ 65536) : Calls Try.prog 7 #[.int .i64 n] w fun e w' => ∃ p, e = .returned (.tuple #[.pointer (some ⟨p, 0, none⟩), .int .i64 0]) ∧ Ds w0 w' p (newD n) [] :=
  (c_New n h1 h2 w).mono fun e w' ⟨p, g, m, he, hd, hp, hg, hm, hbl⟩ => by
    have hs := hb.size
    refine ⟨p, he, ⟨g, m, _, hd, fun k hk => ?_, fun x hx => by cases hx⟩, hb.trans (hbl.mono hs)⟩
    rcases hk with rfl | rfl | rfl | e
    · omega
    · omega
    · omega
    · simp [Value.ownBlock] at e
theorem d_Sectors (h : Ds w0 w p D B) : Calls Try.prog 19 #[.pointer (some ⟨p, 0, none⟩)] w fun e w' => e = .returned (.int .i64 D.secs.length) ∧ w = w' := by
  obtain ⟨⟨g, m, qv, hd, _⟩, _⟩ := h
  exact (c_Sectors hd).mono fun e w' ⟨he, hw⟩ => ⟨he, hw.symm⟩
theorem ask_ok {fr k n : Nat} (hon : D.on = true) (hk : k < n) (hs : fr + n ≤ D.secs.length) : askS D ((fr : Int) + (k : Int)) = 0 := by
  unfold askS
  rw [if_neg (by rw [hon]; simp), if_neg (by omega)]
theorem read_size (h : Ds w0 w p D B) (a : Int) (ha : askS D a = 0) : (readS D a).size = 64 := by
  obtain ⟨⟨g, m, qv, hd, _⟩, _⟩ := h
  unfold readS
  rw [if_neg (fun e => e ha)]
  have hz := askS_zero ha
  obtain ⟨s, hs, hl⟩ := readM_some hd (i := a.toNat) (by have := hz.2.1; have := hz.2.2; omega)
  rw [hs, Option.getD_some, strOfNums_size, hl]
theorem d_Read (h : Ds w0 w p D B) (a : Int) (ha : askS D a = 0) : Calls Try.prog 20 #[.pointer (some ⟨p, 0, none⟩), .int .i64 a] w fun e w' => e = .returned (.tuple #[.string (readS D a), .int .i64 0]) ∧ Below w.heap.size w w' := by
  obtain ⟨⟨g, m, qv, hd, _⟩, _⟩ := h
  have := c_Read hd a
  unfold readE at this
  rw [ha] at this
  exact this
theorem Ds.newlog (h : Ds w0 w p D B) (fr n gen : Int) : Lg w0 (w.alloc (.cells #[.pointer (some ⟨p, 0, none⟩), .int .i64 fr, .int .i64 n, .int .i64 gen, .bool false, .int .i64 0, .slice none 0 0] 38)) p w.heap.size D ⟨fr, n, gen, false, 0, []⟩ B := by
  obtain ⟨⟨g, m, qv, hd, hn, hB⟩, hb⟩ := h
  have hal : ∀ k, k < w.heap.size → (w.alloc (.cells #[.pointer (some ⟨p, 0, none⟩), .int .i64 fr, .int .i64 n, .int .i64 gen, .bool false, .int .i64 0, .slice none 0 0] 38)).heap[k]? = w.heap[k]? := fun k hk => Below.heap_alloc _ _ _ hk
  refine ⟨g, m, qv, .slice none 0 0, hd.at (fun k hk => hal k (hd.lt k hk)), heap_alloc_new _ _, ⟨rfl, .inl ⟨rfl, rfl⟩⟩, fun k hk => ⟨hn k hk, fun e => by have := hd.lt k hk; omega, by simp [Value.ownBlock]⟩, by simp [Value.ownBlock], fun k e => by simp [Value.ownBlock] at e, hb.size, fun x hx => ⟨?_, (hB x hx).2, fun e => ?_, by simp [Value.ownBlock]⟩, hb.alloc hb.size _⟩
  · rw [hal _ (lt_of_at (hB x hx).1)]; exact (hB x hx).1
  · have := lt_of_at (hB x hx).1; omega
/-- what is found so far: the record begun, the records, the places they take; whether it is over -/
structure Sc where
  cur : ByteArray
  recs : List ByteArray
  used : Int
  stop : Bool
def scStop (r : ByteArray × Int × Bool) (s : Sc) : Prop := r.2.2 = false ∨ (r.2.1 = 2 ∧ r.1 = ByteArray.empty ∧ s.cur ≠ ByteArray.empty)
instance (r : ByteArray × Int × Bool) (s : Sc) : Decidable (scStop r s) := by unfold scStop; exact inferInstance
def scStep (r : ByteArray × Int × Bool) (k : Nat) (s : Sc) : Sc :=
  if scStop r s then { s with stop := true }
  else if r.2.1 = 2 then ⟨ByteArray.empty, s.recs ++ [s.cur ++ r.1], (k : Int) + 1, false⟩
  else { s with cur := s.cur ++ r.1 }
def scI (rd : Nat → ByteArray) (gen : Int) : Nat → Sc
  | 0 => ⟨ByteArray.empty, [], 0, false⟩
  | k + 1 => if (scI rd gen k).stop then scI rd gen k else scStep (readPc (rd k) gen k) k (scI rd gen k)
theorem scI_stop {rd : Nat → ByteArray} {gen : Int} {k : Nat} (h : (scI rd gen k).stop = true) : ∀ j, k ≤ j → scI rd gen j = scI rd gen k := by
  intro j hj
  induction j with
  | zero => obtain rfl : k = 0 := by omega
            rfl
  | succ j ih =>
    by_cases hk : k = j + 1
    · rw [hk]
    · have := ih (by omega)
      show (if (scI rd gen j).stop then scI rd gen j else _) = _
      rw [this, if_pos h]
theorem scI_next {rd : Nat → ByteArray} {gen : Int} {k : Nat} (h : (scI rd gen k).stop = false) : scI rd gen (k + 1) = scStep (readPc (rd k) gen k) k (scI rd gen k) := by
  show (if (scI rd gen k).stop then scI rd gen k else scStep (readPc (rd k) gen k) k (scI rd gen k)) = _
  rw [h]
  rfl
theorem sc_A {rd : Nat → ByteArray} {gen : Int} {k n : Nat} (h : (scI rd gen k).stop = false) (hn : k < n) (hs : scStop (readPc (rd k) gen k) (scI rd gen k)) : (scI rd gen n).recs = (scI rd gen k).recs ∧ (scI rd gen n).used = (scI rd gen k).used := by
  have e : scI rd gen (k + 1) = { scI rd gen k with stop := true } := by rw [scI_next h, scStep, if_pos hs]
  rw [scI_stop (k := k + 1) (by rw [e]) n (by omega), e]
  exact ⟨rfl, rfl⟩
theorem sc_B {rd : Nat → ByteArray} {gen : Int} {k : Nat} (h : (scI rd gen k).stop = false) (hs : ¬ scStop (readPc (rd k) gen k) (scI rd gen k)) (h2 : (readPc (rd k) gen k).2.1 = 2) :
    (scI rd gen (k + 1)).cur = ByteArray.empty ∧ (scI rd gen (k + 1)).recs = (scI rd gen k).recs ++ [(scI rd gen k).cur ++ (readPc (rd k) gen k).1] ∧ (scI rd gen (k + 1)).used = (k : Int) + 1 ∧ (scI rd gen (k + 1)).stop = false := by
  rw [scI_next h, scStep, if_neg hs, if_pos h2]
  exact ⟨rfl, rfl, rfl, rfl⟩
theorem sc_C {rd : Nat → ByteArray} {gen : Int} {k : Nat} (h : (scI rd gen k).stop = false) (hs : ¬ scStop (readPc (rd k) gen k) (scI rd gen k)) (h2 : ¬ (readPc (rd k) gen k).2.1 = 2) :
    (scI rd gen (k + 1)).cur = (scI rd gen k).cur ++ (readPc (rd k) gen k).1 ∧ (scI rd gen (k + 1)).recs = (scI rd gen k).recs ∧ (scI rd gen (k + 1)).used = (scI rd gen k).used ∧ (scI rd gen (k + 1)).stop = false := by
  rw [scI_next h, scStep, if_neg hs, if_neg h2]
  exact ⟨rfl, rfl, rfl, h⟩
theorem readPc_size (b : ByteArray) (gen place : Int) : (readPc b gen place).1.size ≤ 48 := by
  unfold readPc
  have := getS_range (b.extract 4 6)
  dsimp only
  split
  · exact Nat.zero_le _
  · rw [ByteArray.size_extract]; omega
theorem scI_bounds (rd : Nat → ByteArray) (gen : Int) : ∀ k, (scI rd gen k).cur.size ≤ 48 * k ∧ (scI rd gen k).recs.length ≤ k ∧ 0 ≤ (scI rd gen k).used ∧ (scI rd gen k).used ≤ k
  | 0 => ⟨Nat.zero_le _, Nat.zero_le _, Int.le_refl _, Int.le_refl _⟩
  | k + 1 => by
    obtain ⟨h1, h2, h3, h4⟩ := scI_bounds rd gen k
    have hz := readPc_size (rd k) gen k
    show (if (scI rd gen k).stop then scI rd gen k else scStep (readPc (rd k) gen k) k (scI rd gen k)).cur.size ≤ _ ∧ _
    by_cases hs : (scI rd gen k).stop = true
    · have e : scI rd gen (k + 1) = scI rd gen k := scI_stop hs (k + 1) (by omega)
      rw [e, if_pos hs]
      exact ⟨by omega, by omega, h3, by omega⟩
    · have e : scI rd gen (k + 1) = scStep (readPc (rd k) gen k) k (scI rd gen k) := by
        show (if (scI rd gen k).stop then scI rd gen k else scStep (readPc (rd k) gen k) k (scI rd gen k)) = _
        rw [if_neg hs]
      rw [e, if_neg hs]
      unfold scStep
      split
      · exact ⟨by simp only; omega, by simp only; omega, h3, by simp only; omega⟩
      split
      · exact ⟨Nat.zero_le _, by simp only [List.length_append, List.length_singleton]; omega, by simp only; omega, by simp only; omega⟩
      · exact ⟨by simp only [ByteArray.size_append]; omega, by simp only; omega, h3, by simp only; omega⟩
/-- the log as it is opened -/
def openL (D : Dm) (fr n : Nat) : Lm :=
  { fr := fr, n := n, gen := genS (readS D fr), op := false,
    used := if 0 < genS (readS D fr) then (scI (fun k => readS D ((fr : Int) + (k : Int))) (genS (readS D fr)) n).used else 0,
    recs := if 0 < genS (readS D fr) then (scI (fun k => readS D ((fr : Int) + (k : Int))) (genS (readS D fr)) n).recs else [] }
theorem l_Read (h : Lg w0 w p l D L B) (a : Int) (ha : askS D a = 0) : Calls Try.prog 20 #[.pointer (some ⟨p, 0, none⟩), .int .i64 a] w fun e w' => e = .returned (.tuple #[.string (readS D a), .int .i64 0]) ∧ Lg w0 w' p l D L B :=
  h.db (d_Read h.ds a ha)
theorem l_read (h : Lg w0 w p l D L B) (b : ByteArray) (gen place : Int) (hb : b.size = 64) : Calls Try.prog 22 #[.string b, .int .i64 gen, .int .i64 place] w fun e w' =>
    e = .returned (.tuple #[.string (readPc b gen place).1, .int .i64 (readPc b gen place).2.1, .bool (readPc b gen place).2.2]) ∧ Lg w0 w' p l D L B := h.db (c_read b gen place hb w)
end Go.Proofs.YtladbjlkkjcfnaaLg
