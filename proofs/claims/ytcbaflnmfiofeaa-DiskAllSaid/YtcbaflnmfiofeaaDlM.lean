/-
  chancerylaw10: play: two pairs side by side. chancerylaw10: play. chancerylaw10: play, its start. chancerylaw10: play, the walk. chancerylaw10: DiskPlays, DiskAll, the walks; a script as it is handed in. Condition: none; the script's cells are there.
-/
import Derived.Test.YtcbaflnmfiofeaaDlH
import Derived.Deep.Slices
import Derived.Deep.Fields
import Derived.ChangeSame
namespace Go.Proofs.YtcbaflnmfiofeaaDk
open Go.RowKit Go.Maps Go.Proofs.YtcbaflnmfiofeaaKp Go.Proofs.YtcbaflnmfiofeaaCm
set_option linter.unusedVariables false
set_option linter.unusedSimpArgs false
theorem crash_ok {D : Dm} (h : DOk D) (a b : Int) : DOk (crashS D a b) ∧ (crashS D a b).q.length ≤ D.q.length := by
  unfold crashS
  by_cases ho : D.on = true
  · rw [if_pos ho]
    exact ⟨⟨h.r1, h.r2, h.f2, by simp⟩, by simp⟩
  · rw [if_neg ho]
    exact ⟨h, Nat.le_refl _⟩
theorem burned_ok {D : Dm} (h : DOk D) : DOk (burnedS D) ∧ (burnedS D).q.length ≤ D.q.length := by
  unfold burnedS
  exact crash_ok (D := { D with fset := false, fn := 0, fk := 0, ft := 0 }) ⟨h.r1, h.r2, by simp, h.q1⟩ _ _
theorem stepD_ok {D : Dm} {n : Nat} (h : DOk D) (hq : D.q.length ≤ n) (hn : n + 1 < 1000000000000) (kind a b c : Int) (s : ByteArray) (ha : a ≤ 9223372036854775807) : DOk (stepD D kind a b c s) ∧ (stepD D kind a b c s).q.length ≤ n + 1 := by
  have hs : DOk D ∧ D.q.length ≤ n + 1 := ⟨h, by omega⟩
  have hb : DOk (burnedS D) ∧ (burnedS D).q.length ≤ n + 1 := ⟨(burned_ok h).1, by have := (burned_ok h).2; omega⟩
  have h1 := h.r1
  have h2 := h.r2
  have h3 := h.f2
  unfold stepD
  split
  · unfold writeD
    split
    · exact hs
    split
    · exact hs
    split
    · exact hs
    split
    · exact hb
    · refine ⟨⟨?_, ?_, ?_, ?_⟩, ?_⟩
      · simp only [writeS, takenS]; split <;> omega
      · simp only [writeS, takenS]; split <;> omega
      · simp only [writeS, takenS]; split <;> omega
      · simp only [writeS, List.length_append, List.length_singleton]; omega
      · simp only [writeS, List.length_append, List.length_singleton]; omega
  split
  · exact hs
  split
  · unfold syncD
    split
    · exact hs
    split
    · exact hb
    · exact ⟨⟨h1, h2, by show (if D.fset = true then D.fn - 1 else D.fn) ≤ _; split <;> omega, by simp⟩, by simp⟩
  split
  · exact ⟨(crash_ok h _ _).1, by have := (crash_ok h a b).2; omega⟩
  split
  · exact ⟨⟨h1, h2, h3, h.q1⟩, hs.2⟩
  split
  · exact ⟨⟨by show -1 ≤ roomS a; unfold roomS; split <;> omega, by show roomS a ≤ _; unfold roomS; split <;> omega, h3, h.q1⟩, hs.2⟩
  split
  · unfold fuseS
    split
    · exact ⟨⟨h1, h2, by simp, h.q1⟩, hs.2⟩
    · exact ⟨⟨h1, h2, ha, h.q1⟩, hs.2⟩
  · exact hs
/-- a disk and a reference's that are alike; F their blocks -/
def Pr (w : World) (p r : Nat) (D : Dm) (F : Nat → Prop) : Prop :=
  ∃ g m qv g2 bc qv2, Dsk w p g m qv D ∧ Rf w r g2 bc qv2 D ∧ (∀ k, fp p g m qv k → ¬ rfp r g2 qv2 k) ∧ ∀ k, (fp p g m qv k ∨ rfp r g2 qv2 k) ↔ F k
variable {w0 w w1 : World} {la ma n : Nat} {ps rs : Nat → Nat} {Ds : Nat → Dm} {Fs : Nat → Nat → Prop}
theorem Pr.at {p r : Nat} {D : Dm} {F : Nat → Prop} (h : Pr w p r D F) (hk : ∀ k, F k → w1.heap[k]? = w.heap[k]?) : Pr w1 p r D F := by
  obtain ⟨g, m, qv, g2, bc, qv2, h1, h2, h3, h4⟩ := h
  exact ⟨g, m, qv, g2, bc, qv2, h1.at (fun k e => hk k ((h4 k).1 (.inl e))), h2.at (fun k e => hk k ((h4 k).1 (.inr e))), h3, h4⟩
theorem Pr.lt {p r : Nat} {D : Dm} {F : Nat → Prop} (h : Pr w p r D F) (k : Nat) (hk : F k) : k < w.heap.size := by
  obtain ⟨g, m, qv, g2, bc, qv2, h1, h2, h3, h4⟩ := h
  rcases (h4 k).2 hk with e | e
  · exact h1.lt k e
  · exact h2.lt k e
def ptr (p : Nat) : Value := .pointer (some ⟨p, 0, none⟩)
structure QS (w0 w : World) (la ma n : Nat) (ps rs : Nat → Nat) (Ds : Nat → Dm) (Fs : Nat → Nat → Prop) : Prop where
  pr : ∀ b, b < 2 → Pr w (ps b) (rs b) (Ds b) (Fs b)
  ok : ∀ b, b < 2 → DOk (Ds b) ∧ (Ds b).q.length ≤ n
  dis : ∀ b c k, b < 2 → c < 2 → b ≠ c → Fs b k → ¬ Fs c k
  new : ∀ b k, b < 2 → Fs b k → w0.heap.size ≤ k ∧ k ≠ la ∧ k ≠ ma
  rla : w.heap[la]? = some (.cells #[ptr (ps 0), ptr (ps 1)] 64 (0, 0))
  rma : w.heap[ma]? = some (.cells #[ptr (rs 0), ptr (rs 1)] 66 (0, 0))
  ne : la ≠ ma
  nla : w0.heap.size ≤ la
  nma : w0.heap.size ≤ ma
  bel : Below w0.heap.size w0 w
theorem QS.b (h : QS w0 w la ma n ps rs Ds Fs) (hb : Below w.heap.size w w1) : QS w0 w1 la ma n ps rs Ds Fs :=
  ⟨fun b e => (h.pr b e).at (fun k hk => hb.block k ((h.pr b e).lt k hk)), h.ok, h.dis, h.new, by rw [hb.block _ (lt_of_at h.rla)]; exact h.rla, by rw [hb.block _ (lt_of_at h.rma)]; exact h.rma, h.ne, h.nla, h.nma, h.bel.trans (hb.mono h.bel.size)⟩
theorem QS.drew (h : QS w0 w la ma n ps rs Ds Fs) : QS w0 w.drew la ma n ps rs Ds Fs := h.b ⟨rfl, rfl, rfl, Nat.le_refl _, fun _ _ => rfl⟩
theorem two_get (f : Nat → Nat) (b : Nat) (hb : b < 2) : (#[ptr (f 0), ptr (f 1)] : Array Value)[b]? = some (ptr (f b)) := by
  match b, hb with
  | 0, _ => rfl
  | 1, _ => rfl
theorem QS.cl (h : QS w0 w la ma n ps rs Ds Fs) (b : Nat) (hb : b < 2) : w.cell? ⟨la, b, none⟩ = some (ptr (ps b)) := (cell_of_row _ _ _ _ _ _ h.rla).trans (two_get ps b hb)
theorem QS.cm (h : QS w0 w la ma n ps rs Ds Fs) (b : Nat) (hb : b < 2) : w.cell? ⟨ma, b, none⟩ = some (ptr (rs b)) := (cell_of_row _ _ _ _ _ _ h.rma).trans (two_get rs b hb)
theorem QS.fl (h : QS w0 w la ma n ps rs Ds Fs) (b : Nat) : w.frozen? ⟨la, b, none⟩ = false := frozen_of_row _ _ _ _ _ h.rla
theorem QS.fm (h : QS w0 w la ma n ps rs Ds Fs) (b : Nat) : w.frozen? ⟨ma, b, none⟩ = false := frozen_of_row _ _ _ _ _ h.rma
theorem q_looks (h : QS w0 w la ma n ps rs Ds Fs) (b : Nat) (hb : b < 2) : Calls Try.prog 32 #[.pointer (some ⟨ps b, 0, none⟩), .pointer (some ⟨rs b, 0, none⟩)] w fun e w' => e = .returned (.bool true) ∧ QS w0 w' la ma n ps rs Ds Fs := by
  obtain ⟨g, m, qv, g2, bc, qv2, h1, h2, h3, h4⟩ := h.pr b hb
  exact (c_looks h1 h2 rfl).mono fun e w' ⟨he, hb⟩ => ⟨he, h.b hb⟩
theorem QS.keys (h : QS w0 w la ma n ps rs Ds Fs) (b c : Nat) (hb : b < 2) (hc : c < 2) : w.cell? ⟨la, b, none⟩ = some (.pointer (some ⟨ps b, 0, none⟩)) ∧ w.cell? ⟨ma, b, none⟩ = some (.pointer (some ⟨rs b, 0, none⟩)) ∧ w.cell? ⟨la, c, none⟩ = some (.pointer (some ⟨ps c, 0, none⟩)) ∧ w.cell? ⟨ma, c, none⟩ = some (.pointer (some ⟨rs c, 0, none⟩)) ∧ w.frozen? ⟨la, c, none⟩ = false ∧ w.frozen? ⟨ma, c, none⟩ = false :=
  ⟨h.cl b hb, h.cm b hb, h.cl c hc, h.cm c hc, h.fl c, h.fm c⟩
theorem q_step (h : QS w0 w la ma n ps rs Ds Fs) (hn : n + 1 < 1000000000000) (b : Nat) (hb : b < 2) (kind who a b' c : Int) (s : ByteArray) (ha : a ≤ 9223372036854775807) :
    Calls Try.prog 31 #[.pointer (some ⟨ps b, 0, none⟩), .pointer (some ⟨rs b, 0, none⟩), .agg #[.int .i64 kind, .int .i64 who, .int .i64 a, .int .i64 b', .int .i64 c, .string s]] w fun e w' =>
      e = .returned (.bool true) ∧ ∃ Ds' Fs', QS w0 w' la ma (n + 1) ps rs Ds' Fs' := by
  obtain ⟨g, m, qv, g2, bc, qv2, h1, h2, h3, h4⟩ := h.pr b hb
  refine (c_step h1 h2 h3 (h.ok b hb).1 kind who a b' c s).mono fun e w' ⟨he, hs⟩ => ⟨he, fun i => if i = b then stepD (Ds b) kind a b' c s else Ds i, ?_⟩
  obtain ⟨m', qv', qv2', k1, k2, k3, k4, k5, _, _⟩ := hs.ex
  have hF : ∀ k, (fp (ps b) g m' qv' k ∨ rfp (rs b) g2 qv2' k) → Fs b k ∨ w.heap.size ≤ k := by
    intro k hk
    rcases Nat.lt_or_ge k w.heap.size with hl | hl
    · exact .inl ((h4 k).1 (hk.imp (k3.fp hl) (k4.fp hl)))
    · exact .inr hl
  have hkb : ∀ k, k < w.heap.size → ¬ Fs b k → w'.heap[k]? = w.heap[k]? := fun k hk hf => hs.kept.block k hk (fun e => hf ((h4 k).1 e))
  have hla := lt_of_at h.rla
  have hma := lt_of_at h.rma
  refine ⟨fun i => if i = b then fun k => fp (ps b) g m' qv' k ∨ rfp (rs b) g2 qv2' k else Fs i, ⟨?_, ?_, ?_, ?_, ?_, ?_, h.ne, h.nla, h.nma, ?_⟩⟩
  · intro i hi
    by_cases hib : i = b
    · subst hib
      simp only [if_pos]
      exact ⟨g, m', qv', g2, bc, qv2', k1, k2, k5, fun k => Iff.rfl⟩
    · simp only [if_neg hib]
      exact (h.pr i hi).at (fun k hk => hkb k ((h.pr i hi).lt k hk) (h.dis i b k hi hb hib hk))
  · intro i hi
    by_cases hib : i = b
    · subst hib
      simp only [if_pos]
      exact stepD_ok (h.ok i hi).1 (h.ok i hi).2 hn _ _ _ _ _ ha
    · simp only [if_neg hib]
      exact ⟨(h.ok i hi).1, by have := (h.ok i hi).2; omega⟩
  · intro i j k hi hj hij hk
    by_cases hib : i = b
    · subst hib
      simp only [if_pos] at hk
      simp only [if_neg (fun e : j = i => hij e.symm)]
      intro hj'
      rcases hF k hk with e | e
      · exact h.dis i j k hi hj hij e hj'
      · have := (h.pr j hj).lt k hj'; omega
    · simp only [if_neg hib] at hk
      by_cases hjb : j = b
      · subst hjb
        simp only [if_pos]
        intro hj'
        rcases hF k hj' with e | e
        · exact h.dis i j k hi hj hij hk e
        · have := (h.pr i hi).lt k hk; omega
      · simp only [if_neg hjb]
        exact h.dis i j k hi hj hij hk
  · intro i k hi hk
    by_cases hib : i = b
    · subst hib
      simp only [if_pos] at hk
      rcases hF k hk with e | e
      · exact h.new i k hi e
      · have := h.bel.size; exact ⟨by omega, by omega, by omega⟩
    · simp only [if_neg hib] at hk
      exact h.new i k hi hk
  · rw [hkb la hla (fun e => (h.new b la hb e).2.1 rfl)]; exact h.rla
  · rw [hkb ma hma (fun e => (h.new b ma hb e).2.2 rfl)]; exact h.rma
  · exact h.bel.trans ⟨hs.kept.os, hs.kept.tape, hs.kept.output, hs.kept.size, fun k hk => hkb k (by have := h.bel.size; omega) (fun e => by have := (h.new b k hb e).1; omega)⟩
/-- the twin of one of the disks has come -/
structure QT (w0 w : World) (la ma n : Nat) (ps rs : Nat → Nat) (Ds : Nat → Dm) (Fs : Nat → Nat → Prop) (b : Nat) (p' : Nat) : Prop where
  qs : QS w0 w la ma n ps rs Ds Fs
  ex : ∃ g' m' qv' c', Dsk w p' g' m' qv' { Ds b with cap := c' } ∧ ∀ k, fp p' g' m' qv' k → w0.heap.size ≤ k ∧ k ≠ la ∧ k ≠ ma ∧ ∀ i, i < 2 → ¬ Fs i k
theorem q_Twin (h : QS w0 w la ma n ps rs Ds Fs) (b : Nat) (hb : b < 2) : Calls Try.prog 25 #[.pointer (some ⟨ps b, 0, none⟩)] w fun e w' => ∃ p', e = .returned (.pointer (some ⟨p', 0, none⟩)) ∧ QT w0 w' la ma n ps rs Ds Fs b p' := by
  obtain ⟨g, m, qv, g2, bc, qv2, h1, h2, h3, h4⟩ := h.pr b hb
  refine (c_Twin h1 (h.ok b hb).1.q1).mono fun e w' ⟨p', g', m', qv', c', he, hd, hf, hbl⟩ => ⟨p', he, h.b hbl, g', m', qv', c', hd, fun k hk => ?_⟩
  have := hf k hk
  have hla := lt_of_at h.rla
  have hma := lt_of_at h.rma
  have := h.bel.size
  exact ⟨by omega, by omega, by omega, fun i hi e => by have := (h.pr i hi).lt k e; omega⟩
structure QU (w0 w : World) (la ma n : Nat) (ps rs : Nat → Nat) (Ds : Nat → Dm) (Fs : Nat → Nat → Prop) (b : Nat) (p' r' : Nat) : Prop where
  qs : QS w0 w la ma n ps rs Ds Fs
  ex : ∃ D F, Pr w p' r' D F ∧ DOk D ∧ D.q.length ≤ n ∧ ∀ k, F k → w0.heap.size ≤ k ∧ k ≠ la ∧ k ≠ ma ∧ ∀ i, i < 2 → ¬ Fs i k
theorem Rf.capped {r g bc : Nat} {qv : Value} {D : Dm} (h : Rf w r g bc qv D) (c : Nat) : Rf w r g bc qv { D with cap := c } := ⟨h.row, h.b, h.q, h.rg, h.qr, h.qg, h.each, h.len, h.fits, h.fz, h.rng⟩
theorem q_Twin2 {p' : Nat} {b : Nat} (h : QT w0 w la ma n ps rs Ds Fs b p') (hb : b < 2) : Calls Try.prog 30 #[.pointer (some ⟨rs b, 0, none⟩)] w fun e w' => ∃ r', e = .returned (.pointer (some ⟨r', 0, none⟩)) ∧ QU w0 w' la ma n ps rs Ds Fs b p' r' := by
  obtain ⟨g, m, qv, g2, bc, qv2, h1, h2, h3, h4⟩ := h.qs.pr b hb
  obtain ⟨g', m', qv', c', hd, hf⟩ := h.ex
  refine (r_Twin h2 (h.qs.ok b hb).1.q1).mono fun e w' ⟨r', g2', bc', qv2', he, hr, hrf, hbl⟩ => ⟨r', he, h.qs.b hbl, { Ds b with cap := c' }, fun k => fp p' g' m' qv' k ∨ rfp r' g2' qv2' k, ⟨g', m', qv', g2', bc', qv2', hd.at (fun k hk => hbl.block k (hd.lt k hk)), hr.capped c', fun k hk hk' => by have := hrf k hk'; have := hd.lt k hk; omega, fun k => Iff.rfl⟩, ?_, (h.qs.ok b hb).2, fun k hk => ?_⟩
  · have ho := (h.qs.ok b hb).1
    exact ⟨ho.r1, ho.r2, ho.f2, ho.q1⟩
  · rcases hk with hk | hk
    · exact hf k hk
    · have := hrf k hk
      have hla := lt_of_at h.qs.rla
      have hma := lt_of_at h.qs.rma
      have := h.qs.bel.size
      exact ⟨by omega, by omega, by omega, fun i hi e => by have := (h.qs.pr i hi).lt k e; omega⟩
theorem two_set (f : Nat → Nat) (b x : Nat) (hb : b < 2) : (#[ptr (f 0), ptr (f 1)] : Array Value).setIfInBounds b (ptr x) = #[ptr (if 0 = b then x else f 0), ptr (if 1 = b then x else f 1)] := by
  match b, hb with
  | 0, _ => rfl
  | 1, _ => rfl
/-- the new pair is laid down at c -/
theorem QU.put {p' r' b : Nat} (h : QU w0 w la ma n ps rs Ds Fs b p' r') (c : Nat) (hc : c < 2) :
    ∃ ps' rs' Ds' Fs', QS w0 ((w.setCell ⟨la, c, none⟩ (.pointer (some ⟨p', 0, none⟩))).setCell ⟨ma, c, none⟩ (.pointer (some ⟨r', 0, none⟩))) la ma n ps' rs' Ds' Fs' := by
  obtain ⟨D, F, hp, hok, hq, hF⟩ := h.ex
  have q := h.qs
  have hk : ∀ k, k ≠ la → k ≠ ma → ((w.setCell ⟨la, c, none⟩ (.pointer (some ⟨p', 0, none⟩))).setCell ⟨ma, c, none⟩ (.pointer (some ⟨r', 0, none⟩))).heap[k]? = w.heap[k]? := by
    intro k h1 h2
    rw [Below.heap_setCell _ _ _ _ h2, Below.heap_setCell _ _ _ _ h1]
  refine ⟨fun i => if i = c then p' else ps i, fun i => if i = c then r' else rs i, fun i => if i = c then D else Ds i, fun i => if i = c then F else Fs i, ?_, ?_, ?_, ?_, ?_, ?_, q.ne, q.nla, q.nma, ?_⟩
  · intro i hi
    by_cases hib : i = c
    · subst hib
      simp only [if_pos]
      exact hp.at (fun k e => hk k (hF k e).2.1 (hF k e).2.2.1)
    · simp only [if_neg hib]
      exact (q.pr i hi).at (fun k e => hk k (q.new i k hi e).2.1 (q.new i k hi e).2.2)
  · intro i hi
    by_cases hib : i = c
    · subst hib
      simp only [if_pos]
      exact ⟨hok, hq⟩
    · simp only [if_neg hib]
      exact q.ok i hi
  · intro i j k hi hj hij hki
    by_cases hib : i = c
    · subst hib
      simp only [if_pos] at hki
      simp only [if_neg (fun e : j = i => hij e.symm)]
      exact (hF k hki).2.2.2 j hj
    · simp only [if_neg hib] at hki
      by_cases hjb : j = c
      · subst hjb
        simp only [if_pos]
        intro hj'
        exact (hF k hj').2.2.2 i hi hki
      · simp only [if_neg hjb]
        exact q.dis i j k hi hj hij hki
  · intro i k hi hk
    by_cases hib : i = c
    · subst hib
      simp only [if_pos] at hk
      exact ⟨(hF k hk).1, (hF k hk).2.1, (hF k hk).2.2.1⟩
    · simp only [if_neg hib] at hk
      exact q.new i k hi hk
  · rw [Below.heap_setCell _ _ _ _ q.ne, heap_setCell_same w la c _ _ _ q.rla]
    exact congrArg (fun x => some (Obj.cells x _ (0, 0))) (two_set ps c p' hc)
  · rw [heap_setCell_same _ ma c _ _ _ ((Below.heap_setCell _ _ _ _ q.ne.symm).trans q.rma)]
    exact congrArg (fun x => some (Obj.cells x _ (0, 0))) (two_set rs c r' hc)
  · exact (q.bel.setCell q.nla _).setCell q.nma _
/-- two pairs at the start -/
theorem QS.start {p0 r0 p1 r1 : Nat} {D0 D1 : Dm} {F0 F1 : Nat → Prop} (h0 : Pr w p0 r0 D0 F0) (h1 : Pr w p1 r1 D1 F1) (o0 : DOk D0) (o1 : DOk D1) (q0 : D0.q.length = 0) (q1 : D1.q.length = 0) (hdis : ∀ k, F0 k → ¬ F1 k) (n0 : ∀ k, F0 k → w0.heap.size ≤ k) (n1 : ∀ k, F1 k → w0.heap.size ≤ k) (hb : Below w0.heap.size w0 w) :
    ∃ ps rs Ds Fs, QS w0 ((w.alloc (.cells #[ptr p0, ptr p1] 64)).alloc (.cells #[ptr r0, ptr r1] 66)) w.heap.size (w.heap.size + 1) 0 ps rs Ds Fs := by
  have hal : ∀ k, k < w.heap.size → ((w.alloc (.cells #[ptr p0, ptr p1] 64)).alloc (.cells #[ptr r0, ptr r1] 66)).heap[k]? = w.heap[k]? := by
    intro k hk
    rw [Below.heap_alloc _ _ _ (by simp; omega), Below.heap_alloc _ _ _ hk]
  refine ⟨fun i => if i = 0 then p0 else p1, fun i => if i = 0 then r0 else r1, fun i => if i = 0 then D0 else D1, fun i => if i = 0 then F0 else F1, ?_, ?_, ?_, ?_, ?_, ?_, by omega, hb.size, by have := hb.size; omega, (hb.alloc hb.size _).alloc (by have := hb.size; simp; omega) _⟩
  · intro i hi
    match i, hi with
    | 0, _ => exact h0.at (fun k hk => hal k (h0.lt k hk))
    | 1, _ => exact h1.at (fun k hk => hal k (h1.lt k hk))
  · intro i hi
    match i, hi with
    | 0, _ => exact ⟨o0, by show D0.q.length ≤ 0; omega⟩
    | 1, _ => exact ⟨o1, by show D1.q.length ≤ 0; omega⟩
  · intro i j k hi hj hij hk
    by_cases hi0 : i = 0
    · subst hi0
      obtain rfl : j = 1 := by omega
      exact hdis k hk
    · obtain rfl : i = 1 := by omega
      obtain rfl : j = 0 := by omega
      exact fun e => hdis k e hk
  · intro i k hi hk
    match i, hi, hk with
    | 0, _, hk => exact ⟨n0 k hk, by have := h0.lt k hk; omega, by have := h0.lt k hk; omega⟩
    | 1, _, hk => exact ⟨n1 k hk, by have := h1.lt k hk; omega, by have := h1.lt k hk; omega⟩
  · rw [Below.heap_alloc _ _ _ (by simp), heap_alloc_new]
    rfl
  · rw [heap_alloc2_new]
    rfl
end Go.Proofs.YtcbaflnmfiofeaaDk
namespace Go.Proofs.YtcbaflnmfiofeaaDk
open Go.RowKit Go.Maps Go.Proofs.YtcbaflnmfiofeaaKp Go.Proofs.YtcbaflnmfiofeaaCm
set_option linter.unusedVariables false
set_option linter.unusedSimpArgs false
theorem i64_and1 (n : Int) : bits .and .i64 n 1 = n % 2 := by
  have h3 : (BitVec.ofInt 64 1).toNat = 2 ^ 1 - 1 := by decide
  have key : (BitVec.ofInt 64 n &&& BitVec.ofInt 64 1).toNat = (n % ((2 ^ 64 : Nat) : Int)).toNat % 2 ^ 1 := by
    rw [BitVec.toNat_and, BitVec.toNat_ofInt, h3, Nat.and_two_pow_sub_one_eq_mod]
  show IntKind.i64.wrap ((BitVec.ofInt 64 n &&& BitVec.ofInt 64 1).toNat : Nat) = n % 2
  rw [key, IntKind.wrap_i64]
  omega
theorem play_early (a0 : Option Addr) (len cap : Nat) (sectors : Int) (each : Bool) (w : World) (h : 300 < len ∨ ¬ (1 ≤ sectors ∧ sectors ≤ 100)) :
    Calls Try.prog 22 #[.int .i64 sectors, .slice a0 len cap, .bool each] w fun e w' => e = .returned (.bool true) ∧ Below w.heap.size w w' := by
  have ka : ∀ w0, Calls Try.prog 9 #[] w0 fun e w' => e = .returned (.bool true) ∧ Below w0.heap.size w0 w' := c_alive
  replace ka := Lib.hid ka
  by_cases h1 : 300 < len
  · have d1 : decide (300 < len) = true := decide_eq_true h1
    have d1' : decide ((300 : Int) < (len : Int)) = true := decide_eq_true (by omega)
    clear h
    go_enter Try.func22, Try.ntmps22
    go_wp2_with (go_at_call 9; refine (ka.out _).mono ?_; rintro e w1 ⟨rfl, hb⟩; have HB := Lib.hid hb; clear hb)
    go_ret
    exact ⟨rfl, HB.out⟩
  have d1 : decide (300 < len) = false := decide_eq_false h1
  have d1' : decide ((300 : Int) < (len : Int)) = false := decide_eq_false (by omega)
  by_cases h2 : 100 < sectors ∧ sectors ≤ 65536
  · have d2 : decide (100 < sectors) = true := decide_eq_true h2.1
    have d3 : decide (sectors ≤ 65536) = true := decide_eq_true h2.2
    clear h
    go_enter Try.func22, Try.ntmps22
    go_wp2_with (go_at_call 9; refine (ka.out _).mono ?_; rintro e w1 ⟨rfl, hb⟩; have HB := Lib.hid hb; clear hb)
    go_ret
    exact ⟨rfl, HB.out⟩
  have hno : ¬ (1 ≤ sectors ∧ sectors ≤ 65536) := by omega
  have k1 := Lib.hid (fun w0 => c_New_no sectors hno w0)
  have k2 := Lib.hid (fun w0 => r_New_no sectors hno w0)
  by_cases h3 : 100 < sectors
  · have d2 : decide (100 < sectors) = true := decide_eq_true h3
    have d3 : decide (sectors ≤ 65536) = false := decide_eq_false (by omega)
    clear h
    go_enter Try.func22, Try.ntmps22
    go_wp2_with (first
      | (go_at_call 9; refine (ka.out _).mono ?_; rintro e w1 ⟨rfl, hb⟩; have HB := Lib.hid hb; clear hb)
      | (go_at_call 10; refine (k1.out _).mono ?_; rintro e w2 ⟨rfl, hw⟩; subst hw)
      | (go_at_call 29; refine (k2.out _).mono ?_; rintro e w3 ⟨rfl, hw⟩; have hw := hw.symm; subst hw))
    go_ret
    exact ⟨rfl, HB.out⟩
  · have d2 : decide (100 < sectors) = false := decide_eq_false h3
    clear h
    go_enter Try.func22, Try.ntmps22
    go_wp2_with (first
      | (go_at_call 9; refine (ka.out _).mono ?_; rintro e w1 ⟨rfl, hb⟩; have HB := Lib.hid hb; clear hb)
      | (go_at_call 10; refine (k1.out _).mono ?_; rintro e w2 ⟨rfl, hw⟩; subst hw)
      | (go_at_call 29; refine (k2.out _).mono ?_; rintro e w3 ⟨rfl, hw⟩; have hw := hw.symm; subst hw))
    go_ret
    exact ⟨rfl, HB.out⟩
end Go.Proofs.YtcbaflnmfiofeaaDk
namespace Go.Proofs.YtcbaflnmfiofeaaDk
open Go.RowKit Go.Maps Go.Proofs.YtcbaflnmfiofeaaKp Go.Proofs.YtcbaflnmfiofeaaCm
set_option linter.unusedVariables false
set_option linter.unusedSimpArgs false
variable {w0 w w1 : World} {n : Nat}
structure Z1 (w0 w : World) (n p : Nat) : Prop where
  ex : ∃ g m, Dsk w p g m (.slice none 0 0) (newD n) ∧ ∀ k, fp p g m (.slice none 0 0) k → w0.heap.size ≤ k
  bel : Below w0.heap.size w0 w
theorem z_New (h : Below w0.heap.size w0 w) (h1 : 1 ≤ n) (h2 : n ≤ 65536) : Calls Try.prog 10 #[.int .i64 n] w fun e w' => ∃ p, e = .returned (.tuple #[.pointer (some ⟨p, 0, none⟩), .int .i64 0]) ∧ Z1 w0 w' n p := by
  have hs := h.size
  refine (c_New n h1 h2 w).mono fun e w' ⟨p, g, m, he, hd, hp, hg, hm, hb⟩ => ⟨p, he, ⟨g, m, hd, fun k hk => ?_⟩, h.trans (hb.mono hs)⟩
  rcases hk with rfl | rfl | rfl | e
  · omega
  · omega
  · omega
  · simp [Value.ownBlock] at e
structure Z2 (w0 w : World) (n p r : Nat) : Prop where
  ex : ∃ F, Pr w p r (newD n) F ∧ ∀ k, F k → w0.heap.size ≤ k
  bel : Below w0.heap.size w0 w
theorem z_New2 {p : Nat} (h : Z1 w0 w n p) (h1 : 1 ≤ n) (h2 : n ≤ 65536) : Calls Try.prog 29 #[.int .i64 n] w fun e w' => ∃ r, e = .returned (.tuple #[.pointer (some ⟨r, 0, none⟩), .bool true]) ∧ Z2 w0 w' n p r := by
  have hs := h.bel.size
  obtain ⟨g, m, hd, hf⟩ := h.ex
  refine (r_New n h1 h2 w).mono fun e w' ⟨r, g', he, hr, hp, hg, hb⟩ => ⟨r, he, ⟨fun k => fp p g m (.slice none 0 0) k ∨ rfp r g' (.slice none 0 0) k, ⟨g, m, _, g', _, _, hd.at (fun k hk => hb.block k (hd.lt k hk)), hr, fun k hk hk' => ?_, fun k => Iff.rfl⟩, fun k hk => ?_⟩, h.bel.trans (hb.mono hs)⟩
  · have := hd.lt k hk
    rcases hk' with rfl | rfl | e
    · omega
    · omega
    · simp [Value.ownBlock] at e
  · rcases hk with hk | hk
    · exact hf k hk
    · rcases hk with rfl | rfl | e
      · omega
      · omega
      · simp [Value.ownBlock] at e
structure Z3 (w0 w : World) (n p r p' : Nat) : Prop where
  ex : ∃ F, Pr w p r (newD n) F ∧ (∀ k, F k → w0.heap.size ≤ k) ∧ ∃ g' m' qv' c', Dsk w p' g' m' qv' { newD n with cap := c' } ∧ ∀ k, fp p' g' m' qv' k → w0.heap.size ≤ k ∧ ¬ F k
  bel : Below w0.heap.size w0 w
theorem z_Twin {p r : Nat} (h : Z2 w0 w n p r) : Calls Try.prog 25 #[.pointer (some ⟨p, 0, none⟩)] w fun e w' => ∃ p', e = .returned (.pointer (some ⟨p', 0, none⟩)) ∧ Z3 w0 w' n p r p' := by
  have hs := h.bel.size
  obtain ⟨F, hp, hF⟩ := h.ex
  obtain ⟨g, m, qv, g2, bc, qv2, h1, h2, h3, h4⟩ := id hp
  refine (c_Twin h1 (newD_ok n).q1).mono fun e w' ⟨p', g', m', qv', c', he, hd, hf, hbl⟩ => ⟨p', he, ⟨F, hp.at (fun k hk => hbl.block k (hp.lt k hk)), hF, g', m', qv', c', hd, fun k hk => ?_⟩, h.bel.trans (hbl.mono hs)⟩
  have := hf k hk
  exact ⟨by omega, fun e => by have := hp.lt k e; omega⟩
structure Z4 (w0 w : World) (n p r p' r' : Nat) : Prop where
  ex : ∃ F F' D, Pr w p r (newD n) F ∧ (∀ k, F k → w0.heap.size ≤ k) ∧ Pr w p' r' D F' ∧ DOk D ∧ D.q.length = 0 ∧ ∀ k, F' k → w0.heap.size ≤ k ∧ ¬ F k
  bel : Below w0.heap.size w0 w
theorem z_Twin2 {p r p' : Nat} (h : Z3 w0 w n p r p') : Calls Try.prog 30 #[.pointer (some ⟨r, 0, none⟩)] w fun e w' => ∃ r', e = .returned (.pointer (some ⟨r', 0, none⟩)) ∧ Z4 w0 w' n p r p' r' := by
  have hs := h.bel.size
  obtain ⟨F, hp, hF, g', m', qv', c', hd, hf⟩ := h.ex
  obtain ⟨g, m, qv, g2, bc, qv2, h1, h2, h3, h4⟩ := id hp
  have ho := newD_ok n
  refine (r_Twin h2 ho.q1).mono fun e w' ⟨r', g2', bc', qv2', he, hr, hrf, hbl⟩ => ⟨r', he, ⟨F, fun k => fp p' g' m' qv' k ∨ rfp r' g2' qv2' k, { newD n with cap := c' }, hp.at (fun k hk => hbl.block k (hp.lt k hk)), hF, ⟨g', m', qv', g2', bc', qv2', hd.at (fun k hk => hbl.block k (hd.lt k hk)), hr.capped c', fun k hk hk' => by have := hrf k hk'; have := hd.lt k hk; omega, fun k => Iff.rfl⟩, ⟨ho.r1, ho.r2, ho.f2, ho.q1⟩, rfl, fun k hk => ?_⟩, h.bel.trans (hbl.mono hs)⟩
  rcases hk with hk | hk
  · exact hf k hk
  · have := hrf k hk
    exact ⟨by omega, fun e => by have := hp.lt k e; omega⟩
/-- a state of the loop -/
def QL (w0 w : World) (la ma n : Nat) : Prop := ∃ ps rs Ds Fs, QS w0 w la ma n ps rs Ds Fs
theorem Z4.start {p r p' r' : Nat} (h : Z4 w0 w n p r p' r') : QL w0 ((w.alloc (.cells #[.pointer (some ⟨p, 0, none⟩), .pointer (some ⟨p', 0, none⟩)] 64)).alloc (.cells #[.pointer (some ⟨r, 0, none⟩), .pointer (some ⟨r', 0, none⟩)] 66)) w.heap.size (w.heap.size + 1) 0 := by
  obtain ⟨F, F', D, h0, hF, h1, o1, q1, hF'⟩ := h.ex
  exact QS.start h0 h1 (newD_ok n) o1 rfl q1 (fun k hk hk' => (hF' k hk').2 hk) hF (fun k hk => (hF' k hk).1) h.bel
end Go.Proofs.YtcbaflnmfiofeaaDk
namespace Go.Proofs.YtcbaflnmfiofeaaDk
open Go.RowKit Go.Maps Go.Proofs.YtcbaflnmfiofeaaKp Go.Proofs.YtcbaflnmfiofeaaCm Go.Proofs.YtcbaflnmfiofeaaW.PrintWords
set_option linter.unusedVariables false
set_option linter.unusedSimpArgs false
/-- a step of a script at ad -/
def OpAt (w : World) (ad : Addr) : Prop := ∃ (kind who a b c : Int) (s : ByteArray), w.cell? (ad.add 0) = some (.int .i64 kind) ∧ w.cell? (ad.add 1) = some (.int .i64 who) ∧ w.cell? (ad.add 2) = some (.int .i64 a) ∧ w.cell? (ad.add 3) = some (.int .i64 b) ∧ w.cell? (ad.add 4) = some (.int .i64 c) ∧ w.cell? (ad.add 5) = some (.string s) ∧ a ≤ 9223372036854775807
def OpCells (w1 : World) (ad : Addr) (kind who a b c : Int) (s : ByteArray) : Prop := w1.cell? ad = some (.int .i64 kind) ∧ w1.cell? ⟨ad.block, ad.off + 1, none⟩ = some (.int .i64 who) ∧ w1.cell? ⟨ad.block, ad.off + 2, none⟩ = some (.int .i64 a) ∧ w1.cell? ⟨ad.block, ad.off + 3, none⟩ = some (.int .i64 b) ∧ w1.cell? ⟨ad.block, ad.off + 4, none⟩ = some (.int .i64 c) ∧ w1.cell? ⟨ad.block, ad.off + 5, none⟩ = some (.string s)
/-- the same, as the walk asks for it -/
theorem OpAt.walk {w : World} {ad : Addr} (h : OpAt w ad) : ∃ (kind who a b c : Int) (s : ByteArray), (∀ w1, Below w.heap.size w w1 → OpCells w1 ad kind who a b c s) ∧ a ≤ 9223372036854775807 := by
  obtain ⟨kind, who, a, b, c, s, o0, o1, o2, o3, o4, o5, hr⟩ := h
  exact ⟨kind, who, a, b, c, s, fun w1 hb => ⟨pw_cell_below hb o0, pw_cell_below hb o1, pw_cell_below hb o2, pw_cell_below hb o3, pw_cell_below hb o4, pw_cell_below hb o5⟩, hr⟩
theorem QS.up {w0 w : World} {la ma n : Nat} {ps rs : Nat → Nat} {Ds : Nat → Dm} {Fs : Nat → Nat → Prop} (h : QS w0 w la ma n ps rs Ds Fs) : QS w0 w la ma (n + 1) ps rs Ds Fs :=
  ⟨h.pr, fun b hb => ⟨(h.ok b hb).1, by have := (h.ok b hb).2; omega⟩, h.dis, h.new, h.rla, h.rma, h.ne, h.nla, h.nma, h.bel⟩
theorem QU.put' {w0 w : World} {la ma n : Nat} {ps rs : Nat → Nat} {Ds : Nat → Dm} {Fs : Nat → Nat → Prop} {p' r' b : Nat} (h : QU w0 w la ma n ps rs Ds Fs b p' r') (c : Nat) (hc : c < 2) : QL w0 ((w.setCell ⟨la, c, none⟩ (.pointer (some ⟨p', 0, none⟩))).setCell ⟨ma, c, none⟩ (.pointer (some ⟨r', 0, none⟩))) la ma (n + 1) := by
  obtain ⟨ps', rs', Ds', Fs', h'⟩ := h.put c hc
  exact ⟨ps', rs', Ds', Fs', h'.up⟩
attribute [local go_sem ↓] Go.wp_at_zero Go.wp_at_succ
set_option maxRecDepth 100000 in
set_option maxHeartbeats 4000000 in
theorem play_main (a0 : Option Addr) (len cap : Nat) (n : Nat) (each : Bool) (w : World) (hl : len ≤ 300) (hcap : len ≤ cap) (h1 : 1 ≤ n) (h2 : n ≤ 100) (hop : ∀ i, i < len → ∃ ad, a0 = some ad ∧ OpAt w (ad.add (i * 6))) :
    Calls Try.prog 22 #[.int .i64 n, .slice a0 len cap, .bool each] w fun e w' => e = .returned (.bool true) ∧ Below w.heap.size w w' := by
  have ka : ∀ w0, Calls Try.prog 9 #[] w0 fun e w' => e = .returned (.bool true) ∧ Below w0.heap.size w0 w' := c_alive
  replace ka := Lib.hid ka
  have d1 : decide (300 < len) = false := decide_eq_false (by omega)
  have d1' : decide ((300 : Int) < (len : Int)) = false := decide_eq_false (by omega)
  have d2 : decide (100 < n) = false := decide_eq_false (by omega)
  have d2' : decide ((100 : Int) < (n : Int)) = false := decide_eq_false (by omega)
  replace hop := Lib.hid hop
  have hn := Lib.hid (And.intro h1 (show n ≤ 65536 by omega))
  clear h1 h2
  go_enter Try.func22, Try.ntmps22
  go_upto_region 12 with (first
      | (go_at_call 9; refine (ka.out _).mono ?_; rintro e w1 ⟨rfl, hb⟩; have HB := Lib.hid hb; clear hb)
      | (go_at_call 10; refine (z_New HB.out hn.out.1 hn.out.2).mono ?_; rintro e w2 ⟨p, rfl, hs⟩; have HS := Lib.hid hs; clear hs)
      | (go_at_call 29; refine (z_New2 HS.out hn.out.1 hn.out.2).mono ?_; rintro e w3 ⟨r, rfl, hs⟩; clear HS; have HS := Lib.hid hs; clear hs)
      | (go_at_call 25; refine (z_Twin HS.out).mono ?_; rintro e w4 ⟨p', rfl, hs⟩; clear HS; have HS := Lib.hid hs; clear hs)
      | (go_at_call 30; refine (z_Twin2 HS.out).mono ?_; rintro e w5 ⟨r', rfl, hs⟩; clear HS; have HS := Lib.hid hs; clear hs))
  have hst := HS.out.start
  change Code.wp _ _ _ _ ((w5.alloc (.cells #[.pointer (some ⟨p, 0, none⟩), .pointer (some ⟨p', 0, none⟩)] 64)).alloc (.cells #[.pointer (some ⟨r, 0, none⟩), .pointer (some ⟨r', 0, none⟩)] 66))
  generalize ((w5.alloc (.cells #[.pointer (some ⟨p, 0, none⟩), .pointer (some ⟨p', 0, none⟩)] 64)).alloc (.cells #[.pointer (some ⟨r, 0, none⟩), .pointer (some ⟨r', 0, none⟩)] 66)) = w6 at *
  generalize w5.heap.size = la at *
  obtain ⟨ma, hma⟩ : ∃ ma, ma = la + 1 := ⟨_, rfl⟩
  rw [← hma] at hst ⊢
  clear HS HB ka hma
  have HS := Lib.hid hst
  clear hst
  go_wp2_with fail
  go_loopw [13] (fun v wr => ∃ i : Nat, i ≤ len ∧ v = .int .i64 i ∧ QL w wr la ma i) (fun v _ => len - (intOf v).toNat)
  case atStart => exact ⟨0, Nat.zero_le _, rfl, HS.out⟩
  case round =>
    clear HS
    obtain ⟨i, hi, rfl, hst⟩ := hrel
    obtain ⟨ps, rs, Ds, Fs, hq⟩ := hst
    have c0 : wr.cell? ⟨la, 0, none⟩ = some (.pointer (some ⟨ps 0, 0, none⟩)) := hq.cl 0 (by omega)
    have c1 : wr.cell? ⟨la, 1, none⟩ = some (.pointer (some ⟨ps 1, 0, none⟩)) := hq.cl 1 (by omega)
    have m0 : wr.cell? ⟨ma, 0, none⟩ = some (.pointer (some ⟨rs 0, 0, none⟩)) := hq.cm 0 (by omega)
    have m1 : wr.cell? ⟨ma, 1, none⟩ = some (.pointer (some ⟨rs 1, 0, none⟩)) := hq.cm 1 (by omega)
    by_cases hin : i < len
    · have d5 : decide (i < len) = true := decide_eq_true hin
      have hi1 : Hid (i + 1 ≤ len) := Lib.hid (by omega)
      obtain ⟨ad, rfl, hoq⟩ := hop.out i hin
      obtain ⟨kind, who, a, b, c, s, hob, hr⟩ := hoq.walk
      obtain ⟨o0, o1, o2, o3, o4, o5⟩ := hob wr hq.bel
      have HO := Lib.hid hob
      clear hoq hob
      have hi3 := Lib.hid (show i + 1 < 1000000000000 by omega)
      have v0 : IntKind.i64.wrap 0 = 0 := by decide
      have v1 : IntKind.i64.wrap 1 = 1 := by decide
      have v2 : IntKind.i64.wrap (1 - 0) = 1 := by decide
      have v3 : IntKind.i64.wrap (1 - 1) = 0 := by decide
      have hne : la ≠ ma := hq.ne
      have hne' : ma ≠ la := hq.ne.symm
      have HQ := Lib.hid hq
      clear hq
      by_cases hk : kind = 9
      · have f9 : (kind == 9) = true := by simpa using hk
        clear hk
        by_cases hb0 : who % 2 = 0
        · have d6 : bits .and .i64 who 1 = 0 := by rw [i64_and1]; exact hb0
          clear hb0
          go_upto_region 17 with fail
          have HD := Lib.hid HQ.out.drew
          go_region_held3 (fun W => W.cell? ⟨la, 0, none⟩ = some (.pointer (some ⟨ps 0, 0, none⟩)) ∧ W.cell? ⟨ma, 0, none⟩ = some (.pointer (some ⟨rs 0, 0, none⟩)))
            (first | (go_keep; done) | exact ⟨e0, e1⟩ | (refine And.intro ?_ ?_ <;> (repeat (refine (World.cell?_setCell_other _ _ _ _ (by simp [hne, hne'])).trans ?_)) <;> assumption))
            (first
              | (go_at_call 25; refine (q_Twin HD.out 0 (by omega)).mono ?_; rintro e w7 ⟨p9, rfl, hs⟩; obtain ⟨e0, e1, e2, e3, e4, e5⟩ := hs.qs.keys 0 1 (by omega) (by omega); have HT := Lib.hid hs; clear hs)
              | (go_at_call 30; refine (q_Twin2 HT.out (by omega)).mono ?_; rintro e w8 ⟨r9, rfl, hs⟩; obtain ⟨e0, e1, e2, e3, e4, e5⟩ := hs.qs.keys 0 1 (by omega) (by omega); have HU := Lib.hid hs; clear hs))
          have hX := HU.out.put' 1 (by omega)
          rename_i hHeld
          clear hHeld
          go_upto_region 20 with fail
          generalize ((w8.setCell ⟨la, 1, none⟩ (.pointer (some ⟨p9, 0, none⟩))).setCell ⟨ma, 1, none⟩ (.pointer (some ⟨r9, 0, none⟩))) = wx at *
          clear HQ HD HT HU
          obtain ⟨ps2, rs2, Ds2, Fs2, hx⟩ := hX
          clear o0 o1 o2 o3 o4 o5 HO hr v0 v1 v2 v3 f9 d6 c0 c1 m0 m1 e0 e1 e2 e3 e4 e5
          obtain ⟨e0, e1, e2, e3, e4, e5⟩ := hx.keys 0 1 (by omega) (by omega)
          have HX := Lib.hid hx
          clear hx
          cases each
          · go_wp2_with fail
            exact ⟨⟨i + 1, hi1.out, by simp, ⟨_, _, _, _, HX.out⟩⟩, by have := hi1.out; simp [intOf]; omega⟩
          · go_wp2_with (first
              | (go_at_call 32; with_reducible refine (q_looks HX.out 0 (by omega)).mono ?_; rintro e w10 ⟨rfl, hs⟩; obtain ⟨e0, e1, e2, e3, e4, e5⟩ := hs.keys 0 1 (by omega) (by omega); have HQ2 := Lib.hid hs; clear hs)
              | (go_at_call 32; with_reducible refine (q_looks HQ2.out 1 (by omega)).mono ?_; rintro e w11 ⟨rfl, hs⟩; have HQ3 := Lib.hid hs; clear hs))
            exact ⟨⟨i + 1, hi1.out, by simp, ⟨_, _, _, _, HQ3.out⟩⟩, by have := hi1.out; simp [intOf]; omega⟩
        · have d6 : bits .and .i64 who 1 = 1 := by rw [i64_and1]; omega
          clear hb0
          go_upto_region 17 with fail
          have HD := Lib.hid HQ.out.drew
          go_region_held3 (fun W => W.cell? ⟨la, 1, none⟩ = some (.pointer (some ⟨ps 1, 0, none⟩)) ∧ W.cell? ⟨ma, 1, none⟩ = some (.pointer (some ⟨rs 1, 0, none⟩)))
            (first | (go_keep; done) | exact ⟨e0, e1⟩ | (refine And.intro ?_ ?_ <;> (repeat (refine (World.cell?_setCell_other _ _ _ _ (by simp [hne, hne'])).trans ?_)) <;> assumption))
            (first
              | (go_at_call 25; refine (q_Twin HD.out 1 (by omega)).mono ?_; rintro e w7 ⟨p9, rfl, hs⟩; obtain ⟨e0, e1, e2, e3, e4, e5⟩ := hs.qs.keys 1 0 (by omega) (by omega); have HT := Lib.hid hs; clear hs)
              | (go_at_call 30; refine (q_Twin2 HT.out (by omega)).mono ?_; rintro e w8 ⟨r9, rfl, hs⟩; obtain ⟨e0, e1, e2, e3, e4, e5⟩ := hs.qs.keys 1 0 (by omega) (by omega); have HU := Lib.hid hs; clear hs))
          have hX := HU.out.put' 0 (by omega)
          rename_i hHeld
          clear hHeld
          go_upto_region 20 with fail
          generalize ((w8.setCell ⟨la, 0, none⟩ (.pointer (some ⟨p9, 0, none⟩))).setCell ⟨ma, 0, none⟩ (.pointer (some ⟨r9, 0, none⟩))) = wx at *
          clear HQ HD HT HU
          obtain ⟨ps2, rs2, Ds2, Fs2, hx⟩ := hX
          clear o0 o1 o2 o3 o4 o5 HO hr v0 v1 v2 v3 f9 d6 c0 c1 m0 m1 e0 e1 e2 e3 e4 e5
          obtain ⟨e0, e1, e2, e3, e4, e5⟩ := hx.keys 0 1 (by omega) (by omega)
          have HX := Lib.hid hx
          clear hx
          cases each
          · go_wp2_with fail
            exact ⟨⟨i + 1, hi1.out, by simp, ⟨_, _, _, _, HX.out⟩⟩, by have := hi1.out; simp [intOf]; omega⟩
          · go_wp2_with (first
              | (go_at_call 32; with_reducible refine (q_looks HX.out 0 (by omega)).mono ?_; rintro e w10 ⟨rfl, hs⟩; obtain ⟨e0, e1, e2, e3, e4, e5⟩ := hs.keys 0 1 (by omega) (by omega); have HQ2 := Lib.hid hs; clear hs)
              | (go_at_call 32; with_reducible refine (q_looks HQ2.out 1 (by omega)).mono ?_; rintro e w11 ⟨rfl, hs⟩; have HQ3 := Lib.hid hs; clear hs))
            exact ⟨⟨i + 1, hi1.out, by simp, ⟨_, _, _, _, HQ3.out⟩⟩, by have := hi1.out; simp [intOf]; omega⟩
      · have f9 : (kind == 9) = false := by simpa using hk
        clear hk
        by_cases hb0 : who % 2 = 0
        · have d6 : bits .and .i64 who 1 = 0 := by rw [i64_and1]; exact hb0
          clear hb0
          go_upto_region 18 with fail
          have HD := Lib.hid HQ.out.drew
          go_region_held3 (fun W => W.cell? ⟨la, 0, none⟩ = some (.pointer (some ⟨ps 0, 0, none⟩)) ∧ W.cell? ⟨ma, 0, none⟩ = some (.pointer (some ⟨rs 0, 0, none⟩)) ∧ W.cell? (ad.add (i * 6)) = some (.int .i64 kind) ∧ W.cell? ⟨(ad.add (i * 6)).block, (ad.add (i * 6)).off + 1, none⟩ = some (.int .i64 who) ∧ W.cell? ⟨(ad.add (i * 6)).block, (ad.add (i * 6)).off + 2, none⟩ = some (.int .i64 a) ∧ W.cell? ⟨(ad.add (i * 6)).block, (ad.add (i * 6)).off + 3, none⟩ = some (.int .i64 b) ∧ W.cell? ⟨(ad.add (i * 6)).block, (ad.add (i * 6)).off + 4, none⟩ = some (.int .i64 c) ∧ W.cell? ⟨(ad.add (i * 6)).block, (ad.add (i * 6)).off + 5, none⟩ = some (.string s))
            (first | (go_keep; done) | exact ⟨e0, e1, e6⟩)
            (first
              | (go_at_call 31; refine (q_step HD.out hi3.out 0 (by omega) kind who a b c s hr).mono ?_; rintro e w7 ⟨rfl, Ds7, Fs7, hs⟩; obtain ⟨e0, e1, -⟩ := hs.keys 0 0 (by omega) (by omega); have e6 := HO.out _ hs.bel; have hX : QL w w7 la ma (i + 1) := ⟨_, _, _, _, hs⟩; clear hs))
          rename_i hHeld
          clear hHeld
          go_upto_region 20 with fail
          clear HQ HD
          obtain ⟨ps2, rs2, Ds2, Fs2, hx⟩ := hX
          clear o0 o1 o2 o3 o4 o5 HO hr v0 v1 v2 v3 f9 d6 c0 c1 m0 m1 e0 e1 e6
          obtain ⟨e0, e1, e2, e3, e4, e5⟩ := hx.keys 0 1 (by omega) (by omega)
          have HX := Lib.hid hx
          clear hx
          cases each
          · go_wp2_with fail
            exact ⟨⟨i + 1, hi1.out, by simp, ⟨_, _, _, _, HX.out⟩⟩, by have := hi1.out; simp [intOf]; omega⟩
          · go_wp2_with (first
              | (go_at_call 32; with_reducible refine (q_looks HX.out 0 (by omega)).mono ?_; rintro e w10 ⟨rfl, hs⟩; obtain ⟨e0, e1, e2, e3, e4, e5⟩ := hs.keys 0 1 (by omega) (by omega); have HQ2 := Lib.hid hs; clear hs)
              | (go_at_call 32; with_reducible refine (q_looks HQ2.out 1 (by omega)).mono ?_; rintro e w11 ⟨rfl, hs⟩; have HQ3 := Lib.hid hs; clear hs))
            exact ⟨⟨i + 1, hi1.out, by simp, ⟨_, _, _, _, HQ3.out⟩⟩, by have := hi1.out; simp [intOf]; omega⟩
        · have d6 : bits .and .i64 who 1 = 1 := by rw [i64_and1]; omega
          clear hb0
          go_upto_region 18 with fail
          have HD := Lib.hid HQ.out.drew
          go_region_held3 (fun W => W.cell? ⟨la, 1, none⟩ = some (.pointer (some ⟨ps 1, 0, none⟩)) ∧ W.cell? ⟨ma, 1, none⟩ = some (.pointer (some ⟨rs 1, 0, none⟩)) ∧ W.cell? (ad.add (i * 6)) = some (.int .i64 kind) ∧ W.cell? ⟨(ad.add (i * 6)).block, (ad.add (i * 6)).off + 1, none⟩ = some (.int .i64 who) ∧ W.cell? ⟨(ad.add (i * 6)).block, (ad.add (i * 6)).off + 2, none⟩ = some (.int .i64 a) ∧ W.cell? ⟨(ad.add (i * 6)).block, (ad.add (i * 6)).off + 3, none⟩ = some (.int .i64 b) ∧ W.cell? ⟨(ad.add (i * 6)).block, (ad.add (i * 6)).off + 4, none⟩ = some (.int .i64 c) ∧ W.cell? ⟨(ad.add (i * 6)).block, (ad.add (i * 6)).off + 5, none⟩ = some (.string s))
            (first | (go_keep; done) | exact ⟨e0, e1, e6⟩)
            (first
              | (go_at_call 31; refine (q_step HD.out hi3.out 1 (by omega) kind who a b c s hr).mono ?_; rintro e w7 ⟨rfl, Ds7, Fs7, hs⟩; obtain ⟨e0, e1, -⟩ := hs.keys 1 1 (by omega) (by omega); have e6 := HO.out _ hs.bel; have hX : QL w w7 la ma (i + 1) := ⟨_, _, _, _, hs⟩; clear hs))
          rename_i hHeld
          clear hHeld
          go_upto_region 20 with fail
          clear HQ HD
          obtain ⟨ps2, rs2, Ds2, Fs2, hx⟩ := hX
          clear o0 o1 o2 o3 o4 o5 HO hr v0 v1 v2 v3 f9 d6 c0 c1 m0 m1 e0 e1 e6
          obtain ⟨e0, e1, e2, e3, e4, e5⟩ := hx.keys 0 1 (by omega) (by omega)
          have HX := Lib.hid hx
          clear hx
          cases each
          · go_wp2_with fail
            exact ⟨⟨i + 1, hi1.out, by simp, ⟨_, _, _, _, HX.out⟩⟩, by have := hi1.out; simp [intOf]; omega⟩
          · go_wp2_with (first
              | (go_at_call 32; with_reducible refine (q_looks HX.out 0 (by omega)).mono ?_; rintro e w10 ⟨rfl, hs⟩; obtain ⟨e0, e1, e2, e3, e4, e5⟩ := hs.keys 0 1 (by omega) (by omega); have HQ2 := Lib.hid hs; clear hs)
              | (go_at_call 32; with_reducible refine (q_looks HQ2.out 1 (by omega)).mono ?_; rintro e w11 ⟨rfl, hs⟩; have HQ3 := Lib.hid hs; clear hs))
            exact ⟨⟨i + 1, hi1.out, by simp, ⟨_, _, _, _, HQ3.out⟩⟩, by have := hi1.out; simp [intOf]; omega⟩
    · obtain rfl : i = len := by omega
      have d5 : decide (i < i) = false := by simp
      have HQ := Lib.hid hq
      clear hq hin
      go_wp2_with (first
        | (go_at_call 32; with_reducible refine (q_looks HQ.out 0 (by omega)).mono ?_; rintro e w7 ⟨rfl, hs⟩; obtain ⟨e0, e1, e2, e3, e4, e5⟩ := hs.keys 0 1 (by omega) (by omega); have HQ2 := Lib.hid hs; clear hs)
        | (go_at_call 32; with_reducible refine (q_looks HQ2.out 1 (by omega)).mono ?_; rintro e w8 ⟨rfl, hs⟩; have HQ3 := Lib.hid hs; clear hs))
      go_ret
      exact ⟨rfl, HQ3.out.bel⟩
end Go.Proofs.YtcbaflnmfiofeaaDk
namespace Go.Proofs.YtcbaflnmfiofeaaDk
open Go.RowKit Go.Maps Go.Proofs.YtcbaflnmfiofeaaKp Go.Proofs.YtcbaflnmfiofeaaCm Go.Proofs.YtcbaflnmfiofeaaW.PrintWords
open Go.ChangeShapes Go.WideShapes Go.Deep
set_option linter.unusedVariables false
set_option linter.unusedSimpArgs false
theorem op_fields : (match Try.prog.underlying 68 with | some (.struct fs) => fs.toList.map (fun f => (f.type, f.offset)) | _ => []) = [(3, 0), (3, 1), (3, 2), (3, 3), (3, 4), (9, 5)] := by kernel_rfl
theorem op_cells : Try.prog.cellsOf 68 = 6 := by kernel_rfl
theorem one_int : Try.prog.cellsOf 3 = 1 := by kernel_rfl
theorem one_string : Try.prog.cellsOf 9 = 1 := by kernel_rfl
theorem open_op {H : Type} {enc : TypeId × Value → H} {w : World} {spare : Nat → Bool} {held : Bool} {fuel : Nat} {cs : List Value} {x : DataW H × List MemPlace} {ad : Addr} (hc : w.cells? 0 ad 6 = some cs)
    (h : DataW.trod enc Try.prog w 0 spare held fuel 68 cs = some x) : OpAt w ad := by
  obtain ⟨fs, hfs⟩ : ∃ fs, Try.prog.underlying 68 = some (.struct fs) := by
    have := op_fields
    split at this
    · exact ⟨_, by assumption⟩
    · cases this
  have hof := op_fields
  rw [hfs] at hof
  obtain ⟨xs, n, _, _, hcl, hlen, hg⟩ := DataW.trod_struct hfs h
  rw [op_cells] at hcl
  obtain ⟨_, _, hat⟩ := World.cells?_some hc
  have hf : ∀ (j : Nat) (t : TypeId), (fs.toList.map (fun f => (f.type, f.offset)))[j]? = some (t, j) → Try.prog.cellsOf t = 1 → ∀ (hj : j < 6), ∃ v y, w.cell? (ad.add j) = some v ∧ DataW.trod enc Try.prog w 0 spare held n t [v] = some y := by
    intro j t hjt h1 hj
    rw [List.getElem?_map, Option.map_eq_some_iff] at hjt
    obtain ⟨f, hf, he⟩ := hjt
    rw [Array.getElem?_toList] at hf
    simp only [Prod.mk.injEq] at he
    obtain ⟨rfl, ho⟩ := he
    have h2 := hg j f hf
    rw [ho, h1] at h2
    have hd : (cs.drop j).take 1 = [cs[j]'(by omega)] := by
      rw [List.drop_eq_getElem_cons (by omega)]
      rfl
    rw [hd] at h2
    have hjx : j < xs.length := by rw [hlen]; exact (Array.getElem?_eq_some_iff.1 hf).1
    refine ⟨_, _, ?_, h2.trans (List.getElem?_eq_getElem hjx)⟩
    rw [hat j hj]
    exact List.getElem?_eq_getElem (by omega)
  rw [show (match some (TypeDesc.struct fs) with | some (.struct fs) => fs.toList.map (fun f => (f.type, f.offset)) | _ => []) = fs.toList.map (fun f => (f.type, f.offset)) from rfl] at hof
  rw [hof] at hf
  have hi : ∀ j, j < 5 → ∃ n, w.cell? (ad.add j) = some (.int .i64 n) ∧ (Lit.int .i64 n).wf = true := by
    intro j hj
    obtain ⟨v, y, hv, ht⟩ := hf j 3 (by match j, hj with | 0, _ => rfl | 1, _ => rfl | 2, _ => rfl | 3, _ => rfl | 4, _ => rfl) one_int (by omega)
    obtain ⟨n, he, _, hw⟩ := DataW.trod_int Try.underlying3 ht
    cases he
    exact ⟨n, hv, hw⟩
  obtain ⟨kind, o0, _⟩ := hi 0 (by omega)
  obtain ⟨who, o1, _⟩ := hi 1 (by omega)
  obtain ⟨a, o2, hw⟩ := hi 2 (by omega)
  obtain ⟨b, o3, _⟩ := hi 3 (by omega)
  obtain ⟨c, o4, _⟩ := hi 4 (by omega)
  obtain ⟨v, y, o5, ht⟩ := hf 5 9 rfl one_string (by omega)
  obtain ⟨s, he, _, _⟩ := DataW.trod_string Try.underlying9 ht
  cases he
  have hwa : -9223372036854775808 ≤ a ∧ a ≤ 9223372036854775807 := by simpa [Lit.wf, IntKind.min, IntKind.max, IntKind.signed, IntKind.bits] using hw
  exact ⟨kind, who, a, b, c, s, o0, o1, o2, o3, o4, o5, hwa.2⟩
/-- a script as it is handed in -/
def Script (w : World) (a0 : Option Addr) (len cap : Nat) : Prop := len ≤ cap ∧ ∀ i, i < len → ∃ ad, a0 = some ad ∧ OpAt w (ad.add (i * 6))
theorem open_script {H : Type} {enc : TypeId × Value → H} {w : World} {held : Bool} {fuel : Nat} {a0 : Option Addr} {len cap : Nat} {x : DataW H × List MemPlace}
    (h : DataW.trod enc Try.prog w 0 (fun _ => true) held fuel 41 [.slice a0 len cap] = some x) : Script w a0 len cap := by
  rcases open_slice Try.underlying41 h with ⟨hcs, _⟩ | ⟨a, l, c, m, n, D, Pl, hcs, _, hl, _, hm, _, hi⟩
  · simp only [List.cons.injEq, Value.slice.injEq, and_true] at hcs
    obtain ⟨rfl, rfl, rfl⟩ := hcs
    exact ⟨Nat.le_refl _, fun i hi => absurd hi (by omega)⟩
  · simp only [List.cons.injEq, Value.slice.injEq, and_true] at hcs
    obtain ⟨rfl, rfl, rfl⟩ := hcs
    refine ⟨hl, fun i hil => ⟨a, rfl, ?_⟩⟩
    obtain ⟨cs', hc, ht⟩ := hi i (by rw [hm]; simp only [if_true]; omega)
    rw [op_cells] at hc
    exact open_op hc ht
theorem c_play (sectors : Int) (a0 : Option Addr) (len cap : Nat) (each : Bool) (w : World) (h : Script w a0 len cap) :
    Calls Try.prog 22 #[.int .i64 sectors, .slice a0 len cap, .bool each] w fun e w' => e = .returned (.bool true) ∧ Below w.heap.size w w' := by
  by_cases h1 : 300 < len ∨ ¬ (1 ≤ sectors ∧ sectors ≤ 100)
  · exact play_early a0 len cap sectors each w h1
  · obtain ⟨n, rfl⟩ := Int.eq_ofNat_of_zero_le (show 0 ≤ sectors by omega)
    exact play_main a0 len cap n each w (by omega) h.1 (by omega) (by omega) h.2
theorem walk_DiskPlays (w : World) (sectors : Int) (a0 : Option Addr) (len cap : Nat) (hw : -9223372036854775808 ≤ sectors ∧ sectors ≤ 9223372036854775807) (h : Script w a0 len cap) :
    Calls Try.prog 6 #[.int .i64 sectors, .slice a0 len cap] w fun e w' => e = .returned (.bool true) ∧ Below w.heap.size w w' := by
  have k1 := Lib.hid (c_play sectors a0 len cap false w h)
  clear h
  go_enter Try.func6, Try.ntmps6
  go_wp2_with (go_at_call 22; refine k1.out.mono ?_; rintro e w1 ⟨rfl, hb⟩; have HB := Lib.hid hb; clear hb)
  go_ret
  exact ⟨rfl, HB.out⟩
theorem walk_DiskAll (w : World) (sectors : Int) (a0 : Option Addr) (len cap : Nat) (hw : -9223372036854775808 ≤ sectors ∧ sectors ≤ 9223372036854775807) (h : Script w a0 len cap) :
    Calls Try.prog 7 #[.int .i64 sectors, .slice a0 len cap] w fun e w' => e = .returned (.bool true) ∧ Below w.heap.size w w' := by
  have k1 := Lib.hid (c_play sectors a0 len cap true w h)
  clear h
  go_enter Try.func7, Try.ntmps7
  go_wp2_with (go_at_call 22; refine k1.out.mono ?_; rintro e w1 ⟨rfl, hb⟩; have HB := Lib.hid hb; clear hb)
  go_ret
  exact ⟨rfl, HB.out⟩
end Go.Proofs.YtcbaflnmfiofeaaDk
