/-
  vdisk: Crash. Condition: none.
-/
import Derived.Test.YtladbjlkkjcfnaaDkT
import Derived.StillTailTactics
import Derived.Maps.RangeWalk
import Derived.Deep.DeepCutAuto
import Derived.Deep.CutBlock
namespace Go.Proofs.YtladbjlkkjcfnaaDk
open Go.RowKit Go.Maps Go.Proofs.YtladbjlkkjcfnaaKp Go.Proofs.YtladbjlkkjcfnaaCm
set_option linter.unusedVariables false
set_option linter.unusedSimpArgs false
variable {w : World} {p g m : Nat} {qv : Value} {D : Dm}
def keepS (D : Dm) (k : Int) : Nat := (min (max k 0) (D.q.length : Int)).toNat
def tornT (t : Int) : Nat := (min (max t 0) 64).toNat
def tornS (secs : List (List Int)) (x : Int × List Int) (t : Nat) : List (List Int) := secs.set x.1.toNat (x.2.take t ++ (secs.getD x.1.toNat []).drop t)
def crashSecs (D : Dm) (k t : Nat) : List (List Int) := match D.q[k]? with
  | some x => tornS (layK D.secs D.q k) x t
  | none => layK D.secs D.q k
/-- the power is taken -/
def crashS (D : Dm) (keep torn : Int) : Dm := if D.on then { D with secs := crashSecs D (keepS D keep) (tornT torn), q := [], on := false } else D
theorem c_Crash_off (h : Dsk w p g m qv D) (keep torn : Int) (ho : D.on = false) : Calls Try.prog 16 #[.pointer (some ⟨p, 0, none⟩), .int .i64 keep, .int .i64 torn] w fun e w' => e = .returned (.tuple #[]) ∧ w' = w := by
  have k1 := Lib.hid (c_On h)
  rw [ho] at k1
  clear h ho
  go_enter Try.func16, Try.ntmps16
  go_wp2_with (go_at_call 24; refine k1.out.mono ?_; rintro e w0 ⟨rfl, hw0⟩; have hw0 := hw0.symm; subst hw0)
  exact ⟨rfl, _, results_void rfl _ _, rfl, rfl⟩
set_option maxRecDepth 100000 in
theorem c_Crash_on (h : Dsk w p g m qv D) (keep torn : Int) (ho : D.on = true) : Calls Try.prog 16 #[.pointer (some ⟨p, 0, none⟩), .int .i64 keep, .int .i64 torn] w fun e w' => e = .returned (.tuple #[]) ∧
    ∃ m', w.heap.size ≤ m' ∧ Dsk w' p g m' (.slice none 0 0) (crashS D keep torn) ∧ Kept (fun k => k = p ∨ k = g) w w' := by
  have k1 := Lib.hid (c_On h)
  rw [ho] at k1
  obtain ⟨a, cap, hqq, hc, hmx⟩ := que_cap h
  obtain ⟨_, c1, _⟩ := h.cells
  rw [hqq] at c1
  obtain ⟨k, hk⟩ : ∃ k, k = keepS D keep := ⟨_, rfl⟩
  obtain ⟨t, ht⟩ : ∃ t, t = tornT torn := ⟨_, rfl⟩
  have hkl : k ≤ D.q.length := by rw [hk]; unfold keepS; omega
  have htl : t ≤ 64 := by rw [ht]; unfold tornT; omega
  have e1 := Lib.hid (show (if (D.q.length : Int) < if keep < 0 then 0 else keep then (D.q.length : Int) else if keep < 0 then 0 else keep) = (k : Int) by rw [hk]; unfold keepS; split <;> split <;> omega)
  have e2 := Lib.hid (show (if (64 : Int) < if torn < 0 then 0 else torn then (64 : Int) else if torn < 0 then 0 else torn) = (t : Int) by rw [ht]; unfold tornT; split <;> split <;> omega)
  have k3 := Lib.hid (c_kept h k hkl a cap hqq hc hmx)
  have H := Lib.hid (And.intro h (And.intro hqq (And.intro ho (And.intro hk ht))))
  clear h hqq ho hk ht
  go_enter Try.func16, Try.ntmps16
  go_upto_region 3 with (first | (go_at_call 24; refine k1.out.mono ?_; rintro e w0 ⟨rfl, hw0⟩; have hw0 := hw0.symm; subst hw0))
  rw [e1.out, e2.out]
  clear e1 e2
  generalize (if keep < 0 then (0 : Int) else keep) = zk
  generalize (if torn < 0 then (0 : Int) else torn) = zt
  by_cases hlt : k < D.q.length
  · obtain ⟨h, hqq, ho, hk, ht⟩ := H.out
    obtain ⟨qb, rfl⟩ : ∃ b, a = some ⟨b, 0, none⟩ := by
      obtain ⟨_, ⟨e, h0⟩ | ⟨b, cap', cur, e, _⟩⟩ := h.que
      · omega
      · rw [hqq] at e; simp at e; exact ⟨b, e.1⟩
    have i1 : (k : Int) ≤ (D.q.length : Int) := by omega
    have i2 : (D.q.length : Int) ≤ (cap : Int) := by omega
    have i3 : (0 : Int) ≤ (k : Int) := by omega
    clear h hqq ho hk ht
    go_upto_region 6 with (first | (go_at_call 31; refine k3.out.mono ?_; rintro e w2 ⟨rfl, hm2⟩; have HM := Lib.hid hm2; clear hm2))
    obtain ⟨h, hqq, ho, hk, ht⟩ := H.out
    obtain ⟨m', hm', hd2, hK2⟩ := HM.out
    obtain ⟨x, hx⟩ : ∃ x, D.q[k]? = some x := ⟨_, List.getElem?_eq_getElem hlt⟩
    obtain ⟨xi, s⟩ := x
    have hf := h.fits _ (List.mem_of_getElem? hx)
    simp only at hf
    obtain ⟨i, rfl⟩ := Int.eq_ofNat_of_zero_le hf.1
    have hi : i < D.secs.length := by omega
    have hl : s.length = 64 := hf.2.2
    have hqb : w2.heap[qb]? = w.heap[qb]? := hK2.block qb (ownBlock_lt h.que (by rw [hqq]; rfl)) (fun e => by
      rcases e with e | e
      · exact h.qp (by rw [hqq, ← e]; rfl)
      · exact h.qg (by rw [hqq, ← e]; rfl))
    have hr : w2.rangeAt qb (k * 65) (wcells ((i : Int), s)) := fun j v hv => by
      have := h.qrange hqq hx j v hv
      rw [Nat.mul_comm, ← this]
      exact World.cell?_of_block hqb
    have s1 : w2.cell? ⟨qb, k * 65, none⟩ = some (.int .i64 (i : Int)) := hr 0 _ rfl
    obtain ⟨s0, _⟩ := hd2.cells
    simp only [layK_length] at s0
    have j1 : (0 : Int) ≤ (i : Int) := by omega
    have j2 : (i : Int) < (D.secs.length : Int) := by omega
    have j3 : (0 : Int) ≤ (t : Int) := by omega
    have j4 : (t : Int) ≤ 64 := by omega
    have j5 : (0 : Int) < ((D.q.length - k : Nat) : Int) := by omega
    have hsrc : w2.rangeAt qb (k * 65 + 1) (u8s (s.take t)) := fun j v hv => by
      have hv' : (wcells ((i : Int), s))[j + 1]? = some v := by
        show (u8s s)[j]? = some v
        rw [u8s, List.map_take, List.getElem?_take] at hv
        split at hv
        · exact hv
        · cases hv
      have := hr (j + 1) v hv'
      rw [← this]
      congr 2
      omega
    have hth : w2.there g (i * 64) 64 := by rw [Nat.mul_comm]; exact hd2.sec.there (by simp only [layK_length]; exact hi) (Nat.le_refl _)
    have hcl : (u8s (s.take t)).length = t := by rw [u8s_length, List.length_take]; omega
    have HX := Lib.hid (And.intro hd2 (And.intro hK2 (And.intro hsrc (And.intro hth (And.intro hcl (And.intro hx (And.intro hl (And.intro hm' hi))))))))
    clear h hqq ho hk ht hm' hd2 hK2 hx hf hl hqb hr hsrc hth hcl HM k3 k1
    go_still_tail 16, (by kernel_rfl)
    change wpList _ _ _ _ _ w2.drew
    obtain ⟨hd2, hK2, hsrc, hth, hcl, hx, hl, hm', hi⟩ := HX.out
    have hsz5 : (Try.prog.info? 5).map (·.size) = some 1 := by kernel_rfl
    refine wpList_copy_cells rfl (.tmp 43) (.tmp 48) 31 31 rfl 5 Try.underlying31 hsz5 g (i * 64) t 64 (by rfl) ⟨qb, k * 65 + 1, none⟩ t 64 (by rfl) (u8s (s.take t)) (by rw [hcl]; exact (Nat.min_self t).symm)
      (fun j v hv => by rw [Addr.add_mid]; exact hsrc j v hv) (by rw [hcl]; exact fun j hj => hth j (by omega)) (oneU _) ?_
    have hd3 : Dsk w2.drew p g m' (.slice none 0 0) { D with secs := layK D.secs D.q k, q := [] } := hd2.at (fun _ _ => rfl)
    obtain ⟨ss, hss⟩ : ∃ ss, (layK D.secs D.q k)[i]? = some ss := ⟨_, List.getElem?_eq_getElem (by rw [layK_length]; exact hi)⟩
    have hd4 := hd3.sector (i := i) (s := ss) hss (xs := s.take t) (by rw [List.length_take]; omega)
    have hK4 : Kept (fun k => k = p ∨ k = g) w (w2.drew.setCells g (i * 64) (u8s (s.take t))) := (hK2.drew).setCells (b := g) (fun _ => .inr rfl) _ _
    have hD : { D with secs := (layK D.secs D.q k).set i (s.take t ++ ss.drop (s.take t).length), q := [] } = { D with secs := crashSecs D k t, q := [] } := by
      have : crashSecs D k t = (layK D.secs D.q k).set i (s.take t ++ ss.drop (s.take t).length) := by
        have e1 : (s.take t).length = t := by rw [List.length_take]; omega
        rw [e1]
        unfold crashSecs
        rw [hx]
        unfold tornS
        simp only [Int.toNat_natCast, List.getD_eq_getElem?_getD, hss, Option.getD_some]
      rw [this]
    simp only [hD] at hd4
    clear hD hd3 hd2 hK2 hsrc hth hcl hx hl hi hss HX
    obtain ⟨_, _, _, c3, _⟩ := hd4.cells
    have z3 := hd4.frozen 3
    have HY := Lib.hid (And.intro hd4 (And.intro hK4 hm'))
    clear hd4 hK4 hm'
    generalize (w2.drew.setCells g (i * 64) (u8s (s.take t))) = W3 at *
    go_wp2_with fail
    obtain ⟨hd4, hK4, hm'⟩ := HY.out
    obtain ⟨h, hqq, ho, hk, ht⟩ := H.out
    have hD : crashS D keep torn = { D with secs := crashSecs D k t, q := [], on := false } := by unfold crashS; rw [if_pos ho, ← hk, ← ht]
    exact ⟨rfl, _, results_void rfl _ _, rfl, m', hm', by rw [hD]; exact hd4.field 3 _ rfl rfl rfl rfl, hK4.setCell (a := ⟨p, 3, none⟩) (fun _ => .inl rfl) _⟩
  · obtain rfl : k = D.q.length := by omega
    have hcr : crashSecs D D.q.length t = layK D.secs D.q D.q.length := by
      unfold crashSecs
      rw [List.getElem?_eq_none (Nat.le_refl _)]
    have hcr := Lib.hid hcr
    have i2 : (D.q.length : Int) ≤ (cap : Int) := by omega
    have i4 : decide (0 < D.q.length - D.q.length) = false := by simp
    by_cases hcap : cap = D.q.length
    · subst hcap
      go_wp2_with (first | (go_at_call 31; refine k3.out.mono ?_; rintro e w2 ⟨rfl, hm2⟩; obtain ⟨m', hm', hd2, hK2⟩ := hm2; obtain ⟨_, _, _, c3, _⟩ := hd2.cells; have z3 := hd2.frozen 3; have HY := Lib.hid (And.intro hd2 (And.intro hK2 hm')); clear hd2 hK2 hm'))
      obtain ⟨hd2, hK2, hm'⟩ := HY.out
      obtain ⟨h, hqq, ho, hk, ht⟩ := H.out
      have hD : crashS D keep torn = { D with secs := layK D.secs D.q D.q.length, q := [], on := false } := by unfold crashS; rw [if_pos ho, ← hk, ← ht, hcr.out]
      exact ⟨rfl, _, results_void rfl _ _, rfl, m', hm', by rw [hD]; exact hd2.field 3 _ rfl rfl rfl rfl, hK2.setCell (a := ⟨p, 3, none⟩) (fun _ => .inl rfl) _⟩
    · go_wp2_with (first | (go_at_call 31; refine k3.out.mono ?_; rintro e w2 ⟨rfl, hm2⟩; obtain ⟨m', hm', hd2, hK2⟩ := hm2; obtain ⟨_, _, _, c3, _⟩ := hd2.cells; have z3 := hd2.frozen 3; have HY := Lib.hid (And.intro hd2 (And.intro hK2 hm')); clear hd2 hK2 hm'))
      obtain ⟨hd2, hK2, hm'⟩ := HY.out
      obtain ⟨h, hqq, ho, hk, ht⟩ := H.out
      have hD : crashS D keep torn = { D with secs := layK D.secs D.q D.q.length, q := [], on := false } := by unfold crashS; rw [if_pos ho, ← hk, ← ht, hcr.out]
      exact ⟨rfl, _, results_void rfl _ _, rfl, m', hm', by rw [hD]; exact hd2.field 3 _ rfl rfl rfl rfl, hK2.setCell (a := ⟨p, 3, none⟩) (fun _ => .inl rfl) _⟩
end Go.Proofs.YtladbjlkkjcfnaaDk
