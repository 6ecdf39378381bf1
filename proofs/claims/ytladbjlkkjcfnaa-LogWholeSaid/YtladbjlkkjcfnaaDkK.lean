/-
  vdisk: burns where the power fails; Write and Sync, whole. Condition: the room, the fuse and the queue within bounds.
-/
import Derived.Test.YtladbjlkkjcfnaaDkH
import Derived.Test.YtladbjlkkjcfnaaDkI
import Derived.Test.YtladbjlkkjcfnaaDkJ
namespace Go.Proofs.YtladbjlkkjcfnaaDk
open Go.RowKit Go.Maps Go.Proofs.YtladbjlkkjcfnaaKp Go.Proofs.YtladbjlkkjcfnaaCm
set_option linter.unusedVariables false
set_option linter.unusedSimpArgs false
variable {w : World} {p g m : Nat} {qv : Value} {D : Dm}
/-- the fuse has burned down -/
def burnedS (D : Dm) : Dm := crashS { D with fset := false, fn := 0, fk := 0, ft := 0 } D.fk D.ft
theorem c_burns_fail (h : Dsk w p g m qv D) (ho : D.on = true) (hf : D.fset = true) (hn : D.fn ≤ 0) : Calls Try.prog 34 #[.pointer (some ⟨p, 0, none⟩)] w fun e w' => e = .returned (.bool true) ∧
    ∃ m', w.heap.size ≤ m' ∧ Dsk w' p g m' (.slice none 0 0) (burnedS D) ∧ Kept (fun k => k = p ∨ k = g) w w' := by
  obtain ⟨_, _, _, _, _, h5, h6, h7, h8, _⟩ := h.cells
  have z5 := h.frozen 5
  have z6 := h.frozen 6
  have z7 := h.frozen 7
  have z8 := h.frozen 8
  rw [hf] at h5
  have d1 : decide (0 < D.fn) = false := decide_eq_false (by omega)
  have hpl := h.lt p (.inl rfl)
  have hd4 := h.fuse4 false 0 0 0
  have hK4 := kept4 (Kept.refl _ w) (p := p) (.bool false) (.int .i64 0) (.int .i64 0) (.int .i64 0)
  have hd5 := hd4.at (w1 := ((((w.setCell ⟨p, 5, none⟩ (.bool false)).setCell ⟨p, 6, none⟩ (.int .i64 0)).setCell ⟨p, 7, none⟩ (.int .i64 0)).setCell ⟨p, 8, none⟩ (.int .i64 0)).alloc (.cells #[.bool true, .int .i64 D.fn, .int .i64 D.fk, .int .i64 D.ft] 48)) (fun k hk => Below.heap_alloc _ _ _ (hd4.lt k hk))
  have hK5 := hK4.alloc (.cells #[.bool true, .int .i64 D.fn, .int .i64 D.fk, .int .i64 D.ft] 48 (0, 0))
  have k2 := Lib.hid (c_Crash_on hd5 D.fk D.ft ho)
  have H := Lib.hid (And.intro hK5 hpl)
  clear h ho hf hn hd4 hd5 hK4 hK5
  go_enter Try.func34, Try.ntmps34
  go_wp2_with (go_at_call 16; refine k2.out.mono ?_; rintro e w2 ⟨rfl, hm2⟩; have HM := Lib.hid hm2; clear hm2)
  go_ret
  obtain ⟨m', hm', hd, hK⟩ := HM.out
  obtain ⟨hK5, hpl⟩ := H.out
  exact ⟨rfl, m', Nat.le_trans hK5.size hm', hd, (hK5.mono (fun i _ e => .inl e)).trans hK (fun i _ e => e)⟩
theorem c_Write_burn (h : Dsk w p g m qv D) (a : Int) (s : ByteArray) (he : askS D a = 0) (hs : s.size = 64) (hr : D.room ≠ 0) (hf : D.fset = true) (hn : D.fn ≤ 0) :
    Calls Try.prog 26 #[.pointer (some ⟨p, 0, none⟩), .int .i64 a, .string s] w fun e w' => e = .returned (.int .i64 80) ∧ ∃ m', w.heap.size ≤ m' ∧ Dsk w' p g m' (.slice none 0 0) (burnedS D) ∧ Kept (fun k => k = p ∨ k = g) w w' := by
  have k1 := Lib.hid (c_asked h a)
  have ho := (askS_zero he).1
  rw [he] at k1
  have k2 := Lib.hid (c_burns_fail h ho hf hn)
  obtain ⟨_, _, _, _, h4, _⟩ := h.cells
  have d1 : (((s.size : Nat) : Int) != 64) = false := by simp; omega
  have d2 : (D.room == 0) = false := by simpa using hr
  clear h he hs hr ho hf hn
  go_enter Try.func26, Try.ntmps26
  go_wp2_with (first | (go_at_call 32; refine k1.out.mono ?_; rintro e w1 ⟨rfl, rfl⟩) | (go_at_call 34; refine k2.out.mono ?_; rintro e w2 ⟨rfl, hm2⟩; have HM := Lib.hid hm2; clear hm2))
  go_ret
  exact ⟨rfl, HM.out⟩
theorem c_Sync_off (h : Dsk w p g m qv D) (ho : D.on = false) : Calls Try.prog 30 #[.pointer (some ⟨p, 0, none⟩)] w fun e w' => e = .returned (.int .i64 80) ∧ w' = w := by
  have k1 := Lib.hid (c_On h)
  rw [ho] at k1
  clear h ho
  go_enter Try.func30, Try.ntmps30
  go_wp2_with (first | (go_at_call 24; refine k1.out.mono ?_; rintro e w1 ⟨rfl, rfl⟩))
  go_ret
  exact ⟨rfl, rfl⟩
theorem c_Sync_burn (h : Dsk w p g m qv D) (ho : D.on = true) (hf : D.fset = true) (hn : D.fn ≤ 0) :
    Calls Try.prog 30 #[.pointer (some ⟨p, 0, none⟩)] w fun e w' => e = .returned (.int .i64 80) ∧ ∃ m', w.heap.size ≤ m' ∧ Dsk w' p g m' (.slice none 0 0) (burnedS D) ∧ Kept (fun k => k = p ∨ k = g) w w' := by
  have k1 := Lib.hid (c_On h)
  rw [ho] at k1
  have k2 := Lib.hid (c_burns_fail h ho hf hn)
  clear h ho hf hn
  go_enter Try.func30, Try.ntmps30
  go_wp2_with (first | (go_at_call 24; refine k1.out.mono ?_; rintro e w1 ⟨rfl, rfl⟩) | (go_at_call 34; refine k2.out.mono ?_; rintro e w2 ⟨rfl, hm2⟩; have HM := Lib.hid hm2; clear hm2))
  go_ret
  exact ⟨rfl, HM.out⟩
/-- Sync where the fuse burns on -/
theorem c_Sync_some (h : Dsk w p g m qv D) (ho : D.on = true) (hf : D.fset = true) (hn : 0 < D.fn) (hn2 : D.fn ≤ 9223372036854775807) : Calls Try.prog 30 #[.pointer (some ⟨p, 0, none⟩)] w fun e w' => e = .returned (.int .i64 0) ∧
    ∃ m', w.heap.size ≤ m' ∧ Dsk w' p g m' (.slice none 0 0) { D with secs := layK D.secs D.q D.q.length, q := [], fn := D.fn - 1 } ∧ Kept (fun k => k = p ∨ k = g) w w' := by
  obtain ⟨a, cap, hq, hc, hm⟩ := que_cap h
  have k1 := Lib.hid (c_On h)
  rw [ho] at k1
  have k2 := Lib.hid (c_burns_some h hf hn hn2)
  have HQ := Lib.hid (And.intro hq (And.intro hc hm))
  clear h ho hf hq hc hm hn hn2
  go_enter Try.func30, Try.ntmps30
  go_wp2_with (first
    | (go_at_call 24; refine k1.out.mono ?_; rintro e w1 ⟨rfl, rfl⟩)
    | (go_at_call 34; refine k2.out.mono ?_; rintro e w1 ⟨rfl, hd1, hk1⟩; have k3 := Lib.hid (c_kept hd1 D.q.length (Nat.le_refl _) a cap HQ.out.1 HQ.out.2.1 HQ.out.2.2); have h1 := hd1.cells.2.1; rw [HQ.out.1] at h1; have HK := Lib.hid hk1; clear hd1 hk1)
    | (go_at_call 31; refine k3.out.mono ?_; rintro e w2 ⟨rfl, hm2⟩; have HM := Lib.hid hm2; clear hm2))
  go_ret
  obtain ⟨m', hm', hd, hK⟩ := HM.out
  exact ⟨rfl, m', Nat.le_trans HK.out.size hm', hd, (HK.out.mono (fun i _ e => .inl e)).trans hK (fun i _ e => e)⟩

/-! ### whole -/
/-- where the disk's own blocks have gone -/
def Moved (w : World) (m : Nat) (qv : Value) (m' : Nat) (qv' : Value) : Prop := (m' = m ∨ w.heap.size ≤ m') ∧ ∀ k, qv'.ownBlock = some k → qv.ownBlock = some k ∨ w.heap.size ≤ k
theorem Moved.refl (w : World) (m : Nat) (qv : Value) : Moved w m qv m qv := ⟨.inl rfl, fun _ h => .inl h⟩
theorem Moved.nil {m' : Nat} (h : w.heap.size ≤ m') : Moved w m qv m' (.slice none 0 0) := ⟨.inr h, fun _ e => by simp [Value.ownBlock] at e⟩
theorem Moved.fp {m' : Nat} {qv' : Value} (h : Moved w m qv m' qv') {k : Nat} (hk : k < w.heap.size) (hf : fp p g m' qv' k) : fp p g m qv k := by
  rcases hf with e | e | e | e
  · exact .inl e
  · exact .inr (.inl e)
  · rcases h.1 with e1 | e1
    · exact .inr (.inr (.inl (by rw [e, e1])))
    · omega
  · rcases h.2 k e with e1 | e1
    · exact .inr (.inr (.inr e1))
    · omega
theorem Moved.trans {w1 : World} {m1 m2 : Nat} {qv1 qv2 : Value} (h : Moved w m qv m1 qv1) (hs : w.heap.size ≤ w1.heap.size) (k : Moved w1 m1 qv1 m2 qv2) : Moved w m qv m2 qv2 := by
  refine ⟨?_, fun b e => ?_⟩
  · rcases k.1 with e | e
    · rw [e]; exact h.1
    · exact .inr (by omega)
  · rcases k.2 b e with e1 | e1
    · exact h.2 b e1
    · exact .inr (by omega)
/-- the room and the fuse are whole numbers as Go has them, the queue is no longer than memory -/
structure DOk (D : Dm) : Prop where
  r1 : -1 ≤ D.room
  r2 : D.room ≤ 9223372036854775807
  f2 : D.fn ≤ 9223372036854775807
  q1 : D.q.length < 1000000000000
/-- Write: its answer, and the disk behind it -/
def writeE (D : Dm) (a : Int) (s : ByteArray) : Int :=
  if askS D a ≠ 0 then askS D a else if s.size ≠ 64 then 82 else if D.room = 0 then 83 else if D.fset = true ∧ D.fn ≤ 0 then 80 else 0
def writeD (D : Dm) (a : Int) (s : ByteArray) : Dm :=
  if askS D a ≠ 0 then D else if s.size ≠ 64 then D else if D.room = 0 then D else if D.fset = true ∧ D.fn ≤ 0 then burnedS D else writeS D a.toNat (bts s)
theorem c_Write (h : Dsk w p g m qv D) (hok : DOk D) (a : Int) (s : ByteArray) :
    Calls Try.prog 26 #[.pointer (some ⟨p, 0, none⟩), .int .i64 a, .string s] w fun e w' => e = .returned (.int .i64 (writeE D a s)) ∧
      ∃ m' qv', Dsk w' p g m' qv' (writeD D a s) ∧ Kept (fp p g m qv) w w' ∧ Moved w m qv m' qv' := by
  unfold writeE writeD
  by_cases h1 : askS D a = 0
  · rw [if_neg (fun e : askS D a ≠ 0 => e h1), if_neg (fun e : askS D a ≠ 0 => e h1)]
    by_cases h2 : s.size = 64
    · rw [if_neg (fun e : s.size ≠ 64 => e h2), if_neg (fun e : s.size ≠ 64 => e h2)]
      by_cases h3 : D.room = 0
      · rw [if_pos h3, if_pos h3]
        exact (c_Write_full h a s h1 h2 h3).mono fun e w' ⟨he, hw⟩ => by subst hw; exact ⟨he, m, qv, h, Kept.refl _ _, Moved.refl _ _ _⟩
      · rw [if_neg h3, if_neg h3]
        by_cases h4 : D.fset = true ∧ D.fn ≤ 0
        · rw [if_pos h4, if_pos h4]
          exact (c_Write_burn h a s h1 h2 h3 h4.1 h4.2).mono fun e w' ⟨he, m', hm', hd, hk⟩ => ⟨he, m', _, hd, hk.mono (fun i _ e => e.elim .inl (fun e => .inr (.inl e))), Moved.nil hm'⟩
        · rw [if_neg h4, if_neg h4]
          obtain ⟨i, rfl⟩ := Int.eq_ofNat_of_zero_le (askS_zero h1).2.1
          rw [Int.toNat_natCast]
          exact (c_Write_ok h i s h1 h2 h3 hok.r2 hok.r1 (fun e => by have : ¬ D.fn ≤ 0 := fun e2 => h4 ⟨e, e2⟩; omega) hok.f2 hok.q1).mono fun e w' ⟨he, qv', hd, hk, hl⟩ => ⟨he, m, qv', hd, hk, .inl rfl, fun k e => by
            rcases hl with h | ⟨b, hb, h⟩
            · exact .inl (by rw [← h, e])
            · rw [e] at h; obtain rfl := Option.some.inj h; exact .inr hb⟩
    · rw [if_pos h2, if_pos h2]
      exact (c_Write_size h a s h1 h2).mono fun e w' ⟨he, hw⟩ => by subst hw; exact ⟨he, m, qv, h, Kept.refl _ _, Moved.refl _ _ _⟩
  · rw [if_pos h1, if_pos h1]
    exact (c_Write_err h a s h1).mono fun e w' ⟨he, hw⟩ => by subst hw; exact ⟨he, m, qv, h, Kept.refl _ _, Moved.refl _ _ _⟩
def syncE (D : Dm) : Int := if D.on = false then 80 else if D.fset = true ∧ D.fn ≤ 0 then 80 else 0
def syncD (D : Dm) : Dm := if D.on = false then D else if D.fset = true ∧ D.fn ≤ 0 then burnedS D else { D with secs := layK D.secs D.q D.q.length, q := [], fn := if D.fset then D.fn - 1 else D.fn }
theorem c_Sync (h : Dsk w p g m qv D) (hok : DOk D) : Calls Try.prog 30 #[.pointer (some ⟨p, 0, none⟩)] w fun e w' => e = .returned (.int .i64 (syncE D)) ∧
    ∃ m' qv', Dsk w' p g m' qv' (syncD D) ∧ Kept (fp p g m qv) w w' ∧ Moved w m qv m' qv' := by
  unfold syncE syncD
  have hk2 : ∀ {w'}, Kept (fun k => k = p ∨ k = g) w w' → Kept (fp p g m qv) w w' := fun hk => hk.mono (fun i _ e => e.elim .inl (fun e => .inr (.inl e)))
  by_cases h1 : D.on = false
  · rw [if_pos h1, if_pos h1]
    exact (c_Sync_off h h1).mono fun e w' ⟨he, hw⟩ => by subst hw; exact ⟨he, m, qv, h, Kept.refl _ _, Moved.refl _ _ _⟩
  · rw [if_neg h1, if_neg h1]
    have h1 : D.on = true := by simpa using h1
    by_cases h4 : D.fset = true ∧ D.fn ≤ 0
    · rw [if_pos h4, if_pos h4]
      exact (c_Sync_burn h h1 h4.1 h4.2).mono fun e w' ⟨he, m', hm', hd, hk⟩ => ⟨he, m', _, hd, hk2 hk, Moved.nil hm'⟩
    · rw [if_neg h4, if_neg h4]
      by_cases h5 : D.fset = true
      · rw [if_pos h5]
        exact (c_Sync_some h h1 h5 (by have : ¬ D.fn ≤ 0 := fun e2 => h4 ⟨h5, e2⟩; omega) hok.f2).mono fun e w' ⟨he, m', hm', hd, hk⟩ => ⟨he, m', _, hd, hk2 hk, Moved.nil hm'⟩
      · rw [if_neg h5]
        exact (c_Sync_plain h h1 (by simpa using h5)).mono fun e w' ⟨he, m', hm', hd, hk⟩ => ⟨he, m', _, hd, hk2 hk, Moved.nil hm'⟩
theorem c_Crash (h : Dsk w p g m qv D) (keep torn : Int) : Calls Try.prog 16 #[.pointer (some ⟨p, 0, none⟩), .int .i64 keep, .int .i64 torn] w fun e w' => e = .returned (.tuple #[]) ∧
    ∃ m' qv', Dsk w' p g m' qv' (crashS D keep torn) ∧ Kept (fp p g m qv) w w' ∧ Moved w m qv m' qv' := by
  cases h1 : D.on
  · exact (c_Crash_off h keep torn h1).mono fun e w' ⟨he, hw⟩ => by subst hw; exact ⟨he, m, qv, by unfold crashS; rw [if_neg (by rw [h1]; simp)]; exact h, Kept.refl _ _, Moved.refl _ _ _⟩
  · exact (c_Crash_on h keep torn h1).mono fun e w' ⟨he, m', hm', hd, hk⟩ => ⟨he, m', _, hd, hk.mono (fun i _ e => e.elim .inl (fun e => .inr (.inl e))), Moved.nil hm'⟩
/-- Read: its answer -/
def readE (D : Dm) (a : Int) : Int := askS D a
def readS (D : Dm) (a : Int) : ByteArray := if askS D a ≠ 0 then ⟨#[]⟩ else strOfNums ((readM D a.toNat).getD [])
theorem readM_some (h : Dsk w p g m qv D) {i : Nat} (hi : i < D.secs.length) : ∃ s, readM D i = some s ∧ s.length = 64 := by
  unfold readM
  cases hl : lastOf D.q.reverse i with
  | none => exact ⟨_, List.getElem?_eq_getElem hi, by obtain ⟨_, _, _, hh⟩ := h.sec; exact (hh i _ (List.getElem?_eq_getElem hi)).1⟩
  | some n =>
    obtain ⟨_, d, hd⟩ := lastOf_get _ _ _ hl
    rw [List.reverse_reverse] at hd
    simp only [hd, Option.map_some]
    exact ⟨_, rfl, (h.fits _ (List.mem_of_getElem? hd)).2.2⟩
theorem c_Read (h : Dsk w p g m qv D) (a : Int) : Calls Try.prog 20 #[.pointer (some ⟨p, 0, none⟩), .int .i64 a] w fun e w' => e = .returned (.tuple #[.string (readS D a), .int .i64 (readE D a)]) ∧ Below w.heap.size w w' := by
  unfold readE readS
  by_cases h1 : askS D a = 0
  · rw [if_neg (fun e : askS D a ≠ 0 => e h1), h1]
    obtain ⟨i, rfl⟩ := Int.eq_ofNat_of_zero_le (askS_zero h1).2.1
    have hi := (askS_zero h1).2.2
    obtain ⟨s, hs, _⟩ := readM_some h (i := i) (by omega)
    rw [Int.toNat_natCast, hs, Option.getD_some]
    exact c_Read_ok h i h1 s hs
  · rw [if_pos h1]
    exact (c_Read_err h a h1).mono fun e w' ⟨he, hw⟩ => by subst hw; exact ⟨he, Below.refl _ _⟩
end Go.Proofs.YtladbjlkkjcfnaaDk
