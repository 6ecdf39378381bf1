/-
  chanceryref10: Write. chanceryref10: Read. slices.Clone of sectors and of writes; chanceryref10: New, Twin. chanceryref10: New, Twin. vdisk: Twin. Condition: the room, the fuse and the queue within bounds; none; a queue of fewer than 10^12 writes.
-/
import Derived.Test.YtcbaflnmfiofeaaDkY
import Derived.Deep.DeepCutAuto
import Derived.Test.YtcbaflnmfiofeaaWWords
import Derived.Deep.RegionHeld3
import Derived.Deep.DrawnRows
namespace Go.Proofs.YtcbaflnmfiofeaaDk
open Go.RowKit Go.Maps Go.Proofs.YtcbaflnmfiofeaaKp Go.Proofs.YtcbaflnmfiofeaaCm
set_option linter.unusedVariables false
set_option linter.unusedSimpArgs false
variable {w w1 : World} {r g bc : Nat} {qv : Value} {D : Dm}
theorem r_Write_off (h : Rf w r g bc qv D) (ho : D.on = false) (a : Int) (s : ByteArray) : Calls Try.prog 35 #[.pointer (some ⟨r, 0, none⟩), .int .i64 a, .string s] w fun e w' => e = .returned (.int .i64 80) ∧ w' = w := by
  obtain ⟨_, _, c2, _⟩ := h.cells
  rw [ho] at c2
  clear h ho
  go_enter Try.func35, Try.ntmps35
  go_wp2_with fail
  go_ret
  exact ⟨rfl, rfl⟩
theorem r_Write_range (h : Rf w r g bc qv D) (ho : D.on = true) (a : Int) (ha : a < 0 ∨ (D.secs.length : Int) ≤ a) (s : ByteArray) : Calls Try.prog 35 #[.pointer (some ⟨r, 0, none⟩), .int .i64 a, .string s] w fun e w' => e = .returned (.int .i64 81) ∧ w' = w := by
  obtain ⟨_, _, c2, _⟩ := h.cells
  rw [ho] at c2
  have k1 := Lib.hid (r_Sectors h)
  clear h ho
  by_cases h1 : a < 0
  · have d1 : decide (a < 0) = true := decide_eq_true h1
    clear ha
    go_enter Try.func35, Try.ntmps35
    go_wp2_with fail
    go_ret
    exact ⟨rfl, rfl⟩
  · have d1 : decide (a < 0) = false := decide_eq_false h1
    have d2 : decide ((D.secs.length : Int) ≤ a) = true := decide_eq_true (by omega)
    clear ha
    go_enter Try.func35, Try.ntmps35
    go_wp2_with (go_at_call 41; refine k1.out.mono ?_; rintro e w1 ⟨rfl, hw⟩; subst hw)
    go_ret
    exact ⟨rfl, rfl⟩
theorem r_Write_no (h : Rf w r g bc qv D) (i : Nat) (he : askS D i = 0) (s : ByteArray) (hx : s.size ≠ 64 ∨ D.room = 0) : Calls Try.prog 35 #[.pointer (some ⟨r, 0, none⟩), .int .i64 i, .string s] w fun e w' => e = .returned (.int .i64 (if s.size ≠ 64 then 82 else 83)) ∧ w' = w := by
  obtain ⟨_, _, c2, _, c6, _⟩ := h.cells
  obtain ⟨ho, h0, h1⟩ := askS_zero he
  rw [ho] at c2
  have k1 := Lib.hid (r_Sectors h)
  have d1 : decide ((i : Int) < 0) = false := decide_eq_false (by omega)
  have d2 : decide ((D.secs.length : Int) ≤ (i : Int)) = false := decide_eq_false (by omega)
  have d2' : decide (D.secs.length ≤ i) = false := decide_eq_false (by omega)
  clear h ho he h0 h1
  by_cases hs : s.size = 64
  · have hr : D.room = 0 := by rcases hx with hx | hx; exact absurd hs hx; exact hx
    have d3 : (((s.size : Nat) : Int) != 64) = false := by simp; omega
    rw [hr] at c6
    rw [if_neg (fun e => e hs)]
    clear hx hr hs
    go_enter Try.func35, Try.ntmps35
    go_wp2_with (go_at_call 41; refine k1.out.mono ?_; rintro e w1 ⟨rfl, hw⟩; subst hw)
    go_ret
    exact ⟨rfl, rfl⟩
  · have d3 : (((s.size : Nat) : Int) != 64) = true := by simp; omega
    rw [if_pos hs]
    clear hx hs
    go_enter Try.func35, Try.ntmps35
    go_wp2_with (go_at_call 41; refine k1.out.mono ?_; rintro e w1 ⟨rfl, hw⟩; subst hw)
    go_ret
    exact ⟨rfl, rfl⟩
theorem r_Write_burn (h : Rf w r g bc qv D) (i : Nat) (he : askS D i = 0) (s : ByteArray) (hs : s.size = 64) (hr : D.room ≠ 0) (hf : D.fset = true) (hn : D.fn ≤ 0) : Calls Try.prog 35 #[.pointer (some ⟨r, 0, none⟩), .int .i64 i, .string s] w fun e w' => e = .returned (.int .i64 80) ∧
    Rf w' r g bc (.slice none 0 0) (burnedS D) ∧ Kept (fun k => k = r ∨ k = g) w w' := by
  obtain ⟨_, _, c2, _, c6, _⟩ := h.cells
  obtain ⟨ho, h0, h1⟩ := askS_zero he
  have k2 := Lib.hid (r_burn_fail h ho hf hn)
  rw [ho] at c2
  have k1 := Lib.hid (r_Sectors h)
  have d1 : decide ((i : Int) < 0) = false := decide_eq_false (by omega)
  have d2' : decide (D.secs.length ≤ i) = false := decide_eq_false (by omega)
  have d3 : (((s.size : Nat) : Int) != 64) = false := by simp; omega
  have d4 : (D.room == 0) = false := by simpa using hr
  clear h ho he h0 h1 hs hr hf hn
  go_enter Try.func35, Try.ntmps35
  go_wp2_with (first
    | (go_at_call 41; refine k1.out.mono ?_; rintro e w1 ⟨rfl, hw⟩; subst hw)
    | (go_at_call 42; refine k2.out.mono ?_; rintro e w2 ⟨rfl, hr2⟩; have HR := Lib.hid hr2; clear hr2))
  go_ret
  exact ⟨rfl, HR.out⟩
def roomT (x : Int) : Int := if 0 < x then x - 1 else x
theorem info77 : (Try.prog.info? 77).map (fun i => (i.zero, i.size, i.bytes)) = some (some (.agg #[.int .i64 0, .string ⟨#[]⟩]), 2, 24) := by kernel_rfl
set_option maxRecDepth 100000 in
theorem r_Write_go {D1 : Dm} (h : Rf w r g bc qv D) (i : Nat) (he : askS D i = 0) (s : ByteArray) (hs : s.size = 64) (hr : D.room ≠ 0) (hr1 : -1 ≤ D1.room) (hr2 : D1.room ≤ 9223372036854775807) (hq : D1.q.length < 1000000000000) (hl : D1.secs.length = D.secs.length)
    (kb : Calls Try.prog 42 #[.pointer (some ⟨r, 0, none⟩)] w fun e w' => e = .returned (.bool false) ∧ Rf w' r g bc qv D1 ∧ Kept (fun k => k = r) w w') :
    Calls Try.prog 35 #[.pointer (some ⟨r, 0, none⟩), .int .i64 i, .string s] w fun e w' => e = .returned (.int .i64 0) ∧
      ∃ qv', Rf w' r g bc qv' { D1 with q := D1.q ++ [((i : Int), bts s)], room := roomT D1.room, writes := wrap64 (D1.writes + 1) } ∧ Kept (rfp r g qv) w w' ∧ Went w qv qv' := by
  obtain ⟨_, _, c2, _, c6, _⟩ := h.cells
  obtain ⟨ho, h0, h1⟩ := askS_zero he
  have k2 := Lib.hid kb
  rw [ho] at c2
  have k1 := Lib.hid (r_Sectors h)
  have d1 : decide ((i : Int) < 0) = false := decide_eq_false (by omega)
  have d2' : decide (D.secs.length ≤ i) = false := decide_eq_false (by omega)
  have d3 : (((s.size : Nat) : Int) != 64) = false := by simp; omega
  have d4 : (D.room == 0) = false := by simpa using hr
  have HP := Lib.hid (And.intro hs (And.intro hr1 (And.intro hr2 (And.intro hq (show i < D1.secs.length by omega)))))
  clear h ho he h0 h1 hs hr kb hr1 hr2 hq hl
  go_enter Try.func35, Try.ntmps35
  go_upto_region 11 with (first
    | (go_at_call 41; refine k1.out.mono ?_; rintro e w1 ⟨rfl, hw⟩; subst hw)
    | (go_at_call 42; refine k2.out.mono ?_; rintro e w2 ⟨rfl, hr2⟩; have HR := Lib.hid hr2; clear hr2))
  obtain ⟨hrf, hK⟩ := HR.out
  obtain ⟨hs, hr1, hr2, hq, hil⟩ := HP.out
  obtain ⟨i0, hi0, hz0, hz1, hz2⟩ := info_parts info77
  obtain ⟨_, c1, _⟩ := hrf.cells
  have z1 := hrf.frozen 1
  have hrl := hrf.lt r (.inl rfl)
  have hqr := hrf.qr
  have hsb : strOfNums (bts s) = s := strOfNums_bts s
  have HU := Lib.hid (And.intro hrf (And.intro hi0 (And.intro hz0 (And.intro hz1 (And.intro hz2 (And.intro (show D1.q.length + 1 ≤ maxLen by unfold maxLen; omega) (show (D1.q.length + 1) * 24 ≤ 140737488355328 by omega)))))))
  have HV := Lib.hid (And.intro hK (And.intro hs (And.intro hr1 (And.intro hr2 (And.intro hil hsb)))))
  have hc5 : ∀ (w5 : World), (w2.alloc (.cells #[.int .i64 i, .string s] 77)).grownBy w5 qv.ownBlock → (∃ v, w5.cell? ⟨r, 1, none⟩ = some v) ∧ w5.frozen? ⟨r, 1, none⟩ = false := by
    intro w5 hg5
    have hb5 := hg5.block r (by simp; omega) hqr.symm
    have ha : (w2.alloc (.cells #[.int .i64 i, .string s] 77)).heap[r]? = w2.heap[r]? := Below.heap_alloc _ _ _ hrl
    rw [ha] at hb5
    exact ⟨⟨_, (World.cell?_of_block hb5).trans c1⟩, (World.frozen?_of_block hb5).trans z1⟩
  have HC := Lib.hid hc5
  clear hrf hK hs hr1 hr2 hq hi0 hz0 hz1 hz2 HR HP hc5 hil hsb hqr c6 z1 k1 k2
  go_upto_region 12 with (at_builtin; (refine wpList_append_lies _ rfl (.tmp 38) (.tmp 42) 73 rfl 0 77 i0 _ 2 24 Try.underlying73 HU.out.2.1 HU.out.2.2.1 HU.out.2.2.2.1 HU.out.2.2.2.2.1 rfl (by omega) qv D1.q.length (rcells D1.q) rfl (HU.out.1.q.alloc _) ⟨w2.heap.size, 0, none⟩ 1 1 [.int .i64 i, .string s] rfl rfl (World.news_of_block (cs := #[.int .i64 i, .string s]) (t := 77) (fr := (0, 0)) (heap_alloc_new w2 _)) (by simp [Value.oneCell']) (by omega) HU.out.2.2.2.2.2.1 HU.out.2.2.2.2.2.2 (Nat.zero_le _) (w2.heap.size + 1) (by simp) ?_); intro gg cap5 w5 hown5 hgrow5 hat5 hlt5; have hcz := HC.out w5 hgrow5; obtain ⟨⟨v5, c5⟩, z5⟩ := hcz)
  obtain ⟨hrf, _⟩ := HU.out
  obtain ⟨hK, hs, hr1, hr2, hil, hsb⟩ := HV.out
  have hgl := hrf.lt g (.inr (.inl rfl))
  have e5 : ∀ k, k < w2.heap.size → qv.ownBlock ≠ some k → w5.heap[k]? = w2.heap[k]? := fun k hk hn => by
    rw [hgrow5.block k (by simp; omega) hn.symm]
    exact Below.heap_alloc _ _ _ hk
  have hgn : ∀ k, k < w2.heap.size → qv.ownBlock ≠ some k → gg ≠ k := fun k hk hn e => by
    rcases hat5 with h | h
    · exact hn (by rw [h, e])
    · omega
  have hd6 : Rf (w5.setCell ⟨r, 1, none⟩ (.slice (some ⟨gg, 0, none⟩) (D1.q.length + 1) cap5)) r g bc (.slice (some ⟨gg, 0, none⟩) (D1.q.length + 1) cap5) { D1 with q := D1.q ++ [((i : Int), bts s)] } := by
    obtain ⟨fk, ft, hrow, hfk⟩ := hrf.row
    have hl : (D1.q ++ [((i : Int), bts s)]).length = D1.q.length + 1 := by simp
    have e6 : ∀ k, k ≠ r → (w5.setCell ⟨r, 1, none⟩ (.slice (some ⟨gg, 0, none⟩) (D1.q.length + 1) cap5)).heap[k]? = w5.heap[k]? := fun k hk => Below.heap_setCell _ _ _ _ hk
    refine ⟨⟨fk, ft, ?_, hfk⟩, ?_, ?_, hrf.rg, ?_, ?_, hrf.each, hrf.len, ?_, hrf.fz, ?_⟩
    · rw [heap_setCell_same _ r 1 _ _ _ ((e5 r hrl hrf.qr).trans hrow)]
      rfl
    · exact ownsRow_at (ownsRow_at hrf.b (fun k e => by cases e; exact e5 g hgl hrf.qg)) (fun k e => by cases e; exact e6 g hrf.rg.symm)
    · simp only [hl, rcells_snoc, hsb]
      exact ownsRow_at hown5 (fun k e => e6 k (fun e' => hgn r hrl hrf.qr (by cases e; exact e')))
    · intro e; exact hgn r hrl hrf.qr (by simpa [Value.ownBlock] using e)
    · intro e; exact hgn g hgl hrf.qg (by simpa [Value.ownBlock] using e)
    · intro x hx
      rcases List.mem_append.1 hx with hx | hx
      · exact hrf.fits x hx
      · obtain rfl : x = ((i : Int), bts s) := by simpa using hx
        exact ⟨by simp, by simp only; omega, by rw [bts_length, hs]⟩
    · intro x hx
      rcases List.mem_append.1 hx with hx | hx
      · exact hrf.rng x hx
      · obtain rfl : x = ((i : Int), bts s) := by simpa using hx
        exact bts_range s
  have hK6 : Kept (rfp r g qv) w (w5.setCell ⟨r, 1, none⟩ (.slice (some ⟨gg, 0, none⟩) (D1.q.length + 1) cap5)) :=
    ((((hK.mono (fun k _ e => .inl e)).alloc _).grown hgrow5 (fun k e _ => .inr (.inr e)))).setCell (a := ⟨r, 1, none⟩) (fun _ => .inl rfl) _
  have hW : Went w qv (.slice (some ⟨gg, 0, none⟩) (D1.q.length + 1) cap5) := fun k e => by
    cases e
    rcases hat5 with h | h
    · exact .inl h
    · have := hK.size
      exact .inr (by show w.heap.size ≤ gg; omega)
  obtain ⟨_, _, _, _, c6', c7'⟩ := hd6.cells
  have z6' := hd6.frozen 6
  have z7' := hd6.frozen 7
  have HF := Lib.hid (And.intro hd6 (And.intro hK6 hW))
  clear hd6 hK6 hW hgn e5 hgl hrf hK hs hil hsb hown5 hgrow5 hat5 hlt5 c5 z5 HU HV HC
  generalize (w5.setCell ⟨r, 1, none⟩ (.slice (some ⟨gg, 0, none⟩) (D1.q.length + 1) cap5)) = W6 at *
  generalize (Value.slice (some ⟨gg, 0, none⟩) (D1.q.length + 1) cap5) = qv6 at *
  by_cases hp : 0 < D1.room
  · have d5 : decide (0 < D1.room) = true := decide_eq_true hp
    have hw : IntKind.i64.wrap (D1.room - 1) = D1.room - 1 := by rw [IntKind.wrap_i64]; omega
    have HE := Lib.hid (show roomT D1.room = D1.room - 1 from if_pos hp)
    clear hp hr1 hr2
    go_wp2_with fail
    go_ret
    obtain ⟨hd6, hK6, hW⟩ := HF.out
    refine ⟨rfl, qv6, ?_, (hK6.setCell (a := ⟨r, 6, none⟩) (fun _ => .inl rfl) _).setCell (a := ⟨r, 7, none⟩) (fun _ => .inl rfl) _, hW⟩
    rw [HE.out]
    exact (hd6.field (D' := { D1 with q := D1.q ++ [((i : Int), bts s)], room := D1.room - 1 }) 6 _ rfl rfl hd6.fz (fun fk ft hf => ⟨fk, ft, rfl, hf⟩)).field 7 _ rfl rfl hd6.fz (fun fk ft hf => ⟨fk, ft, rfl, hf⟩)
  · have d5 : decide (0 < D1.room) = false := decide_eq_false hp
    have HE := Lib.hid (show roomT D1.room = D1.room from if_neg hp)
    clear hp hr1 hr2
    go_wp2_with fail
    go_ret
    obtain ⟨hd6, hK6, hW⟩ := HF.out
    refine ⟨rfl, qv6, ?_, hK6.setCell (a := ⟨r, 7, none⟩) (fun _ => .inl rfl) _, hW⟩
    rw [HE.out]
    exact hd6.field 7 _ rfl rfl hd6.fz (fun fk ft hf => ⟨fk, ft, rfl, hf⟩)
theorem r_Write (h : Rf w r g bc qv D) (hok : DOk D) (a : Int) (s : ByteArray) : Calls Try.prog 35 #[.pointer (some ⟨r, 0, none⟩), .int .i64 a, .string s] w fun e w' => e = .returned (.int .i64 (writeE D a s)) ∧
    ∃ qv', Rf w' r g bc qv' (writeD D a s) ∧ Kept (rfp r g qv) w w' ∧ Went w qv qv' := by
  unfold writeE writeD
  have hsame : ∀ {w' : World}, w' = w → ∃ qv', Rf w' r g bc qv' D ∧ Kept (rfp r g qv) w w' ∧ Went w qv qv' := fun hw => by subst hw; exact ⟨qv, h, Kept.refl _ _, Went.refl _ _⟩
  by_cases h1 : askS D a = 0
  · rw [if_neg (fun e : askS D a ≠ 0 => e h1), if_neg (fun e : askS D a ≠ 0 => e h1)]
    obtain ⟨i, rfl⟩ := Int.eq_ofNat_of_zero_le (askS_zero h1).2.1
    by_cases h2 : s.size = 64
    · rw [if_neg (fun e : s.size ≠ 64 => e h2), if_neg (fun e : s.size ≠ 64 => e h2)]
      by_cases h3 : D.room = 0
      · rw [if_pos h3, if_pos h3]
        have := r_Write_no h i h1 s (.inr h3)
        rw [if_neg (fun e : s.size ≠ 64 => e h2)] at this
        exact this.mono fun e w' ⟨he, hw⟩ => ⟨he, hsame hw⟩
      · rw [if_neg h3, if_neg h3]
        by_cases h4 : D.fset = true ∧ D.fn ≤ 0
        · rw [if_pos h4, if_pos h4]
          exact (r_Write_burn h i h1 s h2 h3 h4.1 h4.2).mono fun e w' ⟨he, hr, hk⟩ => ⟨he, _, hr, keptR (F := fun _ => True) hk, Went.nil _ _⟩
        · rw [if_neg h4, if_neg h4, Int.toNat_natCast]
          unfold writeS takenS
          by_cases h5 : D.fset = true
          · have := r_Write_go (D1 := { D with fn := D.fn - 1 }) h i h1 s h2 h3 hok.r1 hok.r2 hok.q1 rfl (r_burn_some h h5 (by have : ¬ D.fn ≤ 0 := fun e2 => h4 ⟨h5, e2⟩; omega) hok.f2)
            simpa only [h5, if_true, roomT] using this
          · have := r_Write_go (D1 := D) h i h1 s h2 h3 hok.r1 hok.r2 hok.q1 rfl ((r_burn_none h (by simpa using h5)).mono fun e w' ⟨he, hw⟩ => by subst hw; exact ⟨he, h, Kept.refl _ _⟩)
            simpa only [if_neg h5, roomT] using this
    · rw [if_pos h2, if_pos h2]
      have := r_Write_no h i h1 s (.inl h2)
      rw [if_pos h2] at this
      exact this.mono fun e w' ⟨he, hw⟩ => ⟨he, hsame hw⟩
  · rw [if_pos h1, if_pos h1]
    have h1' := h1
    unfold askS at h1 ⊢
    by_cases ho : D.on = false
    · rw [if_pos ho]
      exact (r_Write_off h ho a s).mono fun e w' ⟨he, hw⟩ => ⟨he, hsame hw⟩
    · rw [if_neg ho] at h1 ⊢
      by_cases hx : a < 0 ∨ (D.secs.length : Int) ≤ a
      · rw [if_pos hx]
        exact (r_Write_range h (by simpa using ho) a hx s).mono fun e w' ⟨he, hw⟩ => ⟨he, hsame hw⟩
      · rw [if_neg hx] at h1
        exact absurd rfl h1
end Go.Proofs.YtcbaflnmfiofeaaDk
namespace Go.Proofs.YtcbaflnmfiofeaaDk
open Go.RowKit Go.Maps Go.Proofs.YtcbaflnmfiofeaaKp Go.Proofs.YtcbaflnmfiofeaaCm
set_option linter.unusedVariables false
set_option linter.unusedSimpArgs false
variable {w w1 : World} {r g bc : Nat} {qv : Value} {D : Dm}
attribute [local go_sem] run_cv
theorem r_Read_off (h : Rf w r g bc qv D) (ho : D.on = false) (a : Int) : Calls Try.prog 36 #[.pointer (some ⟨r, 0, none⟩), .int .i64 a] w fun e w' => e = .returned (.tuple #[.string ⟨#[]⟩, .int .i64 80]) ∧ w' = w := by
  obtain ⟨_, _, c2, _⟩ := h.cells
  rw [ho] at c2
  clear h ho
  go_enter Try.func36, Try.ntmps36
  go_wp2_with fail
  go_ret2
  exact ⟨rfl, rfl⟩
theorem r_Read_range (h : Rf w r g bc qv D) (ho : D.on = true) (a : Int) (ha : a < 0 ∨ (D.secs.length : Int) ≤ a) : Calls Try.prog 36 #[.pointer (some ⟨r, 0, none⟩), .int .i64 a] w fun e w' => e = .returned (.tuple #[.string ⟨#[]⟩, .int .i64 81]) ∧ w' = w := by
  obtain ⟨_, _, c2, _⟩ := h.cells
  rw [ho] at c2
  have k1 := Lib.hid (r_Sectors h)
  clear h ho
  by_cases h1 : a < 0
  · have d1 : decide (a < 0) = true := decide_eq_true h1
    clear ha
    go_enter Try.func36, Try.ntmps36
    go_wp2_with fail
    go_ret2
    exact ⟨rfl, rfl⟩
  · have d1 : decide (a < 0) = false := decide_eq_false h1
    have d2 : decide ((D.secs.length : Int) ≤ a) = true := decide_eq_true (by omega)
    clear ha
    go_enter Try.func36, Try.ntmps36
    go_wp2_with (go_at_call 41; refine k1.out.mono ?_; rintro e w1 ⟨rfl, hw⟩; subst hw)
    go_ret2
    exact ⟨rfl, rfl⟩
/-- what Read has behind k rounds -/
def rdK (D : Dm) (a k : Nat) : List Int := match lastOf (D.q.take k).reverse a with
  | some n => ((D.q[n]?).map (·.2)).getD []
  | none => D.secs.getD a []
theorem rdK_succ {D : Dm} {a k : Nat} {x : Int} {s : List Int} (h : D.q[k]? = some (x, s)) : rdK D a (k + 1) = if x = (a : Int) then s else rdK D a k := by
  have hl := (List.getElem?_eq_some_iff.1 h).1
  unfold rdK
  rw [List.take_add_one, h]
  simp only [Option.toList_some, List.reverse_append, List.reverse_singleton, List.singleton_append, lastOf]
  by_cases e : x = (a : Int)
  · rw [if_pos e, if_pos e, List.length_reverse, List.length_take, Nat.min_eq_left (by omega)]
    simp only [h, Option.map_some, Option.getD_some]
  · rw [if_neg e, if_neg e]
theorem rdK_end (D : Dm) (a : Nat) : rdK D a D.q.length = (readM D a).getD [] := by
  unfold rdK readM
  rw [List.take_length]
  cases lastOf D.q.reverse a with
  | some n => rfl
  | none => rw [List.getD_eq_getElem?_getD]
theorem flatten_get : ∀ (secs : List (List Int)) (a : Nat) (s : List Int) (j : Nat), (∀ x ∈ secs, x.length = 64) → secs[a]? = some s → j < 64 → secs.flatten[64 * a + j]? = s[j]?
  | [], a, _, _, _, h, _ => by simp at h
  | x :: secs, 0, s, j, he, h, hj => by
    obtain rfl : x = s := by simpa using h
    rw [List.flatten_cons, Nat.mul_zero, Nat.zero_add, List.getElem?_append_left (by rw [he x List.mem_cons_self]; exact hj)]
  | x :: secs, a + 1, s, j, he, h, hj => by
    rw [List.flatten_cons, List.getElem?_append_right (by rw [he x List.mem_cons_self]; omega), he x List.mem_cons_self, show 64 * (a + 1) + j - 64 = 64 * a + j by omega]
    exact flatten_get secs a s j (fun y hy => he y (List.mem_cons_of_mem _ hy)) (by simpa using h) hj
theorem Rf.brange (h : Rf w r g bc qv D) {a : Nat} {s : List Int} (hs : D.secs[a]? = some s) : w.rangeAt g (a * 64) (s.map (.int .u8)) := by
  have hl := (List.getElem?_eq_some_iff.1 hs).1
  have h64 := h.each s (List.mem_of_getElem? hs)
  intro j v hv
  have hj : j < 64 := by have := (List.getElem?_eq_some_iff.1 hv).1; rw [List.length_map] at this; omega
  rw [h.b.cellAt (a * 64 + j) (by omega), u8s, List.getElem?_map, Nat.mul_comm a 64, flatten_get D.secs a s j h.each hs hj, ← List.getElem?_map]
  exact hv
set_option maxRecDepth 100000 in
theorem r_Read_ok (h : Rf w r g bc qv D) (i : Nat) (he : askS D i = 0) : Calls Try.prog 36 #[.pointer (some ⟨r, 0, none⟩), .int .i64 i] w fun e w' => e = .returned (.tuple #[.string (strOfNums ((readM D i).getD [])), .int .i64 0]) ∧ w' = w := by
  obtain ⟨c0, c1, c2, _⟩ := h.cells
  obtain ⟨ho, h0, h1⟩ := askS_zero he
  have hcap := h.cap
  have hmx : bc ≤ 9223372036854775807 := hcap.2
  have hle := h.len
  rw [ho] at c2
  have k1 := Lib.hid (r_Sectors h)
  have d1 : decide ((i : Int) < 0) = false := decide_eq_false (by omega)
  have d2' : decide (D.secs.length ≤ i) = false := decide_eq_false (by omega)
  obtain ⟨s0, hs0⟩ : ∃ s0, D.secs[i]? = some s0 := ⟨_, List.getElem?_eq_getElem (by omega)⟩
  have hl0 := h.each s0 (List.mem_of_getElem? hs0)
  have hr0 := h.brange hs0
  have b1 := isStrN_of (n := 64) hr0 hl0
  have b2 := strN_of (n := 64) hr0 hl0
  have w1 : IntKind.i64.wrap ((i : Int) * 64) = (i : Int) * 64 := by rw [IntKind.wrap_i64]; omega
  have w2 : IntKind.i64.wrap ((i : Int) * 64 + 64) = (i : Int) * 64 + 64 := by rw [IntKind.wrap_i64]; omega
  have j1 : (i : Int) * 64 + 64 ≤ (bc : Int) := by have := hcap.1; omega
  obtain ⟨qa, cap, hqq, hcq, hmq, hsome⟩ := h.que_form
  rw [hqq] at c1
  have he0 : rdK D i 0 = s0 := by
    unfold rdK
    rw [List.take_zero]
    show D.secs.getD i [] = s0
    rw [List.getD_eq_getElem?_getD, hs0]
    rfl
  have H := Lib.hid (And.intro h (And.intro hqq (And.intro hsome he0)))
  clear h ho he hcap hs0 hr0 hqq hsome he0 h0 h1
  go_enter Try.func36, Try.ntmps36
  go_wp2_with (go_at_call 41; refine k1.out.mono ?_; rintro e w1 ⟨rfl, hw⟩; subst hw)
  go_loop [6, 7] (fun t v => ∃ k : Nat, k ≤ D.q.length ∧ v = .int .i64 k ∧ t = .string (strOfNums (rdK D i k))) (fun _ v => D.q.length - (intOf v).toNat)
  case atStart => exact ⟨0, Nat.zero_le _, rfl, by rw [H.out.2.2.2]⟩
  case round =>
    clear b1 b2
    obtain ⟨k, hk, rfl, rfl⟩ := hrel
    obtain ⟨h, hqq, hsome, _⟩ := H.out
    by_cases hkl : k < D.q.length
    · have d3 : decide (k < D.q.length) = true := decide_eq_true hkl
      have hk1 : Hid (k + 1 ≤ D.q.length) := Lib.hid (by omega)
      obtain ⟨qb, rfl⟩ := hsome (by omega)
      obtain ⟨x, hx⟩ : ∃ x, D.q[k]? = some x := ⟨_, List.getElem?_eq_getElem hkl⟩
      obtain ⟨xa, s⟩ := x
      obtain ⟨q0, q1⟩ := h.qcell hqq (i := k) hx
      have j2 : (0 : Int) ≤ (k : Int) := by omega
      have hE := rdK_succ (a := i) hx
      by_cases hxa : xa = (i : Int)
      · rw [if_pos hxa] at hE
        have d4 : (xa == (i : Int)) = true := by simpa using hxa
        replace hE := Lib.hid hE
        clear h hqq hsome hx hxa
        go_wp2_with fail
        exact ⟨⟨k + 1, hk1.out, by simp, by rw [hE.out]⟩, by have := hk1.out; simp [intOf]; omega⟩
      · rw [if_neg hxa] at hE
        have d4 : (xa == (i : Int)) = false := by simpa using hxa
        replace hE := Lib.hid hE
        clear h hqq hsome hx hxa
        go_wp2_with fail
        exact ⟨⟨k + 1, hk1.out, by simp, by rw [hE.out]⟩, by have := hk1.out; simp [intOf]; omega⟩
    · obtain rfl : k = D.q.length := by omega
      have d3 : decide (D.q.length < D.q.length) = false := by simp
      have hE := Lib.hid (rdK_end D i)
      clear h hqq hsome
      go_wp2_with fail
      go_ret2
      rw [hE.out]
      exact ⟨rfl, rfl⟩
theorem r_Read (h : Rf w r g bc qv D) (a : Int) : Calls Try.prog 36 #[.pointer (some ⟨r, 0, none⟩), .int .i64 a] w fun e w' => e = .returned (.tuple #[.string (readS D a), .int .i64 (readE D a)]) ∧ w' = w := by
  unfold readE readS
  by_cases h1 : askS D a = 0
  · rw [if_neg (fun e : askS D a ≠ 0 => e h1), h1]
    obtain ⟨i, rfl⟩ := Int.eq_ofNat_of_zero_le (askS_zero h1).2.1
    rw [Int.toNat_natCast]
    exact r_Read_ok h i h1
  · rw [if_pos h1]
    unfold askS at h1 ⊢
    by_cases ho : D.on = false
    · rw [if_pos ho]
      exact r_Read_off h ho a
    · rw [if_neg ho] at h1 ⊢
      by_cases hx : a < 0 ∨ (D.secs.length : Int) ≤ a
      · rw [if_pos hx]
        exact r_Read_range h (by simpa using ho) a hx
      · rw [if_neg hx] at h1
        exact absurd rfl h1
end Go.Proofs.YtcbaflnmfiofeaaDk
namespace Go.Proofs.YtcbaflnmfiofeaaDk
open Go.RowKit Go.Maps Go.Proofs.YtcbaflnmfiofeaaKp Go.Proofs.YtcbaflnmfiofeaaCm
set_option linter.unusedVariables false
set_option linter.unusedSimpArgs false
variable {w w1 : World} {r g bc : Nat} {qv : Value} {D : Dm}
theorem info57' : (Try.prog.info? 57).map (fun i => (i.zero, i.size, i.bytes)) = some (some (.agg zw57), 64, 64) := by kernel_rfl
theorem emptyW (W : World) : (Instr.buildSlice 45 0 #[]).run Try.prog W = .ok (.slice (some ⟨W.heap.size, 0, none⟩) 0 0) (W.alloc (.cells #[] 59)) := by kernel_rfl
theorem emptyS (W : World) : (Instr.buildSlice 44 0 #[]).run Try.prog W = .ok (.slice (some ⟨W.heap.size, 0, none⟩) 0 0) (W.alloc (.cells #[] 57)) := by kernel_rfl
theorem grown_below {B : Nat} {row : Option Nat} {w w' : World} (h : w.grownBy w' row) (hB : B ≤ w.heap.size) (hr : ∀ k, row = some k → B ≤ k) : Below B w w' := (Below.refl _ _).grown h hB hr
theorem c_CloneW {base n : Nat} {news : List Value} (h : w.ownsRow base 59 65 qv n news) (h1 : ∀ u ∈ news, u.oneCell' = true) (hn : n < 1000000000000) :
    Calls Try.prog 34 #[qv] w fun e w' => ∃ v', e = .returned v' ∧ w'.ownsRow w.heap.size 59 65 v' n news ∧ Below w.heap.size w w' := by
  obtain ⟨i0, hi0, hz0, hz1, hz2⟩ := info_parts info59'
  rcases h.2 with ⟨rfl, rfl⟩ | ⟨b, cap, cur, e0, _⟩
  · have hnl : news = [] := List.eq_nil_of_length_eq_zero (by have := h.1; omega)
    subst hnl
    have heq := run_eql_slice_nil (P := Try.prog) w 45 59 none 0 0 Try.underlying45
    clear h h1 hi0 hz0 hz1 hz2
    go_enter Try.func34, Try.ntmps34
    go_wp2_with fail
    go_ret
    exact ⟨_, rfl, ⟨rfl, .inl ⟨rfl, rfl⟩⟩, Below.refl _ _⟩
  · have heq := run_eql_slice_nil (P := Try.prog) w 45 59 (some ⟨b, 0, none⟩) n cap Try.underlying45
    simp only [Option.isNone_some] at heq
    have hmt := emptyW w
    have H := Lib.hid (And.intro h (And.intro hi0 (And.intro hz0 (And.intro hz1 (And.intro hz2 h1)))))
    have HE := Lib.hid e0
    have hown0 : (w.alloc (.cells #[] 59)).ownsRow w.heap.size 59 65 (.slice (some ⟨w.heap.size, 0, none⟩) 0 0) 0 [] := World.ownsRow_made (base := w.heap.size) w #[] 0 (Nat.le_refl _) (by unfold maxLen; omega) rfl
    have HO := Lib.hid hown0
    rw [e0]
    clear h h1 hi0 hz0 hz1 hz2 e0 hown0
    go_enter Try.func34, Try.ntmps34
    go_wp2_with (at_builtin; (refine wpList_append_row rfl (.tmp 5) (.tmp 6) 45 rfl w.heap.size 59 i0 _ 65 72 Try.underlying45 H.out.2.1 H.out.2.2.1 H.out.2.2.2.1 H.out.2.2.2.2.1 rfl (by omega) (.slice (some ⟨w.heap.size, 0, none⟩) 0 0) 0 [] rfl HO.out (.slice (some ⟨b, 0, none⟩) n cap) rfl base n news (by rw [← HE.out]; exact H.out.1.alloc _) H.out.2.2.2.2.2 (by unfold maxLen; omega) (by omega) (by simp) ?_); intro v' w5 hown5 hgrow5 hat5)
    go_ret
    rw [Nat.zero_add, List.nil_append] at hown5
    exact ⟨v', rfl, hown5, ((Below.refl _ _).alloc (Nat.le_refl _) _).trans (grown_below hgrow5 (by simp) (fun k e => by cases e; exact Nat.le_refl _))⟩
theorem c_CloneS {n cap : Nat} {secs : List (List Int)} (h : SecAt w g secs) (hn : n = secs.length) (h0 : 0 < n) (h6 : n ≤ 65536) :
    Calls Try.prog 33 #[.slice (some ⟨g, 0, none⟩) n cap] w fun e w' => ∃ g' c', e = .returned (.slice (some ⟨g', 0, none⟩) n c') ∧ n ≤ c' ∧ c' ≤ 9223372036854775807 ∧ SecAt w' g' secs ∧ w.heap.size ≤ g' ∧ Below w.heap.size w w' := by
  obtain ⟨i0, hi0, hz0, hz1, hz2⟩ := info_parts info57'
  have heq := run_eql_slice_nil (P := Try.prog) w 44 57 (some ⟨g, 0, none⟩) n cap Try.underlying44
  simp only [Option.isNone_some] at heq
  have hmt := emptyS w
  obtain ⟨cs, hcs, hsz, hall⟩ := h
  have he : ∀ s ∈ secs, s.length = 64 := by
    intro s hs
    obtain ⟨i, hi, rfl⟩ := List.getElem_of_mem hs
    exact (hall i _ (List.getElem?_eq_getElem hi)).1
  have hlen : (u8s secs.flatten).length = n * 64 := by
    have := flatK_length he secs.length (Nat.le_refl _)
    rw [flatK, List.take_length] at this
    rw [u8s_length, this]
    omega
  have hcell : ∀ j u, (u8s secs.flatten)[j]? = some u → w.cell? ((⟨g, 0, none⟩ : Addr).add j) = some u := by
    intro j u hu
    have hj : j < n * 64 := by have := (List.getElem?_eq_some_iff.1 hu).1; omega
    obtain ⟨s, hs⟩ : ∃ s, secs[j / 64]? = some s := ⟨_, List.getElem?_eq_getElem (by omega)⟩
    have hjd : 64 * (j / 64) + j % 64 = j := Nat.div_add_mod j 64
    rw [u8s, List.getElem?_map, ← hjd, flatten_get secs (j / 64) s (j % 64) he hs (Nat.mod_lt _ (by omega)), Option.map_eq_some_iff] at hu
    obtain ⟨v, hv, rfl⟩ := hu
    rw [Addr.add_mid, Nat.zero_add, cell_of_row _ _ _ _ _ _ hcs, ← hjd]
    exact (hall _ s hs).2 _ v hv
  have hcell2 : ∀ j u, (u8s secs.flatten)[j]? = some u → (w.alloc (.cells #[] 57)).cell? ((⟨g, 0, none⟩ : Addr).add j) = some u := by
    intro j u hu
    rw [Addr.add_mid]
    have := hcell j u hu
    rw [Addr.add_mid] at this
    rw [← this]
    exact ((Below.refl w.heap.size w).alloc (Nat.le_refl _) _).cell (p := ⟨g, 0 + j, none⟩) (lt_of_at hcs)
  have hown0 : (w.alloc (.cells #[] 57)).ownsRow w.heap.size 57 64 (.slice (some ⟨w.heap.size, 0, none⟩) 0 0) 0 [] := World.ownsRow_made (base := w.heap.size) w #[] 0 (Nat.le_refl _) (by unfold maxLen; omega) rfl
  have H := Lib.hid (And.intro hcell2 (And.intro hi0 (And.intro hz0 (And.intro hz1 (And.intro hz2 (And.intro hlen hown0))))))
  have HA := Lib.hid (And.intro he (And.intro hn h0))
  clear hcs hsz hall hcell hcell2 hi0 hz0 hz1 hz2 hlen hown0 he hn
  go_enter Try.func33, Try.ntmps33
  go_wp2_with (at_builtin; (refine wpList_append_own_at _ rfl (.tmp 5) (.tmp 6) 44 rfl w.heap.size 57 i0 _ 64 64 Try.underlying44 H.out.2.1 H.out.2.2.1 H.out.2.2.2.1 H.out.2.2.2.2.1 rfl (by omega) (.slice (some ⟨w.heap.size, 0, none⟩) 0 0) 0 [] rfl H.out.2.2.2.2.2.2 ⟨g, 0, none⟩ n cap (u8s secs.flatten) rfl H.out.2.2.2.2.2.1 H.out.1 (oneU _) (by unfold maxLen; omega) (by omega) (by simp) ?_); intro v' w5 hown5 hgrow5 _ hat5)
  go_ret
  obtain ⟨he, hn, h0⟩ := HA.out
  rw [Nat.zero_add, List.nil_append] at hown5
  obtain ⟨_, ⟨e1, e2⟩ | ⟨gg, c', cur, rfl, hgg, hcur, hc1, hc2, hcs, htk⟩⟩ := hown5
  · omega
  · refine ⟨gg, c', rfl, hc1, hc2, ⟨cur, hcur, by rw [hcs]; omega, fun i s hi => ⟨he s (List.mem_of_getElem? hi), fun j v hv => ?_⟩⟩, hgg, ((Below.refl _ _).alloc (Nat.le_refl _) _).trans (grown_below hgrow5 (by simp) (fun k e => by cases e; exact Nat.le_refl _))⟩
    have hil := (List.getElem?_eq_some_iff.1 hi).1
    have hj : j < 64 := by have := (List.getElem?_eq_some_iff.1 hv).1; rw [he s (List.mem_of_getElem? hi)] at this; exact this
    have := flatten_get secs i s j he hi hj
    have h3 : (u8s secs.flatten)[64 * i + j]? = some (.int .u8 v) := by rw [u8s, List.getElem?_map, this, hv]; rfl
    rw [← htk, List.getElem?_take, if_pos (by omega), Array.getElem?_toList] at h3
    exact h3
end Go.Proofs.YtcbaflnmfiofeaaDk
namespace Go.Proofs.YtcbaflnmfiofeaaDk
open Go.RowKit Go.Maps Go.Proofs.YtcbaflnmfiofeaaKp Go.Proofs.YtcbaflnmfiofeaaCm
set_option linter.unusedVariables false
set_option linter.unusedSimpArgs false
variable {w w1 : World} {r g bc : Nat} {qv : Value} {D : Dm}
theorem r_New_no (n : Int) (h : ¬ (1 ≤ n ∧ n ≤ 65536)) (w : World) : Calls Try.prog 29 #[.int .i64 n] w fun e w' => e = .returned (.tuple #[.pointer none, .bool false]) ∧ w = w' := by
  by_cases h1 : n < 1
  · have d1 : decide (n < 1) = true := decide_eq_true h1
    clear h
    go_enter Try.func29, Try.ntmps29
    go_wp2_with fail
    go_ret2
    exact ⟨rfl, rfl⟩
  · have d1 : decide (n < 1) = false := decide_eq_false h1
    have d2 : decide (65536 < n) = true := decide_eq_true (by omega)
    clear h
    go_enter Try.func29, Try.ntmps29
    go_wp2_with fail
    go_ret2
    exact ⟨rfl, rfl⟩
theorem info5' : (Try.prog.info? 5).map (fun i => (i.zero, i.size, i.bytes)) = some (some (.int .u8 0), 1, 1) := by kernel_rfl
set_option maxRecDepth 100000 in
theorem r_New (n : Nat) (h1 : 1 ≤ n) (h2 : n ≤ 65536) (w : World) : Calls Try.prog 29 #[.int .i64 n] w fun e w' =>
    ∃ r g, e = .returned (.tuple #[.pointer (some ⟨r, 0, none⟩), .bool true]) ∧ Rf w' r g (n * 64) (.slice none 0 0) (newD n) ∧ w.heap.size ≤ r ∧ w.heap.size ≤ g ∧ Below w.heap.size w w' := by
  have d1 : decide ((n : Int) < 1) = false := decide_eq_false (by omega)
  have d2 : decide ((65536 : Int) < (n : Int)) = false := decide_eq_false (by omega)
  have w1 : IntKind.i64.wrap ((n : Int) * 64) = (n : Int) * 64 := by rw [IntKind.wrap_i64]; omega
  obtain ⟨ZS, hZS⟩ : ∃ ZS, ZS = madeCells #[.int .u8 0] (n * 64 * 1) := ⟨_, rfl⟩
  have hmk : ∀ W, (Instr.makeSlice 54 (.int .i64 ((n : Int) * 64)) (.int .i64 ((n : Int) * 64))).run Try.prog W = .ok (.slice (some ⟨W.heap.size, 0, none⟩) (n * 64) (n * 64)) (W.alloc (.cells ZS 5)) := by
    intro W
    obtain ⟨i0, hi0, hz0, hz1, hz2⟩ := info_parts info5'
    have := run_make (P := Try.prog) W 54 5 i0 _ Try.underlying54 hi0 hz0 .i64 .i64 (n * 64) (n * 64) (by omega) (Int.le_refl _) (by rw [hz2]; omega) (by omega)
    rw [hZS]
    have e : ((n : Int) * 64).toNat = n * 64 := by omega
    have e' : (((n * 64 : Nat) : Int)) = (n : Int) * 64 := by omega
    simp only [e', e] at this
    simpa [hz1, Value.cells] using this
  have HZ := Lib.hid hZS
  clear hZS
  go_enter Try.func29, Try.ntmps29
  go_wp2_with fail
  go_ret2
  have hzs : ZS.size = n * 64 := by rw [HZ.out, size_madeCells]; omega
  have hlen : (newD n).secs.length = n := by simp [newD]
  have hfl : (newD n).secs.flatten = List.replicate (n * 64) 0 := by simp only [newD, zsec]; rw [List.flatten_replicate_replicate]
  have hz : ∀ k, k < n * 64 → ZS[k]? = some (.int .u8 0) := by
    intro k hk
    rw [HZ.out, madeCells, Array.getElem?_map, Array.getElem?_range, if_pos (by omega), Option.map_some]
    have e : k % (#[Value.int .u8 0] : Array Value).size = 0 := Nat.mod_one k
    rw [e]
    rfl
  have hrow : (#[Value.slice (some ⟨w.heap.size, 0, none⟩) (n * 64) (n * 64), .slice none 0 0, .bool false, .int .i64 (-1), .int .i64 0, .int .i64 0, .int .i64 (-1), .int .i64 0] : Array Value) = rrow w.heap.size (n * 64) (.slice none 0 0) (newD n) 0 0 := by
    simp [rrow, newD, Nat.mul_comm]
  rw [hrow]
  have e0 : ((w.alloc (.cells ZS 5)).alloc (.cells (rrow w.heap.size (n * 64) (.slice none 0 0) (newD n) 0 0) 75)).heap[w.heap.size]? = some (.cells ZS 5 (0, 0)) := by
    rw [Below.heap_alloc _ _ _ (by simp), heap_alloc_new]
  have e1 : ((w.alloc (.cells ZS 5)).alloc (.cells (rrow w.heap.size (n * 64) (.slice none 0 0) (newD n) 0 0) 75)).heap[w.heap.size + 1]? = some (.cells (rrow w.heap.size (n * 64) (.slice none 0 0) (newD n) 0 0) 75 (0, 0)) := by
    rw [heap_alloc2_new]
  refine ⟨w.heap.size + 1, w.heap.size, rfl, ⟨⟨0, 0, e1, fun e => by cases e⟩, ?_, ⟨rfl, .inl ⟨rfl, rfl⟩⟩, by omega, by simp [Value.ownBlock], by simp [Value.ownBlock], ?_, by rw [hlen]; omega, by simp [newD], (fun e => by cases e), by simp [newD]⟩, by omega, Nat.le_refl _, ((Below.refl _ _).alloc (Nat.le_refl _) _).alloc (by simp) _⟩
  · rw [hlen, hfl]
    refine ⟨by simp [u8s]; omega, .inr ⟨w.heap.size, n * 64, ZS, by rw [Nat.mul_comm], Nat.zero_le _, e0, by omega, by unfold maxLen; omega, by omega, ?_⟩⟩
    apply List.ext_getElem?
    intro j
    rw [List.getElem?_take, u8s, List.getElem?_map, List.getElem?_replicate]
    by_cases hj : j < n * 64
    · rw [if_pos (by omega), if_pos hj, Array.getElem?_toList, hz j hj]
      rfl
    · rw [if_neg (by omega), if_neg hj]
      rfl
  · intro s hs
    rw [List.eq_of_mem_replicate hs]
    rfl
theorem ownsRow_base {w : World} {b b' : Nat} {e : TypeId} {size n : Nat} {v : Value} {xs : List Value} (h : w.ownsRow b e size v n xs) (hb : b' ≤ b) : w.ownsRow b' e size v n xs := by
  refine ⟨h.1, h.2.imp id ?_⟩
  rintro ⟨g, cap, cur, e0, hg, r⟩
  exact ⟨g, cap, cur, e0, Nat.le_trans hb hg, r⟩
set_option maxRecDepth 100000 in
theorem r_Twin (h : Rf w r g bc qv D) (hq : D.q.length < 1000000000000) : Calls Try.prog 30 #[.pointer (some ⟨r, 0, none⟩)] w fun e w' =>
    ∃ r' g' bc' qv', e = .returned (.pointer (some ⟨r', 0, none⟩)) ∧ Rf w' r' g' bc' qv' D ∧ (∀ k, rfp r' g' qv' k → w.heap.size ≤ k) ∧ Below w.heap.size w w' := by
  obtain ⟨fk, ft, hrow, hfk⟩ := h.row
  have c : ∀ j v, (rrow g bc qv D fk ft)[j]? = some v → w.cell? ⟨r, j, none⟩ = some v := fun j v e => (cell_of_row _ _ _ _ _ _ hrow).trans e
  obtain ⟨qa, qcap, hqq, _, _, _⟩ := h.que_form
  have c0 : w.cell? ⟨r, 0, none⟩ = some (.slice (some ⟨g, 0, none⟩) (64 * D.secs.length) bc) := c 0 _ rfl
  have c1 : w.cell? ⟨r, 1, none⟩ = some (.slice qa D.q.length qcap) := by rw [← hqq]; exact c 1 _ rfl
  have c2 : w.cell? ⟨r, 2, none⟩ = some (.bool (!D.on)) := c 2 _ rfl
  obtain ⟨fu, hfu⟩ : ∃ fu, fu = (if D.fset then D.fn else -1) := ⟨_, rfl⟩
  have c3 : w.cell? ⟨r, 3, none⟩ = some (.int .i64 fu) := by rw [hfu]; exact c 3 _ rfl
  have c4 : w.cell? ⟨r, 4, none⟩ = some (.int .i64 fk) := c 4 _ rfl
  have c5 : w.cell? ⟨r, 5, none⟩ = some (.int .i64 ft) := c 5 _ rfl
  have c6 : w.cell? ⟨r, 6, none⟩ = some (.int .i64 D.room) := c 6 _ rfl
  have c7 : w.cell? ⟨r, 7, none⟩ = some (.int .i64 D.writes) := c 7 _ rfl
  obtain ⟨ib, hib, hzb0, hzb1, hzb2⟩ := info_parts info5'
  obtain ⟨iq, hiq, hzq0, hzq1, hzq2⟩ := info_parts info77
  have hle := h.len
  have H := Lib.hid (And.intro h (And.intro hrow (And.intro hfk (And.intro hq (And.intro hqq hfu)))))
  have HB := Lib.hid (And.intro hib (And.intro hzb0 (And.intro hzb1 hzb2)))
  have HQ := Lib.hid (And.intro hiq (And.intro hzq0 (And.intro hzq1 hzq2)))
  have hrl := h.lt r (.inl rfl)
  clear h hrow hfk hq hqq hfu c hib hzb0 hzb1 hzb2 hiq hzq0 hzq1 hzq2
  go_enter Try.func30, Try.ntmps30
  go_upto_region 2 with fail
  obtain ⟨ROW, hROW⟩ : ∃ ROW : Array Value, ROW = #[.slice (some ⟨g, 0, none⟩) (64 * D.secs.length) bc, .slice qa D.q.length qcap, .bool (!D.on), .int .i64 fu, .int .i64 fk, .int .i64 ft, .int .i64 D.room, .int .i64 D.writes] := ⟨_, rfl⟩
  rw [← hROW]
  have hb1 : Below w.heap.size w (w.alloc (.cells ROW 75)) := (Below.refl _ _).alloc (Nat.le_refl _) _
  have hn1 := heap_alloc_new w (.cells ROW 75 (0, 0))
  have hs1 : w.heap.size < (w.alloc (.cells ROW 75)).heap.size := by simp
  clear c2 c3 c4 c5 c6 c7
  generalize (w.alloc (.cells ROW 75)) = w1 at *
  obtain ⟨np, hnp⟩ : ∃ np, np = w.heap.size := ⟨_, rfl⟩
  rw [← hnp] at hb1 hn1 hs1 ⊢
  obtain ⟨h, hrow, hfk, hq, hqq, hfu⟩ := H.out
  have hrn : r < np := by rw [hnp]; exact hrl
  have e1 : ∀ k, k < np → w1.heap[k]? = w.heap[k]? := fun k hk => hb1.block k hk
  have hlt : ∀ k, rfp r g qv k → k < np := fun k hk => by rw [hnp]; exact h.lt k hk
  have h1 : Rf w1 r g bc qv D := h.at (fun k hk => e1 k (hlt k hk))
  have c0' : w1.cell? ⟨r, 0, none⟩ = some (.slice (some ⟨g, 0, none⟩) (64 * D.secs.length) bc) := (World.cell?_of_block (w := w) (e1 r hrn)).trans c0
  have c1' : w1.cell? ⟨r, 1, none⟩ = some (.slice qa D.q.length qcap) := (World.cell?_of_block (w := w) (e1 r hrn)).trans c1
  have d0 : ∃ v, w1.cell? ⟨np, 0, none⟩ = some v := ⟨_, (cell_of_row _ _ _ _ _ _ hn1).trans (by rw [hROW]; rfl)⟩
  have d1 : ∃ v, w1.cell? ⟨np, 1, none⟩ = some v := ⟨_, (cell_of_row _ _ _ _ _ _ hn1).trans (by rw [hROW]; rfl)⟩
  have z0 : w1.frozen? ⟨np, 0, none⟩ = false := frozen_of_row _ _ _ _ _ hn1
  have z1 : w1.frozen? ⟨np, 1, none⟩ = false := frozen_of_row _ _ _ _ _ hn1
  have hnil : w1.ownsRow np 5 1 (.slice none 0 0) 0 [] := World.ownsRow_nil _ _ _ _
  have HX := Lib.hid (And.intro h1 (And.intro hn1 (And.intro hb1 (And.intro hROW (And.intro hlt (And.intro hnp hs1))))))
  have HN := Lib.hid (And.intro hnil (And.intro (h1.b.cells (g := g) rfl) (And.intro h1.b.1 (Nat.le_of_lt hs1))))
  obtain ⟨v0, d0⟩ := d0
  obtain ⟨v1, d1⟩ := d1
  have hg2 : ∀ w2, w1.grownBy w2 none → (w2.cell? ⟨np, 0, none⟩ = some v0 ∧ w2.frozen? ⟨np, 0, none⟩ = false) := fun w2 hg => ⟨(World.cell?_of_block (hg.block np hs1 (by simp))).trans d0, (World.frozen?_of_block (hg.block np hs1 (by simp))).trans z0⟩
  have HG := Lib.hid hg2
  clear h hrow hfk hq hqq hfu h1 hn1 hb1 hROW hlt hnp hs1 hnil hg2 e1 c0 c1 d1 z1
  go_upto_region 3 with (at_builtin; (refine wpList_append_lies _ rfl _ (.tmp 10) 54 rfl np 5 ib _ 1 1 Try.underlying54 HB.out.1 HB.out.2.1 HB.out.2.2.1 HB.out.2.2.2 rfl (by omega) (.slice none 0 0) 0 [] rfl HN.out.1 ⟨g, 0, none⟩ (64 * D.secs.length) bc (u8s D.secs.flatten) rfl HN.out.2.2.1 HN.out.2.1 (oneU _) (by omega) (by unfold maxLen; omega) (by omega) HN.out.2.2.2 w1.heap.size rfl ?_); intro gg bc2 w2 hown2 hgrow2 hat2 hlt2; have hcz := HG.out w2 hgrow2; obtain ⟨d2, z2⟩ := hcz)
  obtain ⟨h1, hn1, hb1, hROW, hlt, hnp, hs1⟩ := HX.out
  rw [Nat.zero_add, List.nil_append] at hown2
  have hgg : gg = w1.heap.size := by
    rcases hat2 with e | e
    · simp [Value.ownBlock] at e
    · exact e
  subst hgg
  have e2 : ∀ k, k < w1.heap.size → w2.heap[k]? = w1.heap[k]? := fun k hk => hgrow2.block k hk (by simp [Value.ownBlock])
  have hlt1 : ∀ k, rfp r g qv k → k < w1.heap.size := fun k hk => by have := hlt k hk; omega
  have h2 : Rf (w2.setCell ⟨np, 0, none⟩ (.slice (some ⟨w1.heap.size, 0, none⟩) (64 * D.secs.length) bc2)) r g bc qv D := (h1.at (fun k hk => e2 k (hlt1 k hk))).at (fun k hk => Below.heap_setCell _ _ _ _ (fun e => by have := hlt k hk; simp only at e; omega))
  have hrow2 : (w2.setCell ⟨np, 0, none⟩ (.slice (some ⟨w1.heap.size, 0, none⟩) (64 * D.secs.length) bc2)).heap[np]? = some (.cells (ROW.setIfInBounds 0 (.slice (some ⟨w1.heap.size, 0, none⟩) (64 * D.secs.length) bc2)) 75 (0, 0)) := heap_setCell_same w2 np 0 _ _ _ ((e2 np hs1).trans hn1)
  have hown3 : (w2.setCell ⟨np, 0, none⟩ (.slice (some ⟨w1.heap.size, 0, none⟩) (64 * D.secs.length) bc2)).ownsRow np 5 1 (.slice (some ⟨w1.heap.size, 0, none⟩) (64 * D.secs.length) bc2) (64 * D.secs.length) (u8s D.secs.flatten) := ownsRow_at hown2 (fun k e => Below.heap_setCell _ _ _ _ (fun e' => by cases e; simp only at e'; omega))
  have hb3 : Below np w (w2.setCell ⟨np, 0, none⟩ (.slice (some ⟨w1.heap.size, 0, none⟩) (64 * D.secs.length) bc2)) := (hb1.trans (grown_below hgrow2 (Nat.le_of_lt hs1) (fun k e => by simp [Value.ownBlock] at e))).setCell (Nat.le_refl _) _
  have hs3 : w1.heap.size < (w2.setCell ⟨np, 0, none⟩ (.slice (some ⟨w1.heap.size, 0, none⟩) (64 * D.secs.length) bc2)).heap.size := by simpa using hlt2
  have c1'' : (w2.setCell ⟨np, 0, none⟩ (.slice (some ⟨w1.heap.size, 0, none⟩) (64 * D.secs.length) bc2)).cell? ⟨r, 1, none⟩ = some (.slice qa D.q.length qcap) := by
    rw [← c1']
    exact World.cell?_of_block ((Below.heap_setCell w2 ⟨np, 0, none⟩ _ r (show r ≠ np by omega)).trans (e2 r (by omega)))
  clear hown2 hgrow2 hat2 hlt2 e2 h1 hn1 hb1 c0' c1' d0 d2 z0 z2 HX HN HG
  generalize (w2.setCell ⟨np, 0, none⟩ (.slice (some ⟨w1.heap.size, 0, none⟩) (64 * D.secs.length) bc2)) = w3 at *
  generalize w1.heap.size = gg at *
  have d1 : ∃ v, w3.cell? ⟨np, 1, none⟩ = some v := ⟨_, (cell_of_row _ _ _ _ _ _ hrow2).trans (by rw [hROW]; rfl)⟩
  obtain ⟨v1, d1⟩ := d1
  have z1 : w3.frozen? ⟨np, 1, none⟩ = false := frozen_of_row _ _ _ _ _ hrow2
  obtain ⟨h, hrow, hfk, hq, hqq, hfu⟩ := H.out
  have hq3 : w3.ownsRow 0 77 2 (.slice qa D.q.length qcap) D.q.length (rcells D.q) := by rw [← hqq]; exact h2.q
  have hone : ∀ u ∈ rcells D.q, u.oneCell' = true := by
    intro u hu
    simp only [rcells, List.mem_flatten, List.mem_map] at hu
    obtain ⟨_, ⟨x, _, rfl⟩, hu⟩ := hu
    rcases List.mem_cons.1 hu with rfl | hu
    · rfl
    · rcases List.mem_cons.1 hu with rfl | hu
      · rfl
      · cases hu
  have hg2 : ∀ w4, w3.grownBy w4 none → (w4.cell? ⟨np, 1, none⟩ = some v1 ∧ w4.frozen? ⟨np, 1, none⟩ = false) := fun w4 hg => ⟨(World.cell?_of_block (hg.block np (by omega) (by simp))).trans d1, (World.frozen?_of_block (hg.block np (by omega) (by simp))).trans z1⟩
  have HG := Lib.hid hg2
  have HN := Lib.hid (And.intro (World.ownsRow_nil w3 np 77 2) (And.intro hq3 (And.intro hone (And.intro hq (show np ≤ w3.heap.size by omega)))))
  have HX := Lib.hid (And.intro h2 (And.intro hrow2 (And.intro hown3 (And.intro hb3 (And.intro hs3 (And.intro hROW (And.intro hlt (And.intro hnp hs1))))))))
  clear h hrow hfk hq hqq hfu hq3 hone hg2 h2 hrow2 hown3 hb3 hs3 hROW hlt hnp hs1 d1 z1 hlt1
  go_wp2_with (at_builtin; (refine wpList_append_row rfl _ (.tmp 16) 73 rfl np 77 iq _ 2 24 Try.underlying73 HQ.out.1 HQ.out.2.1 HQ.out.2.2.1 HQ.out.2.2.2 rfl (by omega) (.slice none 0 0) 0 [] rfl HN.out.1 (.slice qa D.q.length qcap) rfl 0 D.q.length (rcells D.q) HN.out.2.1 HN.out.2.2.1 (by have := HN.out.2.2.2.1; unfold maxLen; omega) (by have := HN.out.2.2.2.1; omega) HN.out.2.2.2.2 ?_); intro v' w4 hown4 hgrow4 hat4; have hcz := HG.out w4 hgrow4; obtain ⟨d2, z2⟩ := hcz; rw [Nat.zero_add, List.nil_append] at hown4; obtain ⟨qa4, qc4, rfl⟩ := YtcbaflnmfiofeaaW.PrintWords.own_slice hown4; have HO := Lib.hid (And.intro hown4 (And.intro hgrow4 hat4)); clear hown4 hgrow4 hat4)
  go_ret
  obtain ⟨hown4, hgrow4, hat4⟩ := HO.out
  obtain ⟨h2, hrow2, hown3, hb3, hs3, hROW, hlt, hnp, hs1⟩ := HX.out
  obtain ⟨h, hrow, hfk, hq, hqq, hfu⟩ := H.out
  have e4 : ∀ k, k < w3.heap.size → w4.heap[k]? = w3.heap[k]? := fun k hk => hgrow4.block k hk (by simp [Value.ownBlock])
  have e5 : ∀ k, k ≠ np → (w4.setCell ⟨np, 1, none⟩ (.slice qa4 D.q.length qc4)).heap[k]? = w4.heap[k]? := fun k hk => Below.heap_setCell _ _ _ _ hk
  have hq4 : ∀ k, (Value.slice qa4 D.q.length qc4).ownBlock = some k → w3.heap.size ≤ k := fun k e => by
    rcases hat4 with e1 | e1
    · rw [e1] at e; simp [Value.ownBlock] at e
    · rw [e] at e1; have := Option.some.inj e1; omega
  refine ⟨np, gg, bc2, _, rfl, ⟨⟨fk, ft, ?_, hfk⟩, ?_, ?_, by omega, fun e => by have := hq4 _ e; omega, fun e => by have := hq4 _ e; omega, h.each, h.len, h.fits, h.fz, h.rng⟩, ?_, ?_⟩
  · rw [heap_setCell_same w4 np 1 _ _ _ ((e4 np (by omega)).trans hrow2), hROW]
    simp [rrow, hfu]
  · exact ownsRow_base (ownsRow_at (ownsRow_at hown3 (fun k e => by cases e; exact e4 gg hs3)) (fun k e => by cases e; exact e5 gg (by omega))) (Nat.zero_le _)
  · exact ownsRow_base (ownsRow_at hown4 (fun k e => e5 k (fun e' => by have := hq4 k e; omega))) (Nat.zero_le _)
  · rintro k (rfl | rfl | e)
    · omega
    · omega
    · have := hq4 k e; omega
  · rw [← hnp]
    exact (hb3.trans (grown_below hgrow4 (by omega) (fun k e => by simp [Value.ownBlock] at e))).setCell (Nat.le_refl _) _
end Go.Proofs.YtcbaflnmfiofeaaDk
namespace Go.Proofs.YtcbaflnmfiofeaaDk
open Go.RowKit Go.Maps Go.Proofs.YtcbaflnmfiofeaaKp Go.Proofs.YtcbaflnmfiofeaaCm
set_option linter.unusedVariables false
set_option linter.unusedSimpArgs false
variable {w w1 : World} {p g m : Nat} {qv : Value} {D : Dm}
attribute [local go_sem ↓] Go.wp_at_zero Go.wp_at_succ ld59 st59 zero59
attribute [local go_sem] run_ld59 run_st59 open59
/-- the twin while its map is made: block np is its row, mb its map, k writes are told -/
structure TwL (w wr : World) (np g' mb : Nat) (qv4 : Value) (D : Dm) (c' k : Nat) : Prop where
  row : wr.heap[np]? = some (.cells (drow g' mb qv4 { D with cap := c' }) 50 (0, 0))
  sec : SecAt wr g' D.secs
  que : wr.ownsRow 0 59 65 qv4 D.q.length (qcells D.q)
  map : wr.ownsMap (H := Unit) Try.prog 3 (plainElem Try.prog 3) mb k (lastD (D.q.take k))
  below : Below np w wr
  n1 : np < g'
  n2 : np < mb
  n3 : g' ≠ mb
  n4 : ∀ b, qv4.ownBlock = some b → np < b ∧ b ≠ g' ∧ b ≠ mb
theorem TwL.b {w wr w2 : World} {np g' mb : Nat} {qv4 : Value} {c' k : Nat} (h : TwL w wr np g' mb qv4 D c' k) (hb : Below wr.heap.size wr w2) (hn : np ≤ wr.heap.size) : TwL w w2 np g' mb qv4 D c' k :=
  ⟨by rw [hb.block np (lt_of_at h.row)]; exact h.row, h.sec.at (hb.block g' (by obtain ⟨cs, h1, _⟩ := h.sec; exact lt_of_at h1)), ownsRow_at h.que (fun b e => hb.block b (ownBlock_lt h.que e)), ownsMap_at h.map (hb.block mb h.map.lt), h.below.trans (hb.mono hn), h.n1, h.n2, h.n3, h.n4⟩
set_option maxHeartbeats 2000000 in
set_option maxRecDepth 100000 in
theorem c_Twin (h : Dsk w p g m qv D) (hq : D.q.length < 1000000000000) : Calls Try.prog 25 #[.pointer (some ⟨p, 0, none⟩)] w fun e w' =>
    ∃ p' g' m' qv' c', e = .returned (.pointer (some ⟨p', 0, none⟩)) ∧ Dsk w' p' g' m' qv' { D with cap := c' } ∧ (∀ k, fp p' g' m' qv' k → w.heap.size ≤ k) ∧ Below w.heap.size w w' := by
  obtain ⟨c0, c1, c2, c3, c4, c5, c6, c7, c8, c9⟩ := h.cells
  obtain ⟨qa, qcap, hqq, _, _⟩ := que_cap h
  rw [hqq] at c1
  have hle := h.len
  have H := Lib.hid (And.intro h (And.intro hq hqq))
  have hpl := h.lt p (.inl rfl)
  clear h hq hqq
  go_enter Try.func25, Try.ntmps25
  go_upto_region 4 with fail
  obtain ⟨ROW, hROW⟩ : ∃ ROW : Array Value, ROW = #[.slice (some ⟨g, 0, none⟩) D.secs.length D.cap, .slice qa D.q.length qcap, .map (some m), .bool D.on, .int .i64 D.room, .bool D.fset, .int .i64 D.fn, .int .i64 D.fk, .int .i64 D.ft, .int .i64 D.writes] := ⟨_, rfl⟩
  rw [← hROW]
  have hb1 : Below w.heap.size w (w.alloc (.cells ROW 50)) := (Below.refl _ _).alloc (Nat.le_refl _) _
  have hn1 := heap_alloc_new w (.cells ROW 50 (0, 0))
  have hs1 : w.heap.size < (w.alloc (.cells ROW 50)).heap.size := by simp
  clear c2 c3 c4 c5 c6 c7 c8 c9
  generalize (w.alloc (.cells ROW 50)) = w1 at *
  obtain ⟨np, hnp⟩ : ∃ np, np = w.heap.size := ⟨_, rfl⟩
  rw [← hnp] at hb1 hn1 hs1 ⊢
  obtain ⟨h, hq, hqq⟩ := H.out
  have hpn : p < np := by rw [hnp]; exact hpl
  have e1 : ∀ k, k < np → w1.heap[k]? = w.heap[k]? := fun k hk => hb1.block k hk
  have hlt : ∀ k, fp p g m qv k → k < np := fun k hk => by rw [hnp]; exact h.lt k hk
  have h1 : Dsk w1.drew p g m qv D := h.at (fun k hk => e1 k (hlt k hk))
  have c0' : w1.cell? ⟨p, 0, none⟩ = some (.slice (some ⟨g, 0, none⟩) D.secs.length D.cap) := (World.cell?_of_block (w := w) (e1 p hpn)).trans c0
  have c1' : w1.cell? ⟨p, 1, none⟩ = some (.slice qa D.q.length qcap) := (World.cell?_of_block (w := w) (e1 p hpn)).trans c1
  have kS := c_CloneS (cap := D.cap) h1.sec rfl h1.len.1 h1.len.2
  replace kS := Lib.hid kS
  have hqw : w1.drew.ownsRow 0 59 65 (.slice qa D.q.length qcap) D.q.length (qcells D.q) := by rw [← hqq]; exact h1.que
  have hone : ∀ u ∈ qcells D.q, u.oneCell' = true := by
    intro u hu
    simp only [qcells, List.mem_flatten, List.mem_map] at hu
    obtain ⟨_, ⟨x, _, rfl⟩, hu⟩ := hu
    exact oneW x u hu
  have kW : ∀ w2, Below w1.drew.heap.size w1.drew w2 → Calls Try.prog 34 #[.slice qa D.q.length qcap] w2 fun e w' => ∃ v', e = .returned v' ∧ w'.ownsRow w2.heap.size 59 65 v' D.q.length (qcells D.q) ∧ Below w2.heap.size w2 w' := fun w2 hb =>
    c_CloneW (ownsRow_at hqw (fun k e => hb.block k (ownBlock_lt hqw e))) hone hq
  replace kW := Lib.hid kW
  have hcp : ∀ (w2 : World), Below w1.drew.heap.size w1.drew w2 → w2.cell? ⟨p, 0, none⟩ = some (.slice (some ⟨g, 0, none⟩) D.secs.length D.cap) ∧ w2.cell? ⟨p, 1, none⟩ = some (.slice qa D.q.length qcap) ∧ w2.heap[np]? = some (.cells ROW 50 (0, 0)) := fun w2 hb =>
    ⟨(World.cell?_of_block (w := w1) (hb.block p (by show p < w1.heap.size; omega))).trans c0', (World.cell?_of_block (w := w1) (hb.block p (by show p < w1.heap.size; omega))).trans c1', (hb.block np hs1).trans hn1⟩
  have HC := Lib.hid hcp
  have HX := Lib.hid (And.intro hn1 (And.intro hb1 (And.intro hROW (And.intro hlt (And.intro hnp hs1)))))
  have hne : ¬ (np = p) := by omega
  have hne' : ¬ (p = np) := by omega
  clear h hq hqq h1 hqw hone hcp hn1 hb1 hlt hnp hs1 e1 c0 c1 hpl
  go_region_held3 (fun W => W.cell? ⟨p, 0, none⟩ = some (.slice (some ⟨g, 0, none⟩) D.secs.length D.cap) ∧ W.cell? ⟨p, 1, none⟩ = some (.slice qa D.q.length qcap))
    (first | go_keep | exact ⟨s0, s1⟩)
    (first
      | (go_at_call 33; refine kS.out.mono ?_; rintro e w2 ⟨g', c', rfl, hs⟩; have hcz := HC.out w2 hs.2.2.2.2; have s0 := hcz.1; have s1 := hcz.2.1; have HS := Lib.hid hs; clear hs hcz)
      | (go_at_call 34; refine (kW.out _ HS.out.2.2.2.2).mono ?_; rintro e w3 ⟨v', rfl, hs⟩; obtain ⟨qa4, qc4, rfl⟩ := YtcbaflnmfiofeaaW.PrintWords.own_slice hs.1; have hcz := HC.out w3 (HS.out.2.2.2.2.trans (hs.2.mono HS.out.2.2.2.2.size)); have s0 := hcz.1; have s1 := hcz.2.1; have d0 : ∃ v, w3.cell? ⟨np, 0, none⟩ = some v := ⟨_, (cell_of_row _ _ _ _ _ _ hcz.2.2).trans (by rw [hROW]; rfl)⟩; have d1 : ∃ v, w3.cell? ⟨np, 1, none⟩ = some v := ⟨_, (cell_of_row _ _ _ _ _ _ hcz.2.2).trans (by rw [hROW]; rfl)⟩; obtain ⟨v0, d0⟩ := d0; obtain ⟨v1, d1⟩ := d1; have z0 := frozen_of_row w3 np 0 _ _ hcz.2.2; have z1 := frozen_of_row w3 np 1 _ _ hcz.2.2; have HW := Lib.hid (And.intro hs hcz.2.2); clear hs hcz))
  obtain ⟨hn1, hb1, hROW, hlt, hnp, hs1⟩ := HX.out
  obtain ⟨hc1, hc2, hsec, hgg, hb2⟩ := HS.out
  obtain ⟨⟨hqw, hb3⟩, hn3⟩ := HW.out
  have hs2 : w1.heap.size ≤ w2.heap.size := hb2.size
  have hs3 : w2.heap.size ≤ w3.heap.size := hb3.size
  have hg1 : w1.heap.size ≤ g' := hgg
  have hg2 : g' < w2.heap.size := by obtain ⟨cs, h1, _⟩ := hsec; exact lt_of_at h1
  have hq4 : ∀ b, (Value.slice qa4 D.q.length qc4).ownBlock = some b → w2.heap.size ≤ b ∧ b < w3.heap.size := fun b e => hqw.lt b e
  have e5 : ∀ k, k ≠ np → ((w3.setCell ⟨np, 0, none⟩ (.slice (some ⟨g', 0, none⟩) D.secs.length c')).setCell ⟨np, 1, none⟩ (.slice qa4 D.q.length qc4)).heap[k]? = w3.heap[k]? := fun k hk => (Below.heap_setCell _ _ _ _ hk).trans (Below.heap_setCell _ _ _ _ hk)
  have hrow5 := heap_setCell_same (w3.setCell ⟨np, 0, none⟩ (.slice (some ⟨g', 0, none⟩) D.secs.length c')) np 1 _ _ (.slice qa4 D.q.length qc4) (heap_setCell_same w3 np 0 _ _ (.slice (some ⟨g', 0, none⟩) D.secs.length c') hn3)
  have hsec5 : SecAt ((w3.setCell ⟨np, 0, none⟩ (.slice (some ⟨g', 0, none⟩) D.secs.length c')).setCell ⟨np, 1, none⟩ (.slice qa4 D.q.length qc4)) g' D.secs := (hsec.at (hb3.block g' hg2)).at (e5 g' (by omega))
  have hque5 : ((w3.setCell ⟨np, 0, none⟩ (.slice (some ⟨g', 0, none⟩) D.secs.length c')).setCell ⟨np, 1, none⟩ (.slice qa4 D.q.length qc4)).ownsRow 0 59 65 (.slice qa4 D.q.length qc4) D.q.length (qcells D.q) := ownsRow_base (ownsRow_at hqw (fun k e => e5 k (by have := hq4 k e; omega))) (Nat.zero_le _)
  have hb5 : Below np w ((w3.setCell ⟨np, 0, none⟩ (.slice (some ⟨g', 0, none⟩) D.secs.length c')).setCell ⟨np, 1, none⟩ (.slice qa4 D.q.length qc4)) :=
    (((hb1.trans (⟨rfl, rfl, rfl, Nat.le_refl _, fun _ _ => rfl⟩ : Below np w1 w1.drew)).trans ((hb2.mono (Nat.le_of_lt hs1)).trans (hb3.mono (by omega)))).setCell (Nat.le_refl _) _).setCell (Nat.le_refl _) _
  have hsz5 : ((w3.setCell ⟨np, 0, none⟩ (.slice (some ⟨g', 0, none⟩) D.secs.length c')).setCell ⟨np, 1, none⟩ (.slice qa4 D.q.length qc4)).heap.size = w3.heap.size := by simp
  have HF := Lib.hid (And.intro hc1 (And.intro hc2 (And.intro hg1 (And.intro hg2 (And.intro hq4 (And.intro hnp (And.intro hsz5 (And.intro hs2 (And.intro hs3 hs1)))))))))
  clear HS HW HC HX kS kW hn1 hb1 hlt hs1 hsec hgg hb2 hqw hb3 hn3 hq4 e5 d0 d1 z0 z1 s0 s1 c0' c1' hnp hsz5 hs2 hs3 hc1 hc2 hg1 hg2
  generalize ((w3.setCell ⟨np, 0, none⟩ (.slice (some ⟨g', 0, none⟩) D.secs.length c')).setCell ⟨np, 1, none⟩ (.slice qa4 D.q.length qc4)) = w5 at *
  have hmm := @run_makeMap Try.prog
  have hal := (Below.refl w5.heap.size w5).alloc (Nat.le_refl _) (.map #[] 0)
  have hnl := lt_of_at hrow5
  have q1 : w5.cell? ⟨np, 1, none⟩ = some (.slice qa4 D.q.length qc4) := (cell_of_row _ _ _ _ _ _ hrow5).trans (by rw [hROW]; rfl)
  have q2 : w5.cell? ⟨np, 2, none⟩ = some (.map (some m)) := (cell_of_row _ _ _ _ _ _ hrow5).trans (by rw [hROW]; rfl)
  have q2' := (hal.cell (p := ⟨np, 2, none⟩) hnl).trans q2
  have q1' := (hal.cell (p := ⟨np, 1, none⟩) hnl).trans q1
  have f2' := (hal.frozen (p := ⟨np, 2, none⟩) hnl).trans (frozen_of_row w5 np 2 _ _ hrow5)
  have HY := Lib.hid (And.intro hrow5 (And.intro hsec5 (And.intro hque5 (And.intro hb5 (And.intro hal (And.intro hnl hROW))))))
  clear hrow5 hsec5 hque5 hb5 hal hnl hROW q1 q2
  go_wp2_with fail
  obtain ⟨hrow5, hsec5, hque5, hb5, hal, hnl, hROW⟩ := HY.out
  obtain ⟨hc1, hc2, hg1, hg2, hq4, hnp, hsz5, hs2, hs3, hs1⟩ := HF.out
  have hTL : TwL w ((w5.alloc (.map #[] 0)).setCell ⟨np, 2, none⟩ (.map (some w5.heap.size))) np g' w5.heap.size (.slice qa4 D.q.length qc4) D c' 0 := by
    have e6 : ∀ k, k < w5.heap.size → k ≠ np → ((w5.alloc (.map #[] 0)).setCell ⟨np, 2, none⟩ (.map (some w5.heap.size))).heap[k]? = w5.heap[k]? := fun k hk hn => (Below.heap_setCell _ _ _ _ hn).trans (hal.block k hk)
    refine ⟨?_, hsec5.at (e6 g' (by omega) (by omega)), ownsRow_at hque5 (fun b e => e6 b (by have := hq4 b e; omega) (by have := hq4 b e; omega)), ?_, (hb5.trans (hal.mono (by omega))).setCell (Nat.le_refl _) _, by omega, by omega, by omega, fun b e => by have := hq4 b e; omega⟩
    · rw [heap_setCell_same (w5.alloc (.map #[] 0)) np 2 _ _ _ ((hal.block np hnl).trans hrow5), hROW]
      rfl
    · exact ownsMap_at (w := w5.alloc (.map #[] 0)) (World.ownsMap_made _ _ _ _) (Below.heap_setCell _ _ _ _ (show w5.heap.size ≠ np by omega))
  have HT := Lib.hid (And.intro hTL (show np ≤ ((w5.alloc (.map #[] 0)).setCell ⟨np, 2, none⟩ (.map (some w5.heap.size))).heap.size by simp; omega))
  clear hrow5 hsec5 hque5 hb5 hal hnl hROW hc1 hc2 hg1 hg2 hq4 hnp hsz5 hs2 hs3 hs1 q1' q2' f2' HY hTL
  generalize w5.heap.size = mb at *
  generalize ((w5.alloc (.map #[] 0)).setCell ⟨np, 2, none⟩ (.map (some mb))) = w6 at *
  go_loopw [28] (fun v wr => ∃ k : Nat, k ≤ D.q.length ∧ v = .int .i64 k ∧ TwL w wr np g' mb (.slice qa4 D.q.length qc4) D c' k ∧ np ≤ wr.heap.size) (fun v _ => D.q.length - (intOf v).toNat)
  case atStart => exact ⟨0, Nat.zero_le _, rfl, HT.out⟩
  case round =>
    obtain ⟨k, hk, rfl, hT, hnr⟩ := hrel
    by_cases hkl : k < D.q.length
    · have d1 : decide (k < D.q.length) = true := decide_eq_true hkl
      obtain ⟨h, hq, hqq⟩ := H.out
      obtain ⟨x, hx⟩ : ∃ x, D.q[k]? = some x := ⟨_, List.getElem?_eq_getElem hkl⟩
      obtain ⟨xa, s⟩ := x
      have hf := h.fits _ (List.mem_of_getElem? hx)
      simp only at hf
      obtain ⟨a, rfl⟩ := Int.eq_ofNat_of_zero_le hf.1
      have hl : s.length = 64 := hf.2.2
      obtain ⟨qb, rfl⟩ : ∃ b, qa4 = some ⟨b, 0, none⟩ := by
        obtain ⟨_, ⟨e, h0⟩ | ⟨b, cap', cur, e, _⟩⟩ := hT.que
        · omega
        · simp at e; exact ⟨b, e.1⟩
      have hr : wr.rangeAt qb (k * 65) (wcells ((a : Int), s)) := fun j v hv => by
        have hj : j < 65 := by have := (List.getElem?_eq_some_iff.1 hv).1; rw [wcells_length _ hl] at this; exact this
        have hc := hT.que.cells (g := qb) rfl (65 * k + j) v (by rw [qcells_get (fun y hy => (h.fits y hy).2.2) hx hj]; exact hv)
        rw [Addr.add_mid, Nat.zero_add, Nat.mul_comm] at hc
        exact hc
      have a1 := hasN_of hr (n := 65) (wcells_length _ hl)
      have a2 := readN_of hr (n := 65) (wcells_length _ hl)
      have j1 : (0 : Int) ≤ (k : Int) := by omega
      have hn := new_write wr ((a : Int), s) hl
      have c2 : wr.cell? ⟨np, 2, none⟩ = some (.map (some mb)) := (cell_of_row _ _ _ _ _ _ hT.row).trans rfl
      have hk1 : k + 1 ≤ D.q.length := hkl
      have hlD : lastD (D.q.take (k + 1)) = (lastD (D.q.take k)).put (.int .i64 (a : Int)) (.lit (.int .i64 (k : Int))) := by
        rw [List.take_add_one, hx]
        show lastD (D.q.take k ++ [((a : Int), s)]) = _
        rw [lastD_snoc, List.length_take, Nat.min_eq_left (by omega)]
      have wf1 : (Lit.int .i64 (a : Int)).wf = true := WalkArith.wf_i64 (by have := h.len.2; omega)
      have wf2 : (Lit.int .i64 (k : Int)).wf = true := WalkArith.wf_i64 (by omega)
      have HX := Lib.hid (And.intro hT (And.intro hnr (And.intro hn (And.intro hk1 (And.intro hlD (And.intro wf1 (And.intro wf2 hq)))))))
      clear hT hnr hn hk1 hlD wf1 wf2 h hq hqq hx hf hr
      go_upto_region 9 with fail
      obtain ⟨hT, hnr, hn, hk1, hlD, wf1, wf2, hq⟩ := HX.out
      have hT1 := hT.b hn.2.1 hnr
      have hrg1 := hn.2.2.2
      have hsz1 := hn.2.1.size
      clear hn hT a1 a2 c2 HX
      generalize ((wr.alloc (.cells zw59 59)).setCells wr.heap.size 0 (wcells ((a : Int), s))) = W1 at *
      generalize wr.heap.size = nb at *
      have b0 : W1.cell? ⟨nb, 0, none⟩ = some (.int .i64 (a : Int)) := hrg1 0 _ rfl
      have c2 : W1.cell? ⟨np, 2, none⟩ = some (.map (some mb)) := (cell_of_row _ _ _ _ _ _ hT1.row).trans rfl
      have HX := Lib.hid (And.intro hT1 (And.intro hnr (And.intro hsz1 (And.intro hk1 (And.intro hlD (And.intro wf1 (And.intro wf2 hq)))))))
      clear hT1 hnr hsz1 hk1 hlD wf1 wf2 hq hrg1
      go_wp2_with (at_mapUpdate; (refine wpList_mapUpdate_own _ rfl _ _ _ 46 rfl 3 3 (int_keyed Try.underlying3) Try.underlying46 _ mb k (lastD (D.q.take k)) rfl HX.out.1.map (by have := HX.out.2.2.2.2.2.2.2; unfold maxLen; omega) _ _ (.int .i64 (a : Int)) rfl rfl (keyOf_int_mk Try.underlying3 HX.out.2.2.2.2.2.1) _ [] (plainElem_int Try.underlying3 HX.out.2.2.2.2.2.2.1) ?_); intro w9 hown9 hgrow9; have HO := Lib.hid (And.intro hown9 hgrow9); clear hown9 hgrow9)
      obtain ⟨hT1, hnr, hsz1, hk1, hlD, _⟩ := HX.out
      obtain ⟨hown9, hgrow9⟩ := HO.out
      have e9 : ∀ b, b < W1.heap.size → b ≠ mb → w9.heap[b]? = W1.heap[b]? := fun b hb hn => hgrow9.block b hb (by simpa using hn)
      have hsz9 := hgrow9.size
      refine ⟨⟨k + 1, hk1, by simp, ⟨?_, ?_, ?_, ?_, ?_, hT1.n1, hT1.n2, hT1.n3, hT1.n4⟩, by omega⟩, by simp [intOf]; omega⟩
      · rw [e9 np (lt_of_at hT1.row) (by have := hT1.n2; omega)]; exact hT1.row
      · exact hT1.sec.at (e9 g' (by obtain ⟨cs, h1, _⟩ := hT1.sec; exact lt_of_at h1) hT1.n3)
      · exact ownsRow_at hT1.que (fun b e => e9 b (ownBlock_lt hT1.que e) (hT1.n4 b e).2.2)
      · rw [hlD]; exact hown9
      · exact hT1.below.trans (grown_below hgrow9 (by omega) (fun b e => by have := Option.some.inj e; have := hT1.n2; omega))
    · obtain rfl : k = D.q.length := by omega
      have d1 : decide (D.q.length < D.q.length) = false := by simp
      have HX := Lib.hid (And.intro hT hnr)
      clear hT hnr
      go_wp2_with fail
      go_ret
      obtain ⟨hT, hnr⟩ := HX.out
      obtain ⟨h, hq, hqq⟩ := H.out
      obtain ⟨hc1, hc2, hg1, hg2, hq4, hnp, _⟩ := HF.out
      refine ⟨np, g', mb, _, c', rfl, ⟨hT.row, hT.sec, hT.que, ?_, by have := hT.n1; omega, by have := hT.n2; omega, hT.n3, fun e => by have := (hT.n4 _ e).1; omega, fun e => (hT.n4 _ e).2.1 rfl, fun e => (hT.n4 _ e).2.2 rfl, h.len, ⟨hc1, hc2⟩, h.fits⟩, ?_, by rw [← hnp]; exact hT.below⟩
      · have := hT.map
        rw [List.take_length] at this
        exact this
      · rintro b (rfl | rfl | rfl | e)
        · omega
        · have := hT.n1; omega
        · have := hT.n2; omega
        · have := (hT.n4 _ e).1; omega
end Go.Proofs.YtcbaflnmfiofeaaDk
