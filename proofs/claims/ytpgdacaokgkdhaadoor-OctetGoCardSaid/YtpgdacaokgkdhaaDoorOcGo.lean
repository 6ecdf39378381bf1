/-
  OctetGo: the law's call answers true at every string. Condition: Go's two tables lie as laid; sizes as Go has them.
-/
import Derived.Test.YtpgdacaokgkdhaaDoorOcRunes
import Derived.Lib.OthersKept
namespace Go.Proofs.YtpgdacaokgkdhaaDoorOc
open Go.RowKit Go.Proofs.YtpgdacaokgkdhaaDoorW.PrintWords Go.Proofs.YtpgdacaokgkdhaaDoorW.PrintMore Go.Proofs.YtpgdacaokgkdhaaDoor.PU Go.Lib

theorem validGoD_fuel : ∀ (m n : Nat) (l : List UInt8), l.length ≤ m → l.length ≤ n → validGoD m l = validGoD n l := by
  intro m
  induction m with
  | zero =>
    intro n l h1 h2
    obtain rfl : l = [] := List.eq_nil_of_length_eq_zero (by omega)
    cases n with
    | zero => rfl
    | succ n => rw [validGoD, validGoD, if_pos rfl]
  | succ m ih =>
    intro n l h1 h2
    by_cases hl : l = []
    · subst hl
      cases n with
      | zero => rfl
      | succ n => rw [validGoD, validGoD, if_pos rfl, if_pos rfl]
    · cases n with
      | zero => exact absurd (List.eq_nil_of_length_eq_zero (by omega)) hl
      | succ n =>
        rw [validGoD, validGoD, if_neg hl, if_neg hl]
        have hw := decodeL_width l
        have hlen : (l.drop (decodeL l).2).length ≤ m ∧ (l.drop (decodeL l).2).length ≤ n := by rw [List.length_drop]; omega
        rw [ih n _ hlen.1 hlen.2]
/-- from place p on all is well-formed -/
def restOk (s : ByteArray) (p : Nat) : Bool := validGoD s.size (s.data.toList.drop p)
theorem restOk_zero (s : ByteArray) : restOk s 0 = validS s := by unfold restOk validS validD; rw [szL, List.drop_zero]
theorem restOk_end (s : ByteArray) : restOk s s.size = true := by
  unfold restOk
  rw [List.drop_eq_nil_of_le (by rw [szL]; exact Nat.le_refl _)]
  cases s.size with
  | zero => rfl
  | succ n => rw [validGoD, if_pos rfl]
theorem restOk_step (s : ByteArray) (p r n : Nat) (hp : p < s.size) (hd : Utf8.decode s p = (r, n)) : restOk s p = if r = 65533 ∧ n = 1 then false else restOk s (p + n) := by
  have hw := width_range s p hp
  rw [hd] at hw
  unfold restOk
  obtain ⟨m, hm⟩ : ∃ m, s.size = m + 1 := ⟨s.size - 1, by omega⟩
  have hne : s.data.toList.drop p ≠ [] := by
    intro e
    have := congrArg List.length e
    rw [List.length_drop, szL, List.length_nil] at this
    omega
  rw [hm, validGoD, if_neg hne, decodeL_drop, hd, List.drop_drop]
  simp only
  rw [validGoD_fuel m (m + 1) _ (by rw [List.length_drop, szL]; omega) (by rw [List.length_drop, szL]; omega)]

/-- what holds at a round's head -/
def GoRel (s : ByteArray) (w : World) (K : Nat) (a t : Value) (wr : World) : Prop :=
  ∃ (p : Nat) (q : Bool), p ≤ s.size ∧ a = .int .i64 p ∧ t = .bool q ∧ validS s = (q && restOk s p) ∧ wr.heap[K]? = some (.stringIter s p) ∧ Below w.heap.size w wr
set_option maxHeartbeats 1000000 in
set_option maxRecDepth 100000 in
theorem go_yes (s : ByteArray) (t : Bool) (w : World) (hT : Tabs w) (hs : s.size ≤ 5000) (ht : validS s = t)
    (k1 : Hid (∀ (p r n : Nat) W, p < s.size → Utf8.decode s p = (r, n) → Tabs W → Calls Tryd.prog 27 #[.string s, .int .i64 p] W fun e' w' => e' = .returned (.tuple #[.int .i32 r, .int .i64 n]) ∧ Below W.heap.size W w'))
    (k5 : Hid (∀ W, Tabs W → Calls Tryd.prog 28 #[.string s] W fun e' w' => e' = .returned (.bool t) ∧ Below W.heap.size W w')) :
    Calls Tryd.prog 7 #[.string s] w fun e w' => e = .returned (.bool true) ∧ Below w.heap.size w w' := by
  have HT := Lib.hid hT
  clear hT
  have HE := Lib.hid ht
  clear ht
  have d1 : decide ((5000 : Int) < (s.size : Int)) = false := by simp; omega
  go_enter Tryd.func7, Tryd.ntmps7
  go_wp2_with fail
  go_loopw [3, 4] (fun a t' wr => GoRel s w w.heap.size a t' wr) (fun a _ _ => s.size - (RowKit.intOf a).toNat)
  case atStart => exact ⟨0, true, by omega, rfl, rfl, by rw [restOk_zero]; simp, World.iter_heap w s 0, (Below.refl _ _).alloc (Nat.le_refl _) _⟩
  case round =>
    obtain ⟨p, q, hp, rfl, rfl, hv, hK, hbr⟩ := hrel
    have HV := Lib.hid hv
    clear hv
    by_cases hlt : p < s.size
    · obtain ⟨⟨r, n⟩, hd⟩ : ∃ x, Utf8.decode s p = x := ⟨_, rfl⟩
      have hn := run_next_any_at (P := Tryd.prog) wr w.heap.size s p 0 hK hlt
      rw [hd] at hn
      simp only at hn
      have hw := width_range s p hlt
      rw [hd] at hw
      simp only at hw
      have hst := restOk_step s p r n hlt hd
      have HS := Lib.hid hst
      have HD := Lib.hid hd
      have HK := Lib.hid hK
      have d2 : decide ((n : Int) < 1) = false := by simp; omega
      have hbi := below_iterAt hbr (Nat.le_refl _) s (p + n)
      have hsz := iterAt_size wr w.heap.size s (p + n)
      have HI := Lib.hid (iterAt_heap wr w.heap.size s p (p + n) hK)
      have HZ := Lib.hid hsz
      clear hst hd hK hsz
      by_cases h1 : n = 1
      · have d3 : ((n : Int) == 1) = true := by simp; omega
        by_cases h2 : r = 65533
        · have d4 : ((r : Int) == 65533) = true := by simp; omega
          have hbad : r = 65533 ∧ n = 1 := ⟨h2, h1⟩
          have HB := Lib.hid hbad
          clear h1 h2 hbad
          go_wp2_with (go_at_call 27; with_reducible (refine (k1.out _ _ _ _ hlt HD.out (Tabs.below HT.out hbi (Nat.le_refl _))).mono ?_); rintro e w1 ⟨rfl, hb1⟩)
          go_roundw
          case rel => exact ⟨p + n, false, by omega, by go_num, rfl, by have := HS.out; rw [if_pos HB.out] at this; rw [HV.out, this]; simp, by rw [hb1.block _ (by have := (Array.getElem?_eq_some_iff.1 HI.out).1; exact this)]; exact HI.out, bstep hbi hb1⟩
          case measure => simp [RowKit.intOf]; omega
        · have d4 : ((r : Int) == 65533) = false := by simp; omega
          have hbad : ¬ (r = 65533 ∧ n = 1) := fun h => h2 h.1
          have HB := Lib.hid hbad
          clear h1 h2 hbad
          go_wp2_with (go_at_call 27; with_reducible (refine (k1.out _ _ _ _ hlt HD.out (Tabs.below HT.out hbi (Nat.le_refl _))).mono ?_); rintro e w1 ⟨rfl, hb1⟩)
          go_roundw
          case rel => exact ⟨p + n, q, by omega, by go_num, rfl, by have := HS.out; rw [if_neg HB.out] at this; rw [HV.out, this], by rw [hb1.block _ (by have := (Array.getElem?_eq_some_iff.1 HI.out).1; exact this)]; exact HI.out, bstep hbi hb1⟩
          case measure => simp [RowKit.intOf]; omega
      · have d3 : ((n : Int) == 1) = false := by simp; omega
        have hbad : ¬ (r = 65533 ∧ n = 1) := fun h => h1 h.2
        have HB := Lib.hid hbad
        clear h1 hbad
        go_wp2_with (go_at_call 27; with_reducible (refine (k1.out _ _ _ _ hlt HD.out (Tabs.below HT.out hbi (Nat.le_refl _))).mono ?_); rintro e w1 ⟨rfl, hb1⟩)
        go_roundw
        case rel => exact ⟨p + n, q, by omega, by go_num, rfl, by have := HS.out; rw [if_neg HB.out] at this; rw [HV.out, this], by rw [hb1.block _ (by have := (Array.getElem?_eq_some_iff.1 HI.out).1; exact this)]; exact HI.out, bstep hbi hb1⟩
        case measure => simp [RowKit.intOf]; omega
    · have hn := run_next_end_at (P := Tryd.prog) wr w.heap.size s p 0 hK hlt
      obtain rfl : p = s.size := by omega
      have hq := HV.out
      rw [restOk_end, HE.out, Bool.and_true] at hq
      subst hq
      clear HV hK HE
      go_wp2_with (first
        | (go_at_call 10; refine (c_alive _ (Tabs.below HT.out hbr (Nat.le_refl _))).mono ?_; rintro e w5 ⟨rfl, hb5⟩; replace hb5 := bstep hbr hb5; clear hbr)
        | (go_at_call 28; with_reducible (refine (k5.out _ (Tabs.below HT.out hb5 (Nat.le_refl _))).mono ?_); rintro e w6 ⟨rfl, hb6⟩; replace hb6 := bstep hb5 hb6; clear hb5))
      go_ret
      exact ⟨by simp, hb6⟩
theorem walk_OctetGo (s : ByteArray) (_hb : s.size ≤ 140737488351232) (w : World) (hT : Tabs w) :
    Calls Tryd.prog 7 #[.string s] w fun e w' => e = .returned (.bool true) ∧ Below w.heap.size w w' := by
  by_cases h1 : (5000 : Int) < (s.size : Int)
  · have d1 := decide_eq_true h1
    go_enter Tryd.func7, Tryd.ntmps7
    go_wp2_with (go_at_call 10; refine (c_alive _ hT).mono ?_; rintro e w' ⟨rfl, hb⟩)
    go_ret
    exact ⟨rfl, hb⟩
  refine go_yes s (validS s) w hT (by omega) rfl (Lib.hid fun p r n W hp hd hT' => ?_) (Lib.hid fun W hT' => c_Text s (by omega) W hT')
  have := c_Rune s p (by omega) (by omega) W hT'
  rw [runeS_at s p hp, hd] at this
  exact this
end Go.Proofs.YtpgdacaokgkdhaaDoorOc
