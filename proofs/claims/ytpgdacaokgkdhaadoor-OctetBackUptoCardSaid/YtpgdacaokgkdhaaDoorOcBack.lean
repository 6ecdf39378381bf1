/-
  OctetBack: the law's call answers true at every two numbers, string of at most 2^20 bytes and character. Condition: Go's two tables lie as laid; sizes as Go has them.
-/
import Derived.Test.YtpgdacaokgkdhaaDoorOcRunes
namespace Go.Proofs.YtpgdacaokgkdhaaDoorOc
open Go.RowKit Go.Proofs.YtpgdacaokgkdhaaDoorW.PrintWords Go.Proofs.YtpgdacaokgkdhaaDoorW.PrintMore Go.Proofs.YtpgdacaokgkdhaaDoor.PU

theorem get_putS (v n : Int) (h : (putS v n).2 = 0) : getS (putS v n).1 = (v, 0) ∧ ((putS v n).1.size : Int) = n := by
  unfold putS at *
  by_cases c : n < 1 ∨ n > 7 ∨ v < 0 ∨ v / 256 ^ n.toNat ≠ 0
  · rw [if_pos c] at h
    exact absurd h (by decide)
  · rw [if_neg c]
    obtain ⟨m, rfl⟩ := Int.eq_ofNat_of_zero_le (a := n) (by omega)
    rw [Int.toNat_natCast] at c
    have hz : v / 256 ^ m = 0 := Decidable.not_not.1 fun e => c (.inr (.inr (.inr e)))
    have hm := Int.emod_add_mul_ediv v (256 ^ m)
    rw [hz, Int.mul_zero, Int.add_zero] at hm
    simp only [Int.toNat_natCast]
    have hsz : (strOfNums (beL m v)).size = m := by rw [size_strOfNums, beL_length]
    refine ⟨?_, by rw [hsz]⟩
    unfold getS
    rw [if_neg (by omega), bys_strOfNums _ (beL_mem m v), valL_beL, hm]
    simp
theorem fits_wid (v : Int) (h1 : -9223372036854775808 ≤ v) (h2 : v ≤ 9223372036854775807) : fits (wid v) v := by
  unfold wid
  repeat' split
  all_goals first | assumption | (unfold fits; simp only [Nat.reduceSub, Int.reducePow]; omega)
theorem not_fits_wid (v : Int) (h : 1 < wid v) : ¬ fits (wid v - 1) v := by
  unfold wid at *
  repeat' split at h
  all_goals first | omega | skip
  all_goals simp [*]
theorem signed_putSigned (v : Int) (h1 : -9223372036854775808 ≤ v) (h2 : v ≤ 9223372036854775807) : signedS (putSignedS v) = (v, 0) := by
  obtain ⟨a, b⟩ := signed_beL v h1 h2 (wid v) (wid_range v).1 (wid_range v).2
  unfold putSignedS
  exact Prod.ext (a.2 (fits_wid v h1 h2)) b
theorem extract_strOfNums (x : Int) (l : List Int) : (strOfNums (x :: l)).extract 1 (strOfNums (x :: l)).size = strOfNums l := by
  obtain ⟨a, ha⟩ : ∃ a, strOfNums (x :: l) = a := ⟨_, rfl⟩
  have h := toList_extract a 1
  rw [← ha] at h
  have e : (strOfNums (x :: l)).data.toList.drop 1 = (strOfNums l).data.toList := by simp [strOfNums]
  rw [e] at h
  rw [ByteArray.ext_iff]
  exact Array.toList_inj.1 h
theorem signed_shorter (v : Int) (h1 : -9223372036854775808 ≤ v) (h2 : v ≤ 9223372036854775807) (h : 1 < (putSignedS v).size) :
    (signedS ((putSignedS v).extract 1 (putSignedS v).size)).1 ≠ v ∧ (signedS ((putSignedS v).extract 1 (putSignedS v).size)).2 = 0 := by
  unfold putSignedS at *
  have hw := wid_range v
  rw [size_strOfNums, beL_length] at h
  obtain ⟨m, hm⟩ : ∃ m, wid v = m + 1 := ⟨wid v - 1, by omega⟩
  have hn := not_fits_wid v h
  rw [hm] at hn h hw ⊢
  rw [beL, extract_strOfNums]
  obtain ⟨a, b⟩ := signed_beL v h1 h2 m (by omega) (by omega)
  exact ⟨fun e => hn (a.1 e), b⟩

set_option maxHeartbeats 2000000 in
set_option maxRecDepth 100000 in
theorem back_yes (v n e r x : Int) (b s t p hx : ByteArray) (w : World) (hT : Tabs w)
    (k1 : Hid (∀ W, Calls Tryd.prog 13 #[.int .i64 v, .int .i64 n] W fun e' w' => e' = .returned (.tuple #[.string s, .int .i64 e]) ∧ Below W.heap.size W w'))
    (kS : Hid (∀ W, Calls Tryd.prog 19 #[.int .i64 v] W fun e' w' => e' = .returned (.string t) ∧ Below W.heap.size W w'))
    (kT : Hid (∀ W, Calls Tryd.prog 17 #[.string t] W fun e' w' => e' = .returned (.tuple #[.int .i64 v, .int .i64 0]) ∧ Below W.heap.size W w'))
    (kH : Hid (∀ W, Calls Tryd.prog 23 #[.string b] W fun e' w' => e' = .returned (.string hx) ∧ Below W.heap.size W w'))
    (kU : Hid (∀ W, Calls Tryd.prog 21 #[.string hx] W fun e' w' => e' = .returned (.tuple #[.string b, .int .i64 0]) ∧ Below W.heap.size W w'))
    (hA : ((e == 0) = true ∧ ((((s.size : Nat) : Int) != n) = false) ∧ Hid (∀ W, Calls Tryd.prog 15 #[.string s] W fun e' w' => e' = .returned (.tuple #[.int .i64 v, .int .i64 0]) ∧ Below W.heap.size W w')) ∨ (e == 0) = false)
    (hB : (decide ((1 : Int) < (t.size : Int)) = true ∧ 1 < t.size ∧ (x == v) = false ∧ Hid (∀ W, Calls Tryd.prog 17 #[.string (t.extract 1 t.size)] W fun e' w' => e' = .returned (.tuple #[.int .i64 x, .int .i64 0]) ∧ Below W.heap.size W w')) ∨ decide ((1 : Int) < (t.size : Int)) = false)
    (hC : (Hid (∀ W, Calls Tryd.prog 30 #[.int .i32 r] W fun e' w' => e' = .returned (.tuple #[.string p, .int .i64 0]) ∧ Below W.heap.size W w') ∧
        Hid (∀ W, Tabs W → Calls Tryd.prog 27 #[.string p, .int .i64 0] W fun e' w' => e' = .returned (.tuple #[.int .i32 r, .int .i64 (p.size : Int)]) ∧ Below W.heap.size W w') ∧
        Hid (∀ W, Tabs W → Calls Tryd.prog 28 #[.string p] W fun e' w' => e' = .returned (.bool true) ∧ Below W.heap.size W w')) ∨
      (Hid (∀ W, Calls Tryd.prog 30 #[.int .i32 r] W fun e' w' => e' = .returned (.tuple #[.string ⟨#[]⟩, .int .i64 10]) ∧ Below W.heap.size W w') ∧
        (decide (r < 0) = true ∨ (decide (r < 0) = false ∧ decide (1114111 < r) = true) ∨ (decide (r < 0) = false ∧ decide (1114111 < r) = false ∧ decide (55296 ≤ r) = true ∧ decide (r ≤ 57343) = true)))) :
    Calls Tryd.prog 9 #[.int .i64 v, .int .i64 n, .string b, .int .i32 r] w fun e w' => e = .returned (.bool true) ∧ Below w.heap.size w w' := by
  have HT := Lib.hid hT
  clear hT
  rcases hA with ⟨a1, a2, kG⟩ | a1 <;> rcases hB with ⟨b1, b3, b2, kX⟩ | b1 <;> rcases hC with ⟨kP, kR, kV⟩ | ⟨kP, c1 | ⟨c1, c2⟩ | ⟨c1, c2, c3, c4⟩⟩
  all_goals
    have hb0 := Below.refl w.heap.size w
    go_enter Tryd.func9, Tryd.ntmps9
    go_wp2_with (first
      | (go_at_call 13; with_reducible (refine (k1.out _).mono ?_); rintro e w1 ⟨rfl, hb1⟩; replace hb0 := bstep hb0 hb1; clear hb1)
      | (go_at_call 15; with_reducible (refine (kG.out _).mono ?_); rintro e w1 ⟨rfl, hb1⟩; replace hb0 := bstep hb0 hb1; clear hb1)
      | (go_at_call 19; with_reducible (refine (kS.out _).mono ?_); rintro e w1 ⟨rfl, hb1⟩; replace hb0 := bstep hb0 hb1; clear hb1)
      | (go_at_call 17; with_reducible (refine (kT.out _).mono ?_); rintro e w1 ⟨rfl, hb1⟩; replace hb0 := bstep hb0 hb1; clear hb1)
      | (go_at_call 17; with_reducible (refine (kX.out _).mono ?_); rintro e w1 ⟨rfl, hb1⟩; replace hb0 := bstep hb0 hb1; clear hb1)
      | (go_at_call 23; with_reducible (refine (kH.out _).mono ?_); rintro e w1 ⟨rfl, hb1⟩; replace hb0 := bstep hb0 hb1; clear hb1)
      | (go_at_call 21; with_reducible (refine (kU.out _).mono ?_); rintro e w1 ⟨rfl, hb1⟩; replace hb0 := bstep hb0 hb1; clear hb1)
      | (go_at_call 30; with_reducible (refine (kP.out _).mono ?_); rintro e w1 ⟨rfl, hb1⟩; replace hb0 := bstep hb0 hb1; clear hb1)
      | (go_at_call 27; with_reducible (refine (kR.out _ (Tabs.below HT.out hb0 (Nat.le_refl _))).mono ?_); rintro e w1 ⟨rfl, hb1⟩; replace hb0 := bstep hb0 hb1; clear hb1)
      | (go_at_call 28; with_reducible (refine (kV.out _ (Tabs.below HT.out hb0 (Nat.le_refl _))).mono ?_); rintro e w1 ⟨rfl, hb1⟩; replace hb0 := bstep hb0 hb1; clear hb1)
      | (go_at_call 10; refine (c_alive _ (Tabs.below HT.out hb0 (Nat.le_refl _))).mono ?_; rintro e w1 ⟨rfl, hb1⟩; replace hb0 := bstep hb0 hb1; clear hb1))
    go_ret
    exact ⟨by first | rfl | simp, hb0⟩
theorem walk_OctetBack (v n : Int) (b : ByteArray) (r : Int) (hv : -9223372036854775808 ≤ v ∧ v ≤ 9223372036854775807) (_hn : -9223372036854775808 ≤ n ∧ n ≤ 9223372036854775807) (hb : b.size ≤ 1048576)
    (_hr : -2147483648 ≤ r ∧ r ≤ 2147483647) (w : World) (hT : Tabs w) :
    Calls Tryd.prog 9 #[.int .i64 v, .int .i64 n, .string b, .int .i32 r] w fun e w' => e = .returned (.bool true) ∧ Below w.heap.size w w' := by
  have hsz : (hexS b).size = 2 * b.size := by unfold hexS; rw [size_strOfNums, hexL_length, bys_length]
  have cG : ∀ (s : ByteArray) (W : World), Calls Tryd.prog 15 #[.string s] W fun e' w' => e' = .returned (.tuple #[.int .i64 (getS s).1, .int .i64 (getS s).2]) ∧ Below W.heap.size W w' :=
    fun s W => (octet_Get.calls 10 s _ _ W (get_eq s 10 (by omega))).mono fun _ _ ⟨he, hd⟩ => ⟨he, hd.below⟩
  have cS : ∀ (s : ByteArray) (W : World), Calls Tryd.prog 17 #[.string s] W fun e' w' => e' = .returned (.tuple #[.int .i64 (signedS s).1, .int .i64 (signedS s).2]) ∧ Below W.heap.size W w' :=
    fun s W => (octet_Signed.calls 11 s _ _ W (signed_eq s 11 (by omega))).mono fun _ _ ⟨he, hd⟩ => ⟨he, hd.below⟩
  refine back_yes v n (putS v n).2 r (signedS ((putSignedS v).extract 1 (putSignedS v).size)).1 b (putS v n).1 (putSignedS v) (Utf8.encode r) (hexS b) w hT (Lib.hid fun W => c_Put v n W)
    (Lib.hid fun W => octet_PutSigned.calls 25 v _ W (putSigned_eq v hv.1 hv.2 25 (by omega))) (Lib.hid fun W => ?_) (Lib.hid fun W => c_Hex b (by omega) W) (Lib.hid fun W => ?_) ?_ ?_ ?_
  · have := cS (putSignedS v) W
    rw [signed_putSigned v hv.1 hv.2] at this
    exact this
  · have := octet_Unhex.calls ((hexS b).size + 3) (hexS b) b 0 W (by rw [unhex_eq _ (by omega), unhexS_hexS])
    exact this
  · by_cases h : (putS v n).2 = 0
    · obtain ⟨g1, g2⟩ := get_putS v n h
      refine .inl ⟨by rw [h]; rfl, by rw [g2]; simp, Lib.hid fun W => ?_⟩
      have := cG (putS v n).1 W
      rw [g1] at this
      exact this
    · exact .inr (by simpa using h)
  · by_cases h : 1 < (putSignedS v).size
    · obtain ⟨g1, g2⟩ := signed_shorter v hv.1 hv.2 h
      refine .inl ⟨decide_eq_true (by omega), h, by simpa using g1, Lib.hid fun W => ?_⟩
      · have := cS ((putSignedS v).extract 1 (putSignedS v).size) W
        rw [g2] at this
        exact this
    · exact .inr (decide_eq_false (by omega))
  · by_cases h : Utf8.valid r = true
    · refine .inl ⟨Lib.hid fun W => ?_, Lib.hid fun W hT' => ?_, Lib.hid fun W hT' => ?_⟩
      · have := c_PutRune r W
        unfold putRuneS at this
        rw [if_pos h] at this
        exact this
      · have := c_Rune (Utf8.encode r) 0 (by omega) (by omega) W hT'
        rw [runeS_encode r h] at this
        exact this
      · have hz : (Utf8.encode r).size ≤ 9223372036854775807 := by
          have := width_range (Utf8.encode r) 0 (encode_size_pos r h)
          rw [(decode_encode r h).1] at this
          simp only at this
          omega
        have := c_Text (Utf8.encode r) hz W hT'
        rw [validS_encode r h] at this
        exact this
    · refine .inr ⟨Lib.hid fun W => ?_, ?_⟩
      · have := c_PutRune r W
        unfold putRuneS at this
        rw [if_neg h] at this
        exact this
      · have hi : r < 0 ∨ r > 1114111 ∨ (r ≥ 55296 ∧ r ≤ 57343) := Decidable.not_not.1 fun e => h ((valid_iff r).2 e)
        by_cases q1 : r < 0
        · exact .inl (decide_eq_true q1)
        by_cases q2 : 1114111 < r
        · exact .inr (.inl ⟨decide_eq_false q1, decide_eq_true q2⟩)
        · exact .inr (.inr ⟨decide_eq_false q1, decide_eq_false q2, decide_eq_true (by omega), decide_eq_true (by omega)⟩)
end Go.Proofs.YtpgdacaokgkdhaaDoorOc
