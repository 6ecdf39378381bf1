/-
  secret: Check comes to the document's answer; the laws' first call 'alive'. Condition: Go's own sizes.
-/
import Derived.Test.YtgbpfoegimgcjaaSecE
namespace Go.Proofs.YtgbpfoegimgcjaaOc
open Go.Proofs.YtgbpfoegimgcjaaCls Go.RowKit Go.Proofs.YtgbpfoegimgcjaaW.PrintWords Go.Proofs.YtgbpfoegimgcjaaW.PrintMore Go.Proofs.Ytgbpfoegimgcjaa.PU
set_option linter.unusedVariables false
set_option linter.unusedSimpArgs false

theorem list4 (l : List Int) (h : l.length = 4) : ∃ a b c d, l = [a, b, c, d] := by
  obtain ⟨a, l, rfl⟩ : ∃ a l', l = a :: l' := by cases l with | nil => simp at h | cons a l => exact ⟨_, _, rfl⟩
  obtain ⟨b, l, rfl⟩ : ∃ a l', l = a :: l' := by cases l with | nil => simp at h | cons a l => exact ⟨_, _, rfl⟩
  obtain ⟨c, l, rfl⟩ : ∃ a l', l = a :: l' := by cases l with | nil => simp at h | cons a l => exact ⟨_, _, rfl⟩
  obtain ⟨d, l, rfl⟩ : ∃ a l', l = a :: l' := by cases l with | nil => simp at h | cons a l => exact ⟨_, _, rfl⟩
  obtain rfl : l = [] := by cases l with | nil => rfl | cons a l => simp at h
  exact ⟨a, b, c, d, rfl⟩
theorem beL_valL4 (l : List Int) (h : l.length = 4) (hm : ∀ x ∈ l, 0 ≤ x ∧ x < 256) : beL 4 (valL 0 l) = l ∧ 0 ≤ valL 0 l ∧ valL 0 l < 4294967296 := by
  obtain ⟨a, b, c, d, rfl⟩ := list4 l h
  have ha := hm a (by simp)
  have hb := hm b (by simp)
  have hc := hm c (by simp)
  have hd := hm d (by simp)
  have e : valL 0 [a, b, c, d] = ((a * 256 + b) * 256 + c) * 256 + d := by simp only [valL, List.foldl]; omega
  rw [e]
  refine ⟨?_, by omega, by omega⟩
  simp only [beL]
  have e3 : (256 : Int) ^ 3 = 16777216 := rfl
  have e2 : (256 : Int) ^ 2 = 65536 := rfl
  have e1 : (256 : Int) ^ 1 = 256 := rfl
  have e0 : (256 : Int) ^ 0 = 1 := rfl
  rw [e3, e2, e1, e0]
  rw [show (((a * 256 + b) * 256 + c) * 256 + d) / 16777216 % 256 = a by omega, show (((a * 256 + b) * 256 + c) * 256 + d) / 65536 % 256 = b by omega, show (((a * 256 + b) * 256 + c) * 256 + d) / 256 % 256 = c by omega,
    show (((a * 256 + b) * 256 + c) * 256 + d) / 1 % 256 = d by omega]
theorem b4_val (S : ByteArray) (hS : S.size = 4) : b4 (valL 0 (bys S)) = S ∧ 0 ≤ valL 0 (bys S) ∧ valL 0 (bys S) < 4294967296 := by
  obtain ⟨h1, h2⟩ := beL_valL4 (bys S) (by rw [bys_length, hS]) (bys_mem S)
  exact ⟨by rw [b4, h1, strOfNums_bys], h2⟩
theorem val_b4 (v : Int) (h0 : 0 ≤ v) (h1 : v < 4294967296) : valL 0 (bys (b4 v)) = v := by
  rw [b4, bys_strOfNums _ (beL_mem 4 v), valL_beL]
  have e : (256 : Int) ^ 4 = 4294967296 := rfl
  rw [e]
  omega
theorem b4_inj (a b : Int) (ha : 0 ≤ a ∧ a < 4294967296) (hb : 0 ≤ b ∧ b < 4294967296) (h : b4 a = b4 b) : a = b := by
  rw [← val_b4 a ha.1 ha.2, h, val_b4 b hb.1 hb.2]
theorem b4_vk (R : ByteArray) (hR : R.size = 16) (k : Nat) (hk : k < 4) : b4 (vk R k) = R.extract (4 * k) (4 * k + 4) := (b4_val _ (by simp; omega)).1
theorem hexS_inj {a b : ByteArray} (h : hexS a = hexS b) : a = b := by
  have := congrArg unhexS h
  rw [unhexS_hexS, unhexS_hexS] at this
  exact (Prod.mk.inj this).1
theorem pieces (R : ByteArray) (hR : R.size = 16) : R = R.extract 0 4 ++ R.extract 4 8 ++ R.extract 8 12 ++ R.extract 12 16 := by
  have hl : (bys R).length = 16 := by rw [bys_length, hR]
  apply bys_inj
  rw [bys_append, bys_append, bys_append, bys_extract, bys_extract, bys_extract, bys_extract]
  have t1 := List.take_append_drop 4 (bys R)
  have t2 := List.take_append_drop 4 ((bys R).drop 4)
  have t3 := List.take_append_drop 4 ((bys R).drop 8)
  rw [List.drop_drop] at t2 t3
  have t4 : ((bys R).drop 12).take (16 - 12) = (bys R).drop 12 := List.take_of_length_le (by rw [List.length_drop, hl]; exact Nat.le_refl _)
  rw [t4]
  simp only [List.drop_zero, Nat.sub_zero, Nat.reduceSub, List.append_assoc]
  rw [show (8 : Nat) + 4 = 12 from rfl] at t3
  rw [show (4 : Nat) + 4 = 8 from rfl] at t2
  rw [t3, t2, t1]
theorem vk_allSums (b p : ByteArray) : vk (allSums b p 4) 0 = xk b p 0 ∧ vk (allSums b p 4) 1 = xk b p 1 ∧ vk (allSums b p 4) 2 = xk b p 2 ∧ vk (allSums b p 4) 3 = xk b p 3 := by
  have hb : bys (allSums b p 4) = bys (b4 (xk b p 0)) ++ (bys (b4 (xk b p 1)) ++ (bys (b4 (xk b p 2)) ++ bys (b4 (xk b p 3)))) := by
    simp only [allSums, bys_append, List.append_assoc]
    rfl
  have l : ∀ v, (bys (b4 v)).length = 4 := fun v => by rw [bys_length, b4_size]
  have ex : ∀ (x y z t : List Int), x.length = 4 → y.length = 4 → z.length = 4 → t.length = 4 → (((x ++ (y ++ (z ++ t))).drop 0).take 4 = x ∧ ((x ++ (y ++ (z ++ t))).drop 4).take 4 = y ∧ ((x ++ (y ++ (z ++ t))).drop 8).take 4 = z ∧ ((x ++ (y ++ (z ++ t))).drop 12).take 4 = t) := by
    intro x y z t hx hy hz ht
    obtain ⟨x1, x2, x3, x4, rfl⟩ := list4 x hx
    obtain ⟨y1, y2, y3, y4, rfl⟩ := list4 y hy
    obtain ⟨z1, z2, z3, z4, rfl⟩ := list4 z hz
    obtain ⟨t1, t2, t3, t4, rfl⟩ := list4 t ht
    exact ⟨rfl, rfl, rfl, rfl⟩
  obtain ⟨e0, e1, e2, e3⟩ := ex _ _ _ _ (l (xk b p 0)) (l (xk b p 1)) (l (xk b p 2)) (l (xk b p 3))
  have r := fun k => xk_range b p k
  refine ⟨?_, ?_, ?_, ?_⟩
  · show valL 0 (bys ((allSums b p 4).extract 0 4)) = _
    rw [bys_extract, hb, e0, val_b4 _ (r 0).1 (r 0).2]
  · show valL 0 (bys ((allSums b p 4).extract 4 8)) = _
    rw [bys_extract, hb, e1, val_b4 _ (r 1).1 (r 1).2]
  · show valL 0 (bys ((allSums b p 4).extract 8 12)) = _
    rw [bys_extract, hb, e2, val_b4 _ (r 2).1 (r 2).2]
  · show valL 0 (bys ((allSums b p 4).extract 12 16)) = _
    rw [bys_extract, hb, e3, val_b4 _ (r 3).1 (r 3).2]
theorem sums_iff (S R p : ByteArray) (hS : S.size = 4) (hR : R.size = 16) : secPart S p 4 = hidden S R ↔ xk S p 0 = vk R 0 ∧ xk S p 1 = vk R 1 ∧ xk S p 2 = vk R 2 ∧ xk S p 3 = vk R 3 := by
  rw [secPart_eq]
  show hidden S (allSums S p 4) = hidden S R ↔ _
  constructor
  · intro h
    have hz : (allSums S p 4).size = 16 := allSums_size S p 4
    have h2 := hidden_12 hS hz
    rw [h, hidden_12 hS hR] at h2
    have := hexS_inj h2
    rw [this]
    obtain ⟨a, b, c, d⟩ := vk_allSums S p
    exact ⟨a.symm, b.symm, c.symm, d.symm⟩
  · rintro ⟨a, b, c, d⟩
    have : allSums S p 4 = R := by
      refine Eq.trans ?_ (pieces R hR).symm
      show (((⟨#[]⟩ : ByteArray) ++ b4 (xk S p 0)) ++ b4 (xk S p 1)) ++ b4 (xk S p 2) ++ b4 (xk S p 3) = _
      rw [a, b, c, d, b4_vk R hR 0 (by omega), b4_vk R hR 1 (by omega), b4_vk R hR 2 (by omega), b4_vk R hR 3 (by omega)]
      apply bys_inj
      simp only [bys_append]
      rfl
    rw [this]
theorem check_same (s p : ByteArray) (hs : s.size ≤ 4611686018427387904) (hp : p.size ≤ 4611686018427387904) : ∃ r : Bool, (∀ w, Calls Try.prog 10 #[.string s, .string p] w fun e w' => e = .returned (.bool r) ∧ Below w.heap.size w w') ∧ chanceryref17_Check.f 5000 s p = some r := by
  obtain ⟨h, hh, hi⟩ := rhidden_eq s 5000 (by omega)
  unfold chanceryref17_Check.f
  rw [hh, Option.bind_some]
  by_cases hy : isHid s
  · obtain rfl := hi.2 hy
    rw [if_pos rfl]
    obtain ⟨S, R, hS, hR, rfl⟩ := hy
    have h1 : (hidden S R).size = 44 := by rw [hidden_size]; omega
    obtain ⟨v1, v2, v3⟩ := b4_val S hS
    have hg : getS S = (valL 0 (bys S), 0) := by unfold getS; rw [if_neg (by omega)]
    have hu := runhex_k (hexS S) (by rw [hexS_size]; omega) 5000 (by rw [hexS_size]; omega)
    rw [unhexS_hexS] at hu
    rw [if_pos (by omega), if_pos (by omega), hidden_3 hS, hu, Option.bind_some, rget_eq S 5000 (by omega), Option.bind_some, hg, rhide_eq _ (by show valL 0 (bys S) ≤ _; omega) p 5000 (by omega), Option.bind_some]
    unfold hideS
    rw [if_neg (c := ¬ (0 ≤ valL 0 (bys S) ∧ valL 0 (bys S) < 4294967296)) (fun hn => hn ⟨v2, v3⟩)]
    by_cases h2 : 1024 < p.size
    · rw [if_pos h2]
      exact ⟨false, fun w => check_long S R p hS hR h2 w, rfl⟩
    · rw [if_neg h2]
      refine ⟨(secPart S p 4).toList == (hidden S R).toList, fun w => check_yes S R p hS hR (by omega) _ ?_ w, ?_⟩
      · rw [← sums_iff S R p hS hR]
        exact ⟨fun h => eq_of_toList (by simpa using h), fun h => by rw [h]; simp⟩
      · rw [if_pos rfl]
        show some ((secPart (b4 (valL 0 (bys S))) p 4).toList == _) = _
        rw [v1]
  · have : h = false := by cases h with | false => rfl | true => exact absurd (hi.1 rfl) hy
    subst this
    exact ⟨s.toList == p.toList, fun w => check_no s p hs hy _ rfl w, rfl⟩
theorem hidden_same (s : ByteArray) (hs : s.size ≤ 4611686018427387904) : ∃ r : Bool, (∀ w, Calls Try.prog 8 #[.string s] w fun e w' => e = .returned (.bool r) ∧ Below w.heap.size w w') ∧ chanceryref17_Hidden.f 5000 s = some r := by
  obtain ⟨h, hh, hi⟩ := rhidden_eq s 5000 (by omega)
  exact ⟨h, fun w => c_Hidden s hs h hi w, hh⟩
theorem hide_isHid (a : Int) (p : ByteArray) : isHid (secPart (b4 a) p 4) := ⟨b4 a, allSums (b4 a) p 4, b4_size a, allSums_size _ _ 4, secPart_eq _ _ _⟩
/-- what was hidden is found again -/
theorem check_hide (a : Int) (p : ByteArray) (hp : p.size ≤ 1024) (w : World) : Calls Try.prog 10 #[.string (secPart (b4 a) p 4), .string p] w fun e w' => e = .returned (.bool true) ∧ Below w.heap.size w w' := by
  have e : secPart (b4 a) p 4 = hidden (b4 a) (allSums (b4 a) p 4) := secPart_eq _ _ _
  rw [e]
  refine check_yes (b4 a) (allSums (b4 a) p 4) p (b4_size a) (allSums_size _ _ 4) hp true ?_ w
  simp only [true_iff]
  exact (sums_iff _ _ _ (b4_size a) (allSums_size _ _ 4)).1 e
theorem hidden_hide (a : Int) (p : ByteArray) (w : World) : Calls Try.prog 8 #[.string (secPart (b4 a) p 4)] w fun e w' => e = .returned (.bool true) ∧ Below w.heap.size w w' :=
  c_Hidden _ (by rw [secPart_size, b4_size]; omega) true (by simp only [true_iff]; exact hide_isHid a p) w
theorem nothid_b : ¬ isHid (⟨#[98]⟩ : ByteArray) := by
  rintro ⟨S, R, hS, hR, h⟩
  have := congrArg ByteArray.size h
  rw [hidden_size] at this
  have e : (⟨#[98]⟩ : ByteArray).size = 1 := rfl
  omega
set_option maxRecDepth 100000 in
set_option maxHeartbeats 1000000 in
theorem c_alive (w : World) : Calls Try.prog 5 #[] w fun e w' => e = .returned (.bool true) ∧ Below w.heap.size w w' := by
  have k1 : Hid (∀ W, Calls Try.prog 6 #[.int .i64 1, .string ⟨#[97]⟩] W fun e w' => e = .returned (.tuple #[.string (secPart (b4 1) ⟨#[97]⟩ 4), .int .i64 0]) ∧ Below W.heap.size W w') := Lib.hid fun W => by
    have := c_Hide 1 ⟨#[97]⟩ (by decide) W
    unfold hideS at this
    rw [if_neg (by decide), if_neg (by decide)] at this
    exact this
  have k2 : Hid (∀ W, Calls Try.prog 10 #[.string (secPart (b4 1) ⟨#[97]⟩ 4), .string ⟨#[97]⟩] W fun e w' => e = .returned (.bool true) ∧ Below W.heap.size W w') := Lib.hid fun W => check_hide 1 _ (by decide) W
  have k3 : Hid (∀ W, Calls Try.prog 8 #[.string (secPart (b4 1) ⟨#[97]⟩ 4)] W fun e w' => e = .returned (.bool true) ∧ Below W.heap.size W w') := Lib.hid fun W => hidden_hide 1 _ W
  have k4 : Hid (∀ W, Calls Try.prog 10 #[.string ⟨#[98]⟩, .string ⟨#[98]⟩] W fun e w' => e = .returned (.bool true) ∧ Below W.heap.size W w') := Lib.hid fun W => check_no _ _ (by decide) nothid_b true (by rw [Go.Lib.toList_data]; rfl) W
  have k5 : Hid (∀ W, Calls Try.prog 10 #[.string ⟨#[98]⟩, .string ⟨#[97]⟩] W fun e w' => e = .returned (.bool false) ∧ Below W.heap.size W w') := Lib.hid fun W => check_no _ _ (by decide) nothid_b false (by rw [Go.Lib.toList_data, Go.Lib.toList_data]; rfl) W
  have z1 : (secPart (b4 1) ⟨#[97]⟩ 4).size = 44 := by rw [secPart_size, b4_size]
  have z2 : (secPart (b4 1) ⟨#[97]⟩ 4).extract 0 12 = ⟨#[123, 83, 125, 48, 48, 48, 48, 48, 48, 48, 49, 46]⟩ := by
    apply bys_inj
    have e : hexL (bys (b4 1)) = [48, 48, 48, 48, 48, 48, 48, 49] := by kernel_rfl
    rw [secPart_eq, bys_extract]
    show List.take 12 (bys (hidden (b4 1) (allSums (b4 1) ⟨#[97]⟩ 4))) = _
    rw [bys_hidden, e]
    rfl
  generalize secPart (b4 1) ⟨#[97]⟩ 4 = T at *
  go_enter Try.func5, Try.ntmps5
  go_wp2_with (first
    | (go_at_call 6; with_reducible (refine (k1.out _).mono ?_); rintro e w1 ⟨rfl, hb1⟩)
    | (go_at_call_of 10 T; with_reducible (refine (k2.out _).mono ?_); rintro e w1 ⟨rfl, hb2⟩; replace hb1 := bstep hb1 hb2 hb1.size; clear hb2)
    | (go_at_call 8; with_reducible (refine (k3.out _).mono ?_); rintro e w1 ⟨rfl, hb2⟩; replace hb1 := bstep hb1 hb2 hb1.size; clear hb2)
    | (go_at_call 10; with_reducible (refine (k4.out _).mono ?_); rintro e w1 ⟨rfl, hb2⟩; replace hb1 := bstep hb1 hb2 hb1.size; clear hb2)
    | (go_at_call 10; with_reducible (refine (k5.out _).mono ?_); rintro e w1 ⟨rfl, hb2⟩; replace hb1 := bstep hb1 hb2 hb1.size; clear hb2))
  go_ret
  exact ⟨rfl, hb1⟩
end Go.Proofs.YtgbpfoegimgcjaaOc
