/-
  chancerylaw11: LogWhole, the walk. Condition: none.
-/
import Derived.Test.YtladbjlkkjcfnaaLgZ
import Derived.Deep.DrawnRows
import Derived.Deep.RegionHeld3
import Derived.Deep.RegionWith
namespace Go.Proofs.YtladbjlkkjcfnaaLg
open Go.RowKit Go.Proofs.YtladbjlkkjcfnaaW.PrintWords Go.Proofs.YtladbjlkkjcfnaaW.PrintMore Go.Proofs.Ytladbjlkkjcfnaa.PU Go.Proofs.YtladbjlkkjcfnaaOc Go.Proofs.YtladbjlkkjcfnaaKp Go.Proofs.YtladbjlkkjcfnaaCm Go.Proofs.YtladbjlkkjcfnaaDk
set_option linter.unusedVariables false
set_option linter.unusedSimpArgs false
variable {w0 w w1 : World} {p l : Nat} {D D' : Dm} {L L' : Lm} {B : List (Nat × Obj)} {R AH : List ByteArray} {nv av : Value}
attribute [local go_sem ↓] Go.wp_at_zero Go.wp_at_succ
attribute [local go_sem ↓] apR_eq
set_option maxRecDepth 100000 in
theorem whole_early (a0 : Option Addr) (len cap : Nat) (synced keep torn : Int) (h : len < 1 ∨ 5 < len) (w : World) : Calls Try.prog 5 #[.slice a0 len cap, .int .i64 synced, .int .i64 keep, .int .i64 torn] w fun e w' => e = .returned (.bool true) ∧ Below w.heap.size w w' := by
  have ka := Lib.hid c_alive
  by_cases h1 : len < 1
  · have d1 : decide (len < 1) = true := decide_eq_true h1
    have d1' : decide ((len : Int) < 1) = true := decide_eq_true (by omega)
    clear h
    go_enter Try.func5, Try.ntmps5
    go_wp2_with (go_at_call 6; refine (ka.out _).mono ?_; rintro e w1 ⟨rfl, hb⟩; have HB := Lib.hid hb; clear hb)
    go_ret
    exact ⟨rfl, HB.out⟩
  · have d1 : decide (len < 1) = false := decide_eq_false h1
    have d1' : decide ((len : Int) < 1) = false := decide_eq_false (by omega)
    have d2 : decide (5 < len) = true := decide_eq_true (by omega)
    have d2' : decide (5 < (len : Int)) = true := decide_eq_true (by omega)
    clear h
    go_enter Try.func5, Try.ntmps5
    go_wp2_with (go_at_call 6; refine (ka.out _).mono ?_; rintro e w1 ⟨rfl, hb⟩; have HB := Lib.hid hb; clear hb)
    go_ret
    exact ⟨rfl, HB.out⟩
set_option maxRecDepth 100000 in
set_option maxHeartbeats 4000000 in
theorem whole_main (a0 : Option Addr) (len cap : Nat) (synced keep torn : Int) (h1 : 1 ≤ len) (h5 : len ≤ 5) (w : World) (hg : GensIn w a0 len cap) : Calls Try.prog 5 #[.slice a0 len cap, .int .i64 synced, .int .i64 keep, .int .i64 torn] w fun e w' => e = .returned (.bool true) ∧ Below w.heap.size w w' := by
  have ka := Lib.hid c_alive
  have k1 := Lib.hid (d_New (w0 := w) (Below.refl _ w) 40 (by omega) (by omega))
  have k2 := Lib.hid (fun (w' : World) (p : Nat) (h : Ds w w' p (newD 40) []) => d_Open_new 40 h 3 30 (by omega) (by omega) (by omega))
  have d1 : decide (len < 1) = false := decide_eq_false (by omega)
  have d1' : decide ((len : Int) < 1) = false := decide_eq_false (by omega)
  have d2 : decide (5 < len) = false := decide_eq_false (by omega)
  have d2' : decide (5 < (len : Int)) = false := decide_eq_false (by omega)
  have HG := Lib.hid hg
  have HL := Lib.hid (And.intro h1 h5)
  clear hg h1 h5
  go_enter Try.func5, Try.ntmps5
  go_upto_region 9 with (first
    | (go_at_call 7; refine k1.out.mono ?_; rintro e w1 ⟨p, rfl, hs⟩; have HD := Lib.hid hs; clear hs)
    | (go_at_call 8; refine (k2.out _ _ HD.out).mono ?_; rintro e w2 ⟨l, rfl, hs⟩; have HS0 := (Lib.hid (show Lg w w2 p l (newD 40) L00 [] from hs)); clear hs))
  have hst : OS w w2 p l (.slice none 0 0) (.slice none 0 0) 0 0 := ⟨[], [], _, _, LW.start HS0.out, .inl ⟨rfl, rfl, rfl, rfl, rfl, rfl⟩⟩
  clear HD HS0 k1 k2
  have HS := Lib.hid hst
  clear hst
  go_wp2_with fail
  go_loopw [13, 14, 15, 16] (fun nv av sv iv wr => ∃ i sure : Nat, i ≤ len ∧ iv = .int .i64 i ∧ sv = .int .i64 sure ∧ OS w wr p l nv av sure i) (fun _ _ _ iv _ => len - (intOf iv).toNat)
  case atStart => exact ⟨0, 0, Nat.zero_le _, rfl, rfl, HS.out⟩
  case round =>
    clear HS
    obtain ⟨i, sure, hi, rfl, rfl, R, AH, D, L, hst, hs0⟩ := hrel
    by_cases hin : i < len
    · have d5 : decide (i < len) = true := decide_eq_true hin
      obtain ⟨ad, A1, n1, c1, rfl, hc0, hn1, hc1⟩ := HG.out.2 i hin
      have cg : wr.cell? (ad.add i) = some (.slice A1 n1 c1) := hst.below.cell (World.block_lt_of_cell? w _ hc0) ▸ hc0
      obtain ⟨e1, e2, e3⟩ := hs0.sync
      obtain ⟨r1, r2, r3, G, r4, r5⟩ := e3.reset (by have := HL.out; omega)
      have HC0 := Lib.hid hc0
      have HC1 := Lib.hid hc1
      have HN1 := Lib.hid hn1
      have HST := Lib.hid hst
      have hi5 := Lib.hid (And.intro hi hin)
      have i1 : (0 : Int) ≤ (i : Int) := by omega
      have HE := Lib.hid (And.intro e1 (And.intro e2 (And.intro r1 (And.intro r2 (And.intro r3 (And.intro r4 r5))))))
      obtain ⟨nA, nc, rfl, hnc⟩ : ∃ A c, u13 = .slice A R.length c ∧ R.length ≤ c := by obtain ⟨_, _, _, hrow, _⟩ := hst; exact hrow.form
      clear e1 e2 e3 r1 r2 r3 r4 r5 hc0 hc1 hn1 hst hs0 hi
      by_cases h12 : 12 < n1
      · have d6 : decide (12 < n1) = true := decide_eq_true h12
        have d6' : decide ((12 : Int) < (n1 : Int)) = true := decide_eq_true (by omega)
        clear h12
        go_wp2_with (go_at_call 6; refine (w_alive HST.out).mono ?_; rintro e w3 ⟨rfl, hs⟩; have HS := Lib.hid hs; clear hs)
        go_ret
        exact ⟨rfl, HS.out.below⟩
      · have d6 : decide (12 < n1) = false := decide_eq_false h12
        have d6' : decide ((12 : Int) < (n1 : Int)) = false := decide_eq_false (by omega)
        clear h12
        go_upto_region 16 with (first
          | (go_at_call 14; refine (w_Sync HST.out HE.out.2.1 HE.out.1).mono ?_; rintro e w3 ⟨rfl, hs⟩; have HS3 := Lib.hid hs; clear hs)
          | (go_at_call 9; refine (w_Reset HS3.out HE.out.2.2.1 HE.out.2.2.2.1 HE.out.2.2.2.2.1).mono ?_; rintro e w4 ⟨rfl, hs⟩; have HS4 := Lib.hid hs; clear hs))
        have hSI : IS w w4 p l (.slice none 0 0) (if R = [] then u14 else .slice nA R.length nc) 0 i := by
          obtain ⟨e1, e2, r1, r2, r3, r4, r5⟩ := HE.out
          by_cases hR : R = []
          · rw [if_pos hR]
            refine ⟨[], AH, _, _, G, 0, 0, HS4.out.keep, r4, ?_, Nat.zero_le _, Nat.zero_le _⟩
            rw [nextA, if_pos hR] at r5
            exact r5
          · rw [if_neg hR]
            refine ⟨[], R, _, _, G, 0, 0, HS4.out.swap, r4, ?_, Nat.zero_le _, Nat.zero_le _⟩
            rw [nextA, if_neg hR] at r5
            exact r5
        have hRl : (R = []) ↔ ¬ 0 < R.length := by rw [← List.length_eq_zero_iff]; omega
        clear HE HST HS3 HS4
        have n12 : n1 ≤ 12 := by simpa using d6
        have l5 : len ≤ 5 := HL.out.2
        by_cases h0 : 0 < R.length
        all_goals
          first
            | (rw [if_neg (fun e => hRl.1 e h0)] at hSI
               have d7 : decide (0 < R.length) = true := decide_eq_true h0
               have d7' : decide (0 < (R.length : Int)) = true := decide_eq_true (by omega)
               have HSI := Lib.hid hSI
               clear hSI hRl
               go_wp2_with fail
               generalize (Value.slice nA R.length nc) = av at *)
            | (rw [if_pos (hRl.2 h0)] at hSI
               have d7 : decide (0 < R.length) = false := decide_eq_false h0
               have d7' : decide (0 < (R.length : Int)) = false := decide_eq_false (by omega)
               have HSI := Lib.hid hSI
               clear hSI hRl
               go_wp2_with fail
               generalize u14 = av at *)
          clear d7 d7' h0 hnc
          go_loopw [13, 15, 17] (fun nv sv kv wr => ∃ k sure : Nat, k ≤ n1 ∧ kv = .int .i64 k ∧ sv = .int .i64 sure ∧ IS w wr p l nv av sure i) (fun _ _ kv _ => n1 - (intOf kv).toNat)
          case atStart => exact ⟨0, 0, Nat.zero_le _, rfl, rfl, HSI.out⟩
          case round =>
            clear HSI
            obtain ⟨k, sure, hk, rfl, rfl, hst⟩ := hrel
            by_cases hkn : k < n1
            · have d8 : decide (k < n1) = true := decide_eq_true hkn
              obtain ⟨R', AH', D, L, G', S, c, hst, hG, hW, hS⟩ := hst
              obtain ⟨bd, s, rfl, hcs⟩ := HC1.out k hkn
              have cg2 : wr.cell? (ad.add i) = some (.slice (some bd) n1 c1) := (hst.below.cell (World.block_lt_of_cell? w _ HC0.out)).trans HC0.out
              have cs2 : wr.cell? (bd.add k) = some (.string s) := (hst.below.cell (World.block_lt_of_cell? w _ hcs)).trans hcs
              have HCS := Lib.hid hcs
              clear hcs
              have HST := Lib.hid hst
              have HW := Lib.hid (And.intro hW (And.intro hG hS))
              have k0 : (0 : Int) ≤ (k : Int) := by omega
              clear hst hW hG hS hk
              by_cases h300 : 300 < s.size
              · have d9 : decide (300 < s.size) = true := decide_eq_true h300
                have d9' : decide ((300 : Int) < (s.size : Int)) = true := decide_eq_true (by omega)
                clear h300
                go_wp2_with (go_at_call 6; refine (w_alive HST.out).mono ?_; rintro e w3 ⟨rfl, hs⟩; have HS := Lib.hid hs; clear hs)
                go_ret
                exact ⟨rfl, HS.out.below⟩
              · have d9 : decide (300 < s.size) = false := decide_eq_false h300
                have d9' : decide ((300 : Int) < (s.size : Int)) = false := decide_eq_false (by omega)
                obtain ⟨T, hT⟩ : ∃ T, T = (R'.flatMap pk).length := ⟨_, rfl⟩
                by_cases hfit : T + (pcs s).length ≤ 30
                · have HF := Lib.hid (show (R'.flatMap pk).length + (pcs s).length ≤ 30 by omega)
                  have hs6 := Lib.hid (show s.size ≤ 1000000 by omega)
                  clear hT hfit h300
                  go_wp2_with (first
                    | (go_at_call 11; refine (w_App HST.out HW.out.1 s hs6.out HF.out).mono ?_; rintro e w5 ⟨rfl, D2, L2, c2, hs, hw⟩; have cg5 : w5.cell? (ad.add i) = some (.slice (some bd) n1 c1) := (hs.below.cell (World.block_lt_of_cell? w _ HC0.out)).trans HC0.out; have cs5 : w5.cell? (bd.add k) = some (.string s) := (hs.below.cell (World.block_lt_of_cell? w _ HCS.out)).trans HCS.out; obtain ⟨ga, cap9, w9, hrun, hcap9, hs9⟩ := hs.grow s HW.out.1.rlen; have HS9 := Lib.hid hs9; have HW5 := Lib.hid hw; have HK := Lib.hid hcap9; clear hs hw hs9 hcap9)
                    | (go_at_call 14; refine (w_Sync HS9.out HW5.out.allsure.2.1 HW5.out.allsure.1).mono ?_; rintro e w10 ⟨rfl, hs⟩; have HS10 := Lib.hid hs; clear hs))
                  all_goals first
                    | exact ⟨⟨k + 1, R'.length + 1, by omega, by simp, by simp, R' ++ [s], AH', _, L2, G', _, _, HS10.out, HW.out.2.1, HW5.out.allsure.2.2.1, by have := HW5.out.allsure.2.2.2; simpa using this⟩, by simp [intOf]; omega⟩
                    | exact ⟨⟨k + 1, sure, by omega, by simp, rfl, R' ++ [s], AH', D2, L2, G', S, c2, HS9.out, HW.out.2.1, HW5.out, HW.out.2.2.snoc s⟩, by simp [intOf]; omega⟩
                · have HF := Lib.hid (show 30 < (R'.flatMap pk).length + (pcs s).length by omega)
                  have hs6 := Lib.hid (show s.size ≤ 1000000 by omega)
                  clear hT hfit h300
                  go_wp2_with (go_at_call 11; refine (w_App_full HST.out HW.out.1 s hs6.out HF.out).mono ?_; rintro e w5 ⟨rfl, hs⟩; have HS5 := Lib.hid hs; clear hs)
                  exact ⟨⟨i + 1, sure, by omega, by simp, rfl, IS.out ⟨R', AH', D, L, G', S, c, HS5.out, HW.out.2.1, HW.out.1, HW.out.2.2⟩⟩, by simp [intOf]; omega⟩
            · obtain rfl : k = n1 := by omega
              have d8 : decide (k < k) = false := by simp
              have cg2 : wr.cell? (ad.add i) = some (.slice A1 k c1) := (hst.below.cell (World.block_lt_of_cell? w _ HC0.out)).trans HC0.out
              have HST := Lib.hid hst
              clear hst hkn hk
              go_wp2_with fail
              exact ⟨⟨i + 1, sure, by omega, by simp, rfl, HST.out.out⟩, by simp [intOf]; omega⟩
    · obtain rfl : i = len := by omega
      have d5 : decide (i < i) = false := by simp
      obtain ⟨f1, f2, f3, x, f4, f5⟩ := hs0.found (by have := HL.out; omega) keep torn
      obtain ⟨⟨nA, nc, rfl, hnc⟩, aA, ac, rfl, hac⟩ := hst.forms
      have HST := Lib.hid hst
      have HF := Lib.hid (And.intro f1 (And.intro f2 (And.intro f3 (And.intro f4 (And.intro f5 (And.intro hnc hac))))))
      clear hst hs0 f1 f2 f3 f4 f5 hin hi hnc hac
      go_upto_region 38 with (first
        | (go_at_call 16; refine (w_Crash HST.out keep torn).mono ?_; rintro e w3 ⟨rfl, hs⟩; have HS3 := Lib.hid hs; clear hs)
        | (go_at_call 17; refine (w_Restore HS3.out).mono ?_; rintro e w4 ⟨rfl, hs⟩; have HS4 := Lib.hid hs; clear hs)
        | (go_at_call 8; refine (w_Open HS4.out rfl HF.out.1).mono ?_; rintro e w5 ⟨m, rfl, hs⟩; have HS5 := Lib.hid hs; clear hs)
        | (go_at_call 12; refine (w_Records HS5.out (Nat.le_trans (open_few _) (by omega)) HF.out.2.2.2.1).mono ?_; rintro e w6 ⟨xA, xc, rfl, hxc, hs⟩; have HS6 := Lib.hid hs; have HX := Lib.hid hxc; clear hs hxc))
      clear HST HS3 HS4 HS5
      obtain ⟨f1, f2, f3, f4, f5, hnc, hac⟩ := HF.out
      have c0 : (0 : Int) ≤ (x.length : Int) := by omega
      by_cases hR : R.length = 0
      · have n0 : ((R.length : Int) == 0) = true := by simp [hR]
        have n0' : (R.length == 0) = true := by simp [hR]
        have hx : x = AH := by
          rcases f5 with ⟨_, e⟩ | ⟨e, _⟩
          · exact e
          · exact absurd (List.eq_nil_of_length_eq_zero hR) e
        have hlx : x.length ≤ 30 := by rw [← f4]; exact open_few _
        have HQ := Lib.hid (And.intro hx (And.intro hlx hac))
        clear hR f1 f2 f3 f4 f5 hnc hac hx hlx HF
        go_wp2_with (first
          | (go_at_call 6; refine (ka.out _).mono ?_; rintro e w7 ⟨rfl, hb⟩; have HS7 := Lib.hid (HS6.out.b hb); clear hb)
          | (go_at_call 18; refine (c_same xA xc x aA ac AH _ HS7.out.2 HX.out HS7.out.ahead HQ.out.2.2 (by have := HQ.out.2.1; omega) true (by rw [HQ.out.1]; simp)).mono ?_; rintro e w8 ⟨rfl, hb⟩; have HS8 := Lib.hid (HS7.out.b hb); clear hb))
        go_ret
        exact ⟨rfl, HS8.out.below⟩
      · have n0 : ((R.length : Int) == 0) = false := by rw [beq_eq_false_iff_ne]; omega
        have n0' : (R.length == 0) = false := by rw [beq_eq_false_iff_ne]; omega
        by_cases hB : sure = 0 ∧ x = AH
        · obtain ⟨rfl, hx⟩ := hB
          have hlx : x.length ≤ 30 := by rw [← f4]; exact open_few _
          have HQ := Lib.hid (And.intro hx (And.intro hlx hac))
          clear hR f1 f2 f3 f4 f5 hnc hac hx hlx HF
          go_wp2_with (first
            | (go_at_call 6; refine (ka.out _).mono ?_; rintro e w7 ⟨rfl, hb⟩; have HS7 := Lib.hid (HS8.out.b hb); clear hb)
            | (go_at_call 18; refine (c_same xA xc x aA ac AH _ HS6.out.2 HX.out HS6.out.ahead HQ.out.2.2 (by have := HQ.out.2.1; omega) true (by rw [HQ.out.1]; simp)).mono ?_; rintro e w8 ⟨rfl, hb⟩; have HS8 := Lib.hid (HS6.out.b hb); clear hb))
          go_ret
          exact ⟨rfl, HS7.out.below⟩
        · obtain ⟨j, hj1, hj2, hx⟩ : ∃ j, sure ≤ j ∧ j ≤ R.length ∧ x = R.take j := by
            rcases f5 with e | ⟨_, e⟩
            · exact absurd e hB
            · exact e
          have hlx : x.length ≤ 30 := by rw [← f4]; exact open_few _
          have hlj : x.length = j := by rw [hx, List.length_take]; omega
          have g1 : decide (sure ≤ x.length) = true := decide_eq_true (by omega)
          have g1' : decide ((sure : Int) ≤ (x.length : Int)) = true := decide_eq_true (by omega)
          have g2 : decide (x.length ≤ R.length) = true := decide_eq_true (by omega)
          have g2' : decide ((x.length : Int) ≤ (R.length : Int)) = true := decide_eq_true (by omega)
          have g3 : (x.length : Int) ≤ (nc : Int) := by omega
          have g4 : x.length ≤ nc := by omega
          have hxt : x = R.take x.length := by rw [hlj]; exact hx
          have hx5 : x.length ≤ R.length := by omega
          have HQ := Lib.hid (And.intro hxt (And.intro hlx (And.intro g4 (And.intro f2 hx5))))
          have kA := Lib.hid (show ∀ (W : World) (h : TS w W p m R AH (.slice nA R.length nc) (.slice aA AH.length ac) xA x), Calls Try.prog 18 #[.slice xA x.length xc, .slice nA x.length nc] W fun e w' => e = .returned (.bool true) ∧ Below W.heap.size W w' from fun W h => by
            have hC := Kd.C_take (m := x.length) (h.now HQ.out.2.2.2.1) HQ.out.2.2.2.2
            rw [← HQ.out.1] at hC
            exact c_same xA xc x nA nc x W h.2 HX.out hC HQ.out.2.2.1 (by have := HQ.out.2.1; omega) true (by simp))
          by_cases hs0 : sure = 0
          · obtain rfl := hs0
            have HN := Lib.hid (show ¬ x = AH from fun e => hB ⟨rfl, e⟩)
            have kB := Lib.hid (show ∀ (W : World) (h : TS w W p m R AH (.slice nA R.length nc) (.slice aA AH.length ac) xA x), Calls Try.prog 18 #[.slice xA x.length xc, .slice aA AH.length ac] W fun e w' => e = .returned (.bool false) ∧ Below W.heap.size W w' from fun W h => c_same xA xc x aA ac AH W h.2 HX.out h.ahead hac (by omega) false (by simp [HN.out]))
            clear hR f1 f2 f3 f4 f5 hnc hac hx hlx HF hj1 hj2 hB hlj hxt hx5
            go_wp2_with (first
              | (go_at_call 6; refine (ka.out _).mono ?_; rintro e w7 ⟨rfl, hb⟩; have HS7 := Lib.hid (HS9.out.b hb); clear hb)
              | (go_at_call 18; (with_reducible refine (kB.out _ HS6.out).mono ?_); rintro e w8 ⟨rfl, hb⟩; have HS9 := Lib.hid (HS6.out.b hb); clear hb)
              | (go_at_call 18; refine (kA.out _ HS7.out).mono ?_; rintro e w8 ⟨rfl, hb⟩; have HS8 := Lib.hid (HS7.out.b hb); clear hb))
            go_ret
            exact ⟨rfl, HS8.out.below⟩
          · have s0 : ((sure : Int) == 0) = false := by rw [beq_eq_false_iff_ne]; omega
            have s0' : (sure == 0) = false := by rw [beq_eq_false_iff_ne]; omega
            clear hR f1 f2 f3 f4 f5 hnc hac hx hlx HF hj1 hj2 hB hlj hs0 hxt hx5
            go_wp2_with (first
              | (go_at_call 6; refine (ka.out _).mono ?_; rintro e w7 ⟨rfl, hb⟩; have HS7 := Lib.hid (HS6.out.b hb); clear hb)
              | (go_at_call 18; refine (kA.out _ HS7.out).mono ?_; rintro e w8 ⟨rfl, hb⟩; have HS8 := Lib.hid (HS7.out.b hb); clear hb))
            go_ret
            exact ⟨rfl, HS8.out.below⟩
theorem GensIn.top {a0 : Option Addr} {len cap : Nat} (h : GensIn w a0 len cap) : len ≤ cap := h.1
theorem walk_LogWhole (w : World) (a0 : Option Addr) (len cap : Nat) (synced keep torn : Int) (hg : GensIn w a0 len cap) (h1 : -9223372036854775808 ≤ synced ∧ synced ≤ 9223372036854775807) (h2 : -9223372036854775808 ≤ keep ∧ keep ≤ 9223372036854775807) (h3 : -9223372036854775808 ≤ torn ∧ torn ≤ 9223372036854775807) :
    Calls Try.prog 5 #[.slice a0 len cap, .int .i64 synced, .int .i64 keep, .int .i64 torn] w fun e w' => e = .returned (.bool true) ∧ Below w.heap.size w w' := by
  by_cases h : len < 1 ∨ 5 < len
  · exact whole_early a0 len cap synced keep torn h w
  · exact whole_main a0 len cap synced keep torn (by omega) (by omega) w hg
end Go.Proofs.YtladbjlkkjcfnaaLg
namespace Go.Proofs.YtladbjlkkjcfnaaLg
open Go.RowKit Go.Maps Go.Proofs.YtladbjlkkjcfnaaKp Go.Proofs.YtladbjlkkjcfnaaCm Go.Proofs.YtladbjlkkjcfnaaW.PrintWords
open Go.ChangeShapes Go.WideShapes Go.Deep
set_option linter.unusedVariables false
set_option linter.unusedSimpArgs false
theorem cells_string : Try.prog.cellsOf 9 = 1 := by kernel_rfl
theorem cells_strings : Try.prog.cellsOf 34 = 1 := by kernel_rfl
/-- the generations as they are handed in -/
theorem open_gens {H : Type} {enc : TypeId × Value → H} {w : World} {held : Bool} {fuel : Nat} {a0 : Option Addr} {len cap : Nat} {x : DataW H × List MemPlace}
    (h : DataW.trod enc Try.prog w 0 (fun _ => true) held fuel 40 [.slice a0 len cap] = some x) : GensIn w a0 len cap := by
  rcases open_slice Try.underlying40 h with ⟨hcs, _⟩ | ⟨a, l, c, m, n, D, Pl, hcs, _, hl, _, hm, _, hi⟩
  · simp only [List.cons.injEq, Value.slice.injEq, and_true] at hcs
    obtain ⟨rfl, rfl, rfl⟩ := hcs
    exact ⟨Nat.le_refl _, fun i hi => absurd hi (by omega)⟩
  · simp only [List.cons.injEq, Value.slice.injEq, and_true] at hcs
    obtain ⟨rfl, rfl, rfl⟩ := hcs
    refine ⟨hl, fun i hil => ?_⟩
    obtain ⟨cs', hc, ht⟩ := hi i (by rw [hm]; simp only [if_true]; omega)
    rw [cells_strings, Nat.mul_one] at hc
    rcases open_strings Try.underlying34 Try.underlying9 cells_string ht with ⟨rfl, _⟩ | ⟨b, l2, c2, ss, rfl, _, hl2, _, hs, _, hat, _⟩
    · exact ⟨a, none, 0, 0, rfl, cell_of_cells?_one hc, Nat.le_refl _, fun j hj => absurd hj (by omega)⟩
    · refine ⟨a, some b, l2, c2, rfl, cell_of_cells?_one hc, hl2, fun j hj => ⟨b, _, rfl, hat j (by rw [hs]; simp only [if_true]; omega)⟩⟩
end Go.Proofs.YtladbjlkkjcfnaaLg
