/-
  chancerylaw10: DiskSynced, the walk. Condition: none.
-/
import Derived.Test.YtcbaflnmfiofeaaDkQ
import Derived.Deep.RegionWith
import Derived.Deep.DrawnRows
namespace Go.Proofs.YtcbaflnmfiofeaaDk
open Go.RowKit Go.Maps Go.Proofs.YtcbaflnmfiofeaaKp Go.Proofs.YtcbaflnmfiofeaaCm Go.Proofs.YtcbaflnmfiofeaaW.PrintWords
set_option linter.unusedVariables false
set_option linter.unusedSimpArgs false
/-- the wanted texts as they lie in memory -/
def strs (W : List (List Int)) : Array Value := (W.map fun s => Value.string (strOfNums s)).toArray
theorem strs_set (W : List (List Int)) (k : Nat) (s : List Int) : (strs W).setIfInBounds k (.string (strOfNums s)) = strs (W.set k s) := by
  unfold strs
  rw [List.setIfInBounds_toArray, List.map_set]
theorem strs_get {W : List (List Int)} {k : Nat} {s : List Int} (h : W[k]? = some s) : (strs W)[k]? = some (.string (strOfNums s)) := by
  unfold strs
  rw [List.getElem?_toArray, List.getElem?_map, h]
  rfl
theorem torn_text (a b : List Int) (t : Nat) (hb : b.length = 64) : (strOfNums a).extract 0 t ++ (strOfNums b).extract t 64 = strOfNums (a.take t ++ b.drop t) := by
  apply ByteArray.ext
  apply Array.toList_inj.1
  rw [ByteArray.data_append, Array.toList_append, ByteArray.data_extract, ByteArray.data_extract, Array.toList_extract, Array.toList_extract, strOfNums_data, strOfNums_data, strOfNums_data, List.map_append, List.map_take, List.map_drop]
  simp only [List.extract_eq_take_drop, List.drop_zero, Nat.sub_zero]
  congr 1
  rw [List.take_of_length_le (by simp [hb])]
theorem walk_DiskSynced_no (a0 : Option Addr) (len0 cap0 : Nat) (synced keep torn : Int) (w : World) (h : (60 < len0 ∨ synced < 0 ∨ (len0 : Int) < synced)) :
    Calls Try.prog 3 #[.slice a0 len0 cap0, .int .i64 synced, .int .i64 keep, .int .i64 torn] w fun e w' => e = .returned (.bool true) ∧ Below w.heap.size w w' := by
  have ka : ∀ w0, Calls Try.prog 9 #[] w0 fun e w' => e = .returned (.bool true) ∧ Below w0.heap.size w0 w' := c_alive
  replace ka := Lib.hid ka
  by_cases h1 : 60 < len0
  · have d1 : decide (60 < len0) = true := decide_eq_true h1
    have d1' : decide ((60 : Int) < (len0 : Int)) = true := decide_eq_true (by omega)
    clear h
    go_enter Try.func3, Try.ntmps3
    go_wp2_with (go_at_call 9; refine (ka.out _).mono ?_; rintro e w1 ⟨rfl, hb⟩; have HB := Lib.hid hb; clear hb)
    go_ret
    exact ⟨rfl, HB.out⟩
  have d1 : decide (60 < len0) = false := decide_eq_false h1
  have d1' : decide ((60 : Int) < (len0 : Int)) = false := decide_eq_false (by omega)
  by_cases h2 : synced < 0
  · have d2 : decide (synced < 0) = true := decide_eq_true h2
    clear h
    go_enter Try.func3, Try.ntmps3
    go_wp2_with (go_at_call 9; refine (ka.out _).mono ?_; rintro e w1 ⟨rfl, hb⟩; have HB := Lib.hid hb; clear hb)
    go_ret
    exact ⟨rfl, HB.out⟩
  have d2 : decide (synced < 0) = false := decide_eq_false h2
  have d3 : decide ((len0 : Int) < synced) = true := decide_eq_true (by omega)
  clear h
  go_enter Try.func3, Try.ntmps3
  go_wp2_with (go_at_call 9; refine (ka.out _).mono ?_; rintro e w1 ⟨rfl, hb⟩; have HB := Lib.hid hb; clear hb)
  go_ret
  exact ⟨rfl, HB.out⟩
attribute [local go_sem ↓] Go.wp_at_zero Go.wp_at_succ
set_option maxHeartbeats 4000000 in
set_option maxRecDepth 100000 in
theorem walk_DiskSynced_yes (a0 : Option Addr) (cap0 : Nat) (l : List Int) (s : Nat) (keep torn : Int) (w : World) (hr : ReadsInt w .i64 a0 l.length l) (hlen : l.length ≤ 60) (hcap : l.length ≤ cap0) (hs : s ≤ l.length)
    (hwf : ∀ x ∈ l, -9223372036854775808 ≤ x ∧ x ≤ 9223372036854775807) (hbk : -9223372036854775808 ≤ keep ∧ keep ≤ 9223372036854775807) (hbt : -9223372036854775808 ≤ torn ∧ torn ≤ 9223372036854775807) :
    Calls Try.prog 3 #[.slice a0 l.length cap0, .int .i64 s, .int .i64 keep, .int .i64 torn] w fun e w' => e = .returned (.bool true) ∧ Below w.heap.size w w' := by
  have d1 : decide ((60 : Int) < (l.length : Int)) = false := decide_eq_false (by omega)
  have d2 : decide ((s : Int) < 0) = false := decide_eq_false (by omega)
  have d3 : decide (l.length < s) = false := decide_eq_false (by omega)
  have k1 := Lib.hid (s_New (w0 := w) (B := []) (Below.refl _ w) 8 (by omega) (by omega) (fun x hx => by cases hx))
  have HR := Lib.hid (And.intro hr (And.intro hwf hs))
  clear hr hwf hs
  go_enter Try.func3, Try.ntmps3
  go_wp2_with (first
    | (go_at_call 10; refine k1.out.mono ?_; rintro e w1 ⟨p, rfl, hs⟩; have HS := Lib.hid hs; clear hs))
  have hst := HS.out.alloc (strs (List.replicate 0 zsec ++ List.replicate (8 - 0) [])) 28
  have hnb := HS.out.below.size
  clear HS k1
  change Code.wp _ _ _ _ (w1.alloc (.cells (strs (List.replicate 0 zsec ++ List.replicate (8 - 0) [])) 28))
  generalize (w1.alloc (.cells (strs (List.replicate 0 zsec ++ List.replicate (8 - 0) [])) 28)) = w2 at *
  generalize w1.heap.size = nb at *
  have HS := Lib.hid (And.intro hst hnb)
  clear hst hnb
  go_loopw [12] (fun i wr => ∃ k : Nat, k ≤ 8 ∧ i = .int .i64 k ∧ St w wr p (newD 8) [(nb, .cells (strs (List.replicate k zsec ++ List.replicate (8 - k) [])) 28 (0, 0))]) (fun i _ => 8 - (intOf i).toNat)
  case atStart => exact ⟨0, Nat.zero_le _, rfl, HS.out.1⟩
  case round =>
    obtain ⟨k, hk, rfl, hst⟩ := hrel
    by_cases hkn : k < 8
    · have d4 : decide ((k : Int) < 8) = true := by simp; omega
      have hk1 : Hid (k + 1 ≤ 8) := Lib.hid (by omega)
      have j1 : (0 : Int) ≤ (k : Int) := by omega
      have j2 : (k : Int) < 8 := by omega
      have k3 := Lib.hid (s_rowB hst 0)
      clear hst
      go_wp2_with (go_at_call 11; refine k3.out.mono ?_; rintro e w3 ⟨rfl, hs⟩; have hh := hs.at List.mem_cons_self; have c1 := (cell_of_row w3 nb k _ _ _ hh).trans (strs_get (s := []) (by rw [List.getElem?_append_right (by simp), List.length_replicate, Nat.sub_self, List.getElem?_replicate, if_pos (by omega)])); have z1 := frozen_of_row w3 nb k _ _ hh; have hs2 := hs.set HS.out.2 (by simp) k (.string (rowB 0)); have HS3 := Lib.hid hs2; clear hs hs2 hh)
      have hE : (strs (List.replicate k zsec ++ List.replicate (8 - k) [])).setIfInBounds k (.string (rowB 0)) = strs (List.replicate (k + 1) zsec ++ List.replicate (8 - (k + 1)) []) := by
        rw [rowB, strs_set, rowN_zero, List.set_append_right _ _ (by simp), List.length_replicate, Nat.sub_self, show 8 - k = (8 - (k + 1)) + 1 by omega, List.replicate_succ, List.set_cons_zero, List.replicate_succ', List.append_assoc]
        rfl
      have hF := HS3.out
      rw [hE] at hF
      exact ⟨⟨k + 1, hk1.out, by simp, hF⟩, by have := hk1.out; simp [intOf]; omega⟩
    · obtain rfl : k = 8 := by omega
      have d4 : decide (((8 : Nat) : Int) < 8) = false := by simp
      have hst' : St w wr p (stD l s 0) [(nb, .cells (strs (wnt l s keep (tornT torn) 0)) 28 (0, 0))] := by
        have e : stD l s 0 = newD 8 := by unfold stD; rw [if_pos (Nat.zero_le _)]; rfl
        rw [e]
        simpa [wnt] using hst
      have hnb := HS.out.2
      clear HS hst
      have HS := Lib.hid (And.intro hst' hnb)
      clear hst' hnb
      go_wp2_with fail
      go_loopw [13] (fun v wr => ∃ i : Nat, i ≤ l.length ∧ v = .int .i64 i ∧ St w wr p (stD l s i) [(nb, .cells (strs (wnt l s keep (tornT torn) i)) 28 (0, 0))]) (fun v _ => l.length - (intOf v).toNat)
      case atStart => exact ⟨0, Nat.zero_le _, rfl, HS.out.1⟩
      case round =>
        obtain ⟨i, hi, rfl, hst⟩ := hrel
        by_cases hin : i < l.length
        · have hsl := HR.out.2.2
          obtain ⟨kk, hkk⟩ : ∃ kk : Nat, l.getD i 0 % 8 = (kk : Int) := ⟨(l.getD i 0 % 8).toNat, by omega⟩
          have hk8 : kk < 8 := by omega
          have d5 : decide (i < l.length) = true := decide_eq_true hin
          obtain ⟨li, hli⟩ : ∃ li, li = l.getD i 0 := ⟨_, rfl⟩
          have d6 : bits .and .i64 li 7 = (kk : Int) := by rw [i64_and7, hli]; exact hkk
          obtain ⟨ad, rfl, hcell⟩ := HR.out.1.2.2 (by omega)
          have hc : wr.cell? (ad.add i) = some (.int .i64 li) := by rw [hli]; exact pw_cell_below hst.below (hcell i hin)
          have hW := st_write l s i (by omega)
          rw [hkk] at hW
          have hok := st_ok l s i (by omega)
          have hwl := wnt_length l s keep (tornT torn) i
          obtain ⟨wk, hwk⟩ : ∃ wk, (wnt l s keep (tornT torn) i)[kk]? = some wk := ⟨_, List.getElem?_eq_getElem (by omega)⟩
          have hi1 : Hid (i + 1 ≤ l.length) := Lib.hid (by omega)
          have j1 : (0 : Int) ≤ (kk : Int) := by omega
          have j2 : (kk : Int) < 8 := by omega
          have W1 : ∀ w4, St w w4 p (stS l s i) [(nb, .cells (strs (wnt l s keep (tornT torn) i)) 28 (0, 0))] → Calls Try.prog 13 #[.pointer (some ⟨p, 0, none⟩), .int .i64 kk, .string (rowB ((i : Int) + 1))] w4 fun e w' => e = .returned (.int .i64 0) ∧ St w w' p (stD l s (i + 1)) [(nb, .cells (strs (wnt l s keep (tornT torn) i)) 28 (0, 0))] := fun w4 h => by
            have := s_Write h hok kk (rowB ((i : Int) + 1))
            rw [hW.1, hW.2] at this
            exact this
          replace W1 := Lib.hid W1
          have HN := Lib.hid (And.intro HS.out.2 (And.intro hwk (And.intro hkk hsl)))
          clear HS hcell hW hok hwl hwk hkk hsl hli
          have hs60 : s ≤ 60 := by have := HN.out.2.2.2; omega
          by_cases his : i = s
          have d7 : ((i : Int) == (s : Int)) = true := by simp [his]
          have k3 : Calls Try.prog 12 #[.pointer (some ⟨p, 0, none⟩)] wr fun e w' => e = .returned (.int .i64 0) ∧ St w w' p (stS l s i) [(nb, .cells (strs (wnt l s keep (tornT torn) i)) 28 (0, 0))] := by
            subst his
            have hsy := stD_sync l i
            have := s_Sync hst ⟨by omega, by omega, by omega, by omega⟩
            rw [hsy.1, hsy.2.1] at this
            exact this
          replace k3 := Lib.hid k3
          clear hst his
          go_upto_block 4 with (first
            | (go_at_call 12; refine k3.out.mono ?_; rintro e w3 ⟨rfl, hs⟩; have HS := Lib.hid hs; clear hs)
            | (go_at_call 11; refine (s_rowB HS.out _).mono ?_; rintro e w3 ⟨rfl, hs⟩; clear HS; have HS := Lib.hid hs; clear hs)
            | (go_at_call 13; with_reducible refine (W1.out _ HS.out).mono ?_; rintro e w3 ⟨rfl, hs⟩; clear HS; have HS := Lib.hid hs; clear hs))
          clear k3
          rotate_left
          have d7 : ((i : Int) == (s : Int)) = false := by simp [his]; omega
          rw [stD_eq his] at hst
          have HS := Lib.hid hst
          clear hst his
          go_upto_block 4 with (first
            | (go_at_call 11; refine (s_rowB HS.out _).mono ?_; rintro e w3 ⟨rfl, hs⟩; clear HS; have HS := Lib.hid hs; clear hs)
            | (go_at_call 13; with_reducible refine (W1.out _ HS.out).mono ?_; rintro e w3 ⟨rfl, hs⟩; clear HS; have HS := Lib.hid hs; clear hs))
          all_goals
            clear W1 d5 d6 d7 hc hin
            have hkk : (ent l i).1.toNat = kk := by have := HN.out.2.2.1; simp only [ent]; omega
            have hkk := Lib.hid hkk
            by_cases cA : (i : Int) < s ∨ (i : Int) - s < keep
            · have hE := Lib.hid (show (strs (wnt l s keep (tornT torn) i)).setIfInBounds kk (.string (rowB ((i : Int) + 1))) = strs (wnt l s keep (tornT torn) (i + 1)) by
                rw [rowB, strs_set, wnt, if_pos cA, hkk.out])
              by_cases cB : i < s
              · have dA : decide (i < s) = true := decide_eq_true cB
                clear cA cB
                go_wp2_with (first
                  | (go_at_call 11; refine (s_rowB HS.out _).mono ?_; rintro e w3 ⟨rfl, hs⟩; clear HS; have hh := hs.at List.mem_cons_self; have c1 := (cell_of_row w3 nb kk _ _ _ hh).trans (strs_get HN.out.2.1); have z1 := frozen_of_row w3 nb kk _ _ hh; have hs2 := hs.set HN.out.1 (by simp) kk (.string (rowB ((i : Int) + 1))); have HS := Lib.hid hs2; clear hs hs2 hh))
                have hF := HS.out
                rw [hE.out] at hF
                refine ⟨?_, by have := hi1.out; simp [intOf]; omega⟩
                first | exact ⟨i + 1, hi1.out, by simp, hF⟩ | ((repeat (apply Exists.intro)); exact ⟨⟨i + 1, hi1.out, by simp, hF⟩, rfl⟩)
              · have dA : decide (i < s) = false := decide_eq_false cB
                have dB : decide ((i : Int) - (s : Int) < keep) = true := decide_eq_true (by omega)
                clear cA cB
                go_wp2_with (first
                  | (go_at_call 11; refine (s_rowB HS.out _).mono ?_; rintro e w3 ⟨rfl, hs⟩; clear HS; have hh := hs.at List.mem_cons_self; have c1 := (cell_of_row w3 nb kk _ _ _ hh).trans (strs_get HN.out.2.1); have z1 := frozen_of_row w3 nb kk _ _ hh; have hs2 := hs.set HN.out.1 (by simp) kk (.string (rowB ((i : Int) + 1))); have HS := Lib.hid hs2; clear hs hs2 hh))
                have hF := HS.out
                rw [hE.out] at hF
                refine ⟨?_, by have := hi1.out; simp [intOf]; omega⟩
                first | exact ⟨i + 1, hi1.out, by simp, hF⟩ | ((repeat (apply Exists.intro)); exact ⟨⟨i + 1, hi1.out, by simp, hF⟩, rfl⟩)
            · have dA : decide (i < s) = false := decide_eq_false (by omega)
              have dB : decide ((i : Int) - (s : Int) < keep) = false := decide_eq_false (by omega)
              by_cases cC : (i : Int) - s = max keep 0
              · have hwkl : wk.length = 64 := wnt_each l s keep (tornT torn) (by unfold tornT; omega) i wk (List.mem_of_getElem? HN.out.2.1)
                obtain ⟨tt, htt⟩ : ∃ tt, tt = tornT torn := ⟨_, rfl⟩
                have e2 := Lib.hid (show (if (64 : Int) < if torn < 0 then 0 else torn then (64 : Int) else if torn < 0 then 0 else torn) = (tt : Int) by rw [htt]; unfold tornT; split <;> split <;> omega)
                have t64 : tt ≤ 64 := by rw [htt]; unfold tornT; omega
                have hE := Lib.hid (show (strs (wnt l s keep (tornT torn) i)).setIfInBounds kk (.string (strOfNums ((rowN ((i : Int) + 1)).take tt ++ wk.drop tt))) = strs (wnt l s keep (tornT torn) (i + 1)) by
                  rw [strs_set, wnt, if_neg cA, if_pos cC, hkk.out, List.getD_eq_getElem?_getD, HN.out.2.1, Option.getD_some, htt])
                have hs1 := rowB_size ((i : Int) + 1)
                have hs2 : (strOfNums wk).size = 64 := by rw [strOfNums_size]; exact hwkl
                have HC := Lib.hid cC
                clear cA cC htt
                have hX := torn_text (rowN ((i : Int) + 1)) wk tt hwkl
                have hX := Lib.hid hX
                clear hwkl
                have w7 : IntKind.i64.wrap ((i : Int) + 1) = (i : Int) + 1 := by rw [IntKind.wrap_i64]; omega
                by_cases cK : keep < 0
                have dC : ((i : Int) - (s : Int) == 0) = true := by have := HC.out; simp; omega
                rotate_left
                have dC : ((i : Int) - (s : Int) == keep) = true := by have := HC.out; simp; omega
                all_goals
                  go_upto_region 22 with fail
                  rw [e2.out]
                  generalize (if torn < 0 then (0 : Int) else torn) = zt
                  have hh := HS.out.at List.mem_cons_self
                  have c1 := (cell_of_row w3 nb kk _ _ _ hh).trans (strs_get HN.out.2.1)
                  have z1 := frozen_of_row w3 nb kk _ _ hh
                  have hst := HS.out.drew
                  clear hh HS
                  have HS := Lib.hid hst
                  clear hst
                  have t0 : (0 : Int) ≤ (tt : Int) := by omega
                  have t1 : (tt : Int) ≤ 64 := by omega
                  go_region_with (go_at_call 11; refine (s_rowB HS.out _).mono ?_; rintro e w4 ⟨rfl, hs⟩; have hh := hs.at List.mem_cons_self; have c2 := (cell_of_row w4 nb kk _ _ _ hh).trans (strs_get HN.out.2.1); have z2 := frozen_of_row w4 nb kk _ _ hh; have HS4 := Lib.hid hs; clear hs hh)
                  all_goals
                    go_wp2_with fail
                    have hF := HS4.out.set HN.out.1 (by simp) kk (.string ((rowB ((i : Int) + 1)).extract 0 tt ++ (strOfNums wk).extract tt 64))
                    rw [show (rowB ((i : Int) + 1)).extract 0 tt ++ (strOfNums wk).extract tt 64 = strOfNums ((rowN ((i : Int) + 1)).take tt ++ wk.drop tt) from hX.out] at hF ⊢
                    rw [hE.out] at hF
                    refine ⟨?_, by have := hi1.out; simp [intOf]; omega⟩
                    first | exact ⟨i + 1, hi1.out, by simp, hF⟩ | ((repeat (apply Exists.intro)); exact ⟨⟨i + 1, hi1.out, by simp, hF⟩, rfl⟩)
              · have hE := Lib.hid (show strs (wnt l s keep (tornT torn) i) = strs (wnt l s keep (tornT torn) (i + 1)) by
                  rw [wnt, if_neg cA, if_neg cC])
                have HC := Lib.hid cC
                clear cA cC
                by_cases cK : keep < 0
                have dC : ((i : Int) - (s : Int) == 0) = false := by have := HC.out; simp; omega
                rotate_left
                have dC : ((i : Int) - (s : Int) == keep) = false := by have := HC.out; simp; omega
                all_goals
                  go_wp2_with fail
                  have hF := HS.out
                  rw [hE.out] at hF
                  refine ⟨?_, by have := hi1.out; simp [intOf]; omega⟩
                  first | exact ⟨i + 1, hi1.out, by simp, hF⟩ | ((repeat (apply Exists.intro)); exact ⟨⟨i + 1, hi1.out, by simp, hF⟩, rfl⟩)
        · obtain rfl : i = l.length := by omega
          have d5 : decide (l.length < l.length) = false := by simp
          have hsl := HR.out.2.2
          have kc : ∀ w4, St w w4 p (stS l s l.length) [(nb, .cells (strs (wnt l s keep (tornT torn) l.length)) 28 (0, 0))] → Calls Try.prog 14 #[.pointer (some ⟨p, 0, none⟩), .int .i64 keep, .int .i64 torn] w4 fun e w' => e = .returned (.tuple #[]) ∧ St w w' p { newD 8 with secs := wnt l s keep (tornT torn) l.length, q := [], on := false, writes := l.length } [(nb, .cells (strs (wnt l s keep (tornT torn) l.length)) 28 (0, 0))] := fun w4 h => by
            have := s_Crash h keep torn
            rw [st_crash l s l.length hsl] at this
            exact this
          have kt : ∀ w4, St w w4 p { newD 8 with secs := wnt l s keep (tornT torn) l.length, q := [], on := false, writes := l.length } [(nb, .cells (strs (wnt l s keep (tornT torn) l.length)) 28 (0, 0))] → Calls Try.prog 15 #[.pointer (some ⟨p, 0, none⟩)] w4 fun e w' => e = .returned (.tuple #[]) ∧ St w w' p (endD l s l.length keep torn) [(nb, .cells (strs (wnt l s keep (tornT torn) l.length)) 28 (0, 0))] := fun w4 h => s_Restore h
          replace kc := Lib.hid kc
          replace kt := Lib.hid kt
          have HN := Lib.hid HS.out.2
          clear HS hsl
          by_cases hsm : s = l.length
          have d6 : ((s : Int) == (l.length : Int)) = true := by simp [hsm]
          have k3 : Calls Try.prog 12 #[.pointer (some ⟨p, 0, none⟩)] wr fun e w' => e = .returned (.int .i64 0) ∧ St w w' p (stS l s l.length) [(nb, .cells (strs (wnt l s keep (tornT torn) l.length)) 28 (0, 0))] := by
            have hsy := stD_sync l s
            rw [← hsm] at hst hlen ⊢
            have := s_Sync hst ⟨by omega, by omega, by omega, by omega⟩
            rw [hsy.1, hsy.2.1] at this
            exact this
          replace k3 := Lib.hid k3
          clear hst hsm
          go_wp2_with (first
            | (go_at_call 12; refine k3.out.mono ?_; rintro e w3 ⟨rfl, hs⟩; have HS := Lib.hid hs; clear hs)
            | (go_at_call 14; refine (kc.out _ HS.out).mono ?_; rintro e w3 ⟨rfl, hs⟩; clear HS; have HS := Lib.hid hs; clear hs)
            | (go_at_call 15; refine (kt.out _ HS.out).mono ?_; rintro e w3 ⟨rfl, hs⟩; clear HS; have HS := Lib.hid hs; clear hs))
          clear k3
          rotate_left
          have d6 : ((s : Int) == (l.length : Int)) = false := by simp [hsm]; omega
          rw [stD_eq (fun e => hsm e.symm)] at hst
          have HS := Lib.hid hst
          clear hst hsm
          go_wp2_with (first
            | (go_at_call 14; refine (kc.out _ HS.out).mono ?_; rintro e w3 ⟨rfl, hs⟩; clear HS; have HS := Lib.hid hs; clear hs)
            | (go_at_call 15; refine (kt.out _ HS.out).mono ?_; rintro e w3 ⟨rfl, hs⟩; clear HS; have HS := Lib.hid hs; clear hs))
          all_goals
            go_loopw [17] (fun v wr => ∃ k : Nat, k ≤ 8 ∧ v = .int .i64 k ∧ St w wr p (endD l s l.length keep torn) [(nb, .cells (strs (wnt l s keep (tornT torn) l.length)) 28 (0, 0))]) (fun v _ => 8 - (intOf v).toNat)
            case atStart => exact ⟨0, Nat.zero_le _, rfl, HS.out⟩
            case round =>
              clear HS
              obtain ⟨k, hk, rfl, hst⟩ := hrel
              by_cases hk8 : k < 8
              · have d7 : decide ((k : Int) < 8) = true := by simp; omega
                have hk1 : Hid (k + 1 ≤ 8) := Lib.hid (by omega)
                have j1 : (0 : Int) ≤ (k : Int) := by omega
                have j2 : (k : Int) < 8 := by omega
                obtain ⟨wk, hwk⟩ : ∃ wk, (wnt l s keep (tornT torn) l.length)[k]? = some wk := ⟨_, List.getElem?_eq_getElem (by rw [wnt_length]; exact hk8)⟩
                have kr := s_Read hst k
                rw [(end_read l s l.length keep torn k hk8).1, (end_read l s l.length keep torn k hk8).2, List.getD_eq_getElem?_getD, hwk, Option.getD_some] at kr
                replace kr := Lib.hid kr
                have hg := Lib.hid (strs_get hwk)
                clear hst hwk hk8
                go_wp2_with (go_at_call 16; refine kr.out.mono ?_; rintro e w3 ⟨rfl, hs⟩; have hh := hs.at List.mem_cons_self; have c1 := (cell_of_row w3 nb k _ _ _ hh).trans hg.out; have HS3 := Lib.hid hs; clear hs hh)
                exact ⟨⟨k + 1, hk1.out, by simp, HS3.out⟩, by have := hk1.out; simp [intOf]; omega⟩
              · obtain rfl : k = 8 := by omega
                have d7 : decide (((8 : Nat) : Int) < 8) = false := by simp
                have HS := Lib.hid hst
                have e0 : (endD l s l.length keep torn).q.length = 0 := rfl
                have kq : ∀ w4, St w w4 p (endD l s l.length keep torn) [(nb, .cells (strs (wnt l s keep (tornT torn) l.length)) 28 (0, 0))] → Calls Try.prog 17 #[.pointer (some ⟨p, 0, none⟩)] w4 fun e w' => e = .returned (.int .i64 0) ∧ w4 = w' := fun w4 h => by
                  have := s_Queue h
                  rw [e0] at this
                  exact this
                replace kq := Lib.hid kq
                clear hst e0
                go_wp2_with (first
                  | (go_at_call 9; refine (s_alive HS.out).mono ?_; rintro e w3 ⟨rfl, hs⟩; clear HS; have HS := Lib.hid hs; clear hs)
                  | (go_at_call 17; refine (kq.out _ HS.out).mono ?_; rintro e w3 ⟨rfl, hw⟩; subst hw))
                go_ret
                exact ⟨rfl, HS.out.below⟩
theorem walk_DiskSynced (w : World) (a : Option Addr) (len cap : Nat) (zs : List Int) (synced keep torn : Int)
    (hrow : (a = none ∧ len = 0 ∧ cap = 0 ∧ zs = []) ∨ ∃ x, a = some x ∧ len ≤ cap ∧ cap ≤ maxLen ∧ zs.length = cap ∧ (∀ i, i < zs.length → w.cell? (x.add i) = some (.int .i64 (zs.getD i 0))) ∧ ∀ n ∈ zs, (Lit.int .i64 n).wf = true)
    (hy : len * 8 ≤ 140737488351232) (h1 : -9223372036854775808 ≤ synced ∧ synced ≤ 9223372036854775807) (h2 : -9223372036854775808 ≤ keep ∧ keep ≤ 9223372036854775807) (h3 : -9223372036854775808 ≤ torn ∧ torn ≤ 9223372036854775807) :
    Calls Try.prog 3 #[.slice a len cap, .int .i64 synced, .int .i64 keep, .int .i64 torn] w fun e w' => e = .returned (.bool true) ∧ Below w.heap.size w w' := by
  obtain ⟨l, rfl, hr, hm, hw, hc⟩ := ReadsInt.ofRowC hrow
  by_cases h : 60 < l.length ∨ synced < 0 ∨ (l.length : Int) < synced
  · exact walk_DiskSynced_no a l.length cap synced keep torn w h
  · obtain ⟨s, rfl⟩ := Int.eq_ofNat_of_zero_le (show 0 ≤ synced by omega)
    exact walk_DiskSynced_yes a cap l s keep torn w hr (by omega) hc (by omega) (fun x hx => by simpa [Lit.wf, IntKind.min, IntKind.max, IntKind.signed, IntKind.bits] using hw x hx) h2 h3
end Go.Proofs.YtcbaflnmfiofeaaDk
