/-
  chancerylaw10: DiskSynced, the plain law: what is wanted is what is read. Condition: none.
-/
import Derived.Test.YtcbaflnmfiofeaaDkP
namespace Go.Proofs.YtcbaflnmfiofeaaDk
open Go.RowKit Go.Maps Go.Proofs.YtcbaflnmfiofeaaKp Go.Proofs.YtcbaflnmfiofeaaCm
set_option linter.unusedVariables false
set_option linter.unusedSimpArgs false
def ent (l : List Int) (j : Nat) : Int × List Int := (l.getD j 0 % 8, rowN ((j : Int) + 1))
def syQ (l : List Int) (i : Nat) : List (Int × List Int) := (List.range i).map (ent l)
theorem syQ_length (l : List Int) (i : Nat) : (syQ l i).length = i := by simp [syQ]
theorem syQ_succ (l : List Int) (i : Nat) : syQ l (i + 1) = syQ l i ++ [ent l i] := by simp [syQ, List.range_succ]
theorem syQ_get (l : List Int) {i j : Nat} (h : j < i) : (syQ l i)[j]? = some (ent l j) := by
  rw [syQ, List.getElem?_map, List.getElem?_range h]
  rfl
def sy0 (l : List Int) (s : Nat) : List (List Int) := layK (List.replicate 8 zsec) (syQ l s) s
theorem sy0_length (l : List Int) (s : Nat) : (sy0 l s).length = 8 := by rw [sy0, layK_length, List.length_replicate]
/-- ahead of the i-th write, and of the sync -/
def stD (l : List Int) (s i : Nat) : Dm := if i ≤ s then { newD 8 with q := syQ l i, writes := i } else { newD 8 with secs := sy0 l s, q := (syQ l i).drop s, writes := i }
/-- behind the sync -/
def stS (l : List Int) (s i : Nat) : Dm := if i < s then { newD 8 with q := syQ l i, writes := i } else { newD 8 with secs := sy0 l s, q := (syQ l i).drop s, writes := i }
theorem stS_is (l : List Int) (s i : Nat) : (stS l s i).on = true ∧ (stS l s i).secs.length = 8 ∧ (stS l s i).room = -1 ∧ (stS l s i).fset = false ∧ (stS l s i).fn = 0 ∧ (stS l s i).writes = i ∧ (stS l s i).q.length ≤ i := by
  unfold stS
  split
  · exact ⟨rfl, rfl, rfl, rfl, rfl, rfl, by rw [syQ_length]; exact Nat.le_refl _⟩
  · exact ⟨rfl, sy0_length l s, rfl, rfl, rfl, rfl, by simp [syQ_length]⟩
theorem stD_eq {l : List Int} {s i : Nat} (h : i ≠ s) : stD l s i = stS l s i := by
  unfold stD stS
  by_cases h1 : i < s
  · rw [if_pos h1, if_pos (by omega)]
  · rw [if_neg h1, if_neg (by omega)]
theorem stD_sync (l : List Int) (s : Nat) : syncE (stD l s s) = 0 ∧ syncD (stD l s s) = stS l s s ∧ (stD l s s).q.length = s ∧ (stD l s s).fset = false ∧ (stD l s s).room = -1 ∧ (stD l s s).fn = 0 := by
  have e : stD l s s = { newD 8 with q := syQ l s, writes := s } := by unfold stD; rw [if_pos (Nat.le_refl _)]
  rw [e]
  refine ⟨rfl, ?_, syQ_length l s, rfl, rfl, rfl⟩
  unfold syncD stS
  rw [if_neg (by simp [newD]), if_neg (by simp [newD]), if_neg (Nat.lt_irrefl _), List.drop_of_length_le (by rw [syQ_length]; exact Nat.le_refl _)]
  simp only [syQ_length]
  rfl
theorem st_ask (l : List Int) (s i : Nat) (a : Int) (h : 0 ≤ a ∧ a < 8) : askS (stS l s i) a = 0 := by
  obtain ⟨h1, h2, _⟩ := stS_is l s i
  unfold askS
  rw [if_neg (by simp [h1]), if_neg (by rw [h2]; omega)]
theorem st_ok (l : List Int) (s i : Nat) (h : i ≤ 60) : DOk (stS l s i) := by
  obtain ⟨h1, h2, h3, h4, h5, h6, h7⟩ := stS_is l s i
  exact ⟨by omega, by omega, by omega, by omega⟩
theorem st_write (l : List Int) (s i : Nat) (h : i < 60) : writeE (stS l s i) (l.getD i 0 % 8) (rowB ((i : Int) + 1)) = 0 ∧ writeD (stS l s i) (l.getD i 0 % 8) (rowB ((i : Int) + 1)) = stD l s (i + 1) := by
  obtain ⟨h1, h2, h3, h4, h5, h6, h7⟩ := stS_is l s i
  have ha := st_ask l s i (l.getD i 0 % 8) (by omega)
  have r1 : ¬ (stS l s i).room = 0 := by omega
  have r2 : ¬ ((stS l s i).fset = true ∧ (stS l s i).fn ≤ 0) := by simp [h4]
  unfold writeE writeD
  rw [if_neg (fun e => e ha), if_neg (fun e => e (rowB_size _)), if_neg r1, if_neg r2, if_neg (fun e => e ha), if_neg (fun e => e (rowB_size _)), if_neg r1, if_neg r2, rowB_bts]
  refine ⟨rfl, ?_⟩
  unfold writeS takenS
  have e2 : wrap64 ((stS l s i).writes + 1) = ((i + 1 : Nat) : Int) := by rw [h6, wrap_small (by omega)]; omega
  have e3 : (((l.getD i 0 % 8).toNat : Nat) : Int) = l.getD i 0 % 8 := by omega
  simp only [e2, e3]
  rw [if_neg (by rw [h3]; omega), if_neg (by simp [h4])]
  have e4 : ((l.getD i 0 % 8, rowN ((i : Int) + 1)) : Int × List Int) = ent l i := rfl
  rw [e4]
  unfold stS stD
  by_cases c : i < s
  · rw [if_pos c, if_pos (by omega)]
    simp only [syQ_succ]
  · rw [if_neg c, if_neg (by omega)]
    simp only [syQ_succ]
    rw [List.drop_append_of_le_length (by rw [syQ_length]; omega)]
/-- what is wanted -/
def wnt (l : List Int) (s : Nat) (keep : Int) (t : Nat) : Nat → List (List Int)
  | 0 => List.replicate 8 zsec
  | i + 1 =>
    if (i : Int) < s ∨ (i : Int) - s < keep then (wnt l s keep t i).set (ent l i).1.toNat (rowN ((i : Int) + 1))
    else if (i : Int) - s = max keep 0 then (wnt l s keep t i).set (ent l i).1.toNat ((rowN ((i : Int) + 1)).take t ++ ((wnt l s keep t i).getD (ent l i).1.toNat []).drop t)
    else wnt l s keep t i
theorem wnt_length (l : List Int) (s : Nat) (keep : Int) (t : Nat) : ∀ i, (wnt l s keep t i).length = 8
  | 0 => by rfl
  | i + 1 => by
    unfold wnt
    split
    · rw [List.length_set, wnt_length]
    · split
      · rw [List.length_set, wnt_length]
      · exact wnt_length l s keep t i
theorem wnt_each (l : List Int) (s : Nat) (keep : Int) (t : Nat) (ht : t ≤ 64) : ∀ i, ∀ x ∈ wnt l s keep t i, x.length = 64
  | 0, x, hx => by rw [List.eq_of_mem_replicate hx]; rfl
  | i + 1, x, hx => by
    have ih := wnt_each l s keep t ht i
    have hr : (rowN ((i : Int) + 1)).length = 64 := by simp [rowN]
    unfold wnt at hx
    split at hx
    · rcases List.mem_or_eq_of_mem_set hx with hx | rfl
      · exact ih x hx
      · exact hr
    · split at hx
      · rcases List.mem_or_eq_of_mem_set hx with hx | rfl
        · exact ih x hx
        · have hk : (ent l i).1.toNat < (wnt l s keep t i).length := by rw [wnt_length]; simp only [ent]; omega
          have := ih _ (List.getElem_mem hk)
          rw [List.length_append, List.length_take, List.length_drop, hr, List.getD_eq_getElem?_getD, List.getElem?_eq_getElem hk, Option.getD_some, this]
          omega
      · exact ih x hx
theorem layK_take (secs : List (List Int)) (q : List (Int × List Int)) {k j : Nat} (h : k ≤ j) : layK secs (q.take j) k = layK secs q k := by
  unfold layK
  rw [List.take_take, Nat.min_eq_left h]
/-- up to the sync -/
theorem wnt_lay (l : List Int) (s : Nat) (keep : Int) (t : Nat) : ∀ i, i ≤ s → wnt l s keep t i = layK (List.replicate 8 zsec) (syQ l s) i
  | 0, _ => by rfl
  | i + 1, h => by
    unfold wnt
    rw [if_pos (.inl (by omega)), wnt_lay l s keep t i (by omega), layK_succ (syQ_get l (show i < s by omega))]
    rfl
theorem drop_get (l : List Int) {s i j : Nat} (h : s + j < i) : ((syQ l i).drop s)[j]? = some (ent l (s + j)) := by
  rw [List.getElem?_drop, syQ_get l h]
/-- behind it -/
theorem wnt_crash (l : List Int) (s m : Nat) (keep : Int) (t : Nat) : ∀ j, s + j ≤ m → wnt l s keep t (s + j) =
    (if (min (max keep 0) (j : Int)).toNat < j then tornS (layK (sy0 l s) ((syQ l m).drop s) (min (max keep 0) (j : Int)).toNat) (ent l (s + (min (max keep 0) (j : Int)).toNat)) t
      else layK (sy0 l s) ((syQ l m).drop s) (min (max keep 0) (j : Int)).toNat)
  | 0, h => by
    have e : (min (max keep 0) ((0 : Nat) : Int)).toNat = 0 := by omega
    rw [e, if_neg (by omega)]
    have := wnt_lay l s keep t s (Nat.le_refl _)
    exact this
  | j + 1, h => by
    have ih := wnt_crash l s m keep t j (by omega)
    have hg : ((syQ l m).drop s)[j]? = some (ent l (s + j)) := drop_get l (by omega)
    show wnt l s keep t ((s + j) + 1) = _
    unfold wnt
    by_cases c1 : (j : Int) < keep
    · have e1 : (min (max keep 0) (j : Int)).toNat = j := by omega
      have e2 : (min (max keep 0) ((j + 1 : Nat) : Int)).toNat = j + 1 := by omega
      rw [if_pos (.inr (by omega)), ih, e1, e2, if_neg (by omega), if_neg (by omega), layK_succ hg]
      rfl
    · rw [if_neg (by omega)]
      by_cases c2 : (j : Int) = max keep 0
      · have e1 : (min (max keep 0) (j : Int)).toNat = j := by omega
        have e2 : (min (max keep 0) ((j + 1 : Nat) : Int)).toNat = j := by omega
        rw [if_pos (by omega), ih, e1, e2, if_neg (by omega), if_pos (by omega)]
        rfl
      · have e1 : (min (max keep 0) (j : Int)).toNat = (max keep 0).toNat := by omega
        have e2 : (min (max keep 0) ((j + 1 : Nat) : Int)).toNat = (max keep 0).toNat := by omega
        rw [if_neg (by omega), ih, e1, e2, if_pos (by omega), if_pos (by omega)]
theorem st_crash (l : List Int) (s m : Nat) (hs : s ≤ m) (keep torn : Int) : crashS (stS l s m) keep torn = { newD 8 with secs := wnt l s keep (tornT torn) m, q := [], on := false, writes := m } := by
  have e : stS l s m = { newD 8 with secs := sy0 l s, q := (syQ l m).drop s, writes := m } := by unfold stS; rw [if_neg (by omega)]
  have hc : crashSecs (stS l s m) (keepS (stS l s m) keep) (tornT torn) = wnt l s keep (tornT torn) m := by
    obtain ⟨j, rfl⟩ : ∃ j, m = s + j := ⟨m - s, by omega⟩
    rw [wnt_crash l s (s + j) keep (tornT torn) j (Nat.le_refl _)]
    have hl : ((syQ l (s + j)).drop s).length = j := by rw [List.length_drop, syQ_length]; omega
    have hk : keepS (stS l s (s + j)) keep = (min (max keep 0) (j : Int)).toNat := by rw [e]; simp only [keepS, hl]
    rw [hk, e]
    unfold crashSecs
    simp only
    by_cases c : (min (max keep 0) (j : Int)).toNat < j
    · rw [if_pos c, drop_get l (by omega)]
    · rw [if_neg c, List.getElem?_eq_none (by omega)]
  unfold crashS
  rw [if_pos (stS_is l s m).1, hc, e]
/-- what is read in the end -/
def endD (l : List Int) (s m : Nat) (keep torn : Int) : Dm := { newD 8 with secs := wnt l s keep (tornT torn) m, q := [], writes := m }
theorem end_read (l : List Int) (s m : Nat) (keep torn : Int) (i : Nat) (hi : i < 8) : readE (endD l s m keep torn) i = 0 ∧ readS (endD l s m keep torn) i = strOfNums ((wnt l s keep (tornT torn) m).getD i []) := by
  have ha : askS (endD l s m keep torn) i = 0 := by
    unfold askS
    rw [if_neg (by simp [endD, newD]), if_neg (by simp only [endD, wnt_length]; omega)]
  refine ⟨ha, ?_⟩
  unfold readS
  rw [if_neg (fun e => e ha), Int.toNat_natCast]
  rfl
end Go.Proofs.YtcbaflnmfiofeaaDk
