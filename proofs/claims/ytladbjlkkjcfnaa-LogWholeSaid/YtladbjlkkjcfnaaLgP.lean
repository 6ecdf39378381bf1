/-
  LogWhole, plain: the pieces of records, and what a scan of them finds. LogWhole, plain: a piece's sector is read back; a sector with another last byte is none. LogWhole, plain: what a scan of pieces finds. LogWhole, plain: what a crash leaves in the sectors. LogWhole, plain: sectors of an elder generation, a torn sector. LogWhole, plain: the law of a crash. LogWhole, plain: the law of a crash, whole. LogWhole, plain: the state of the disk while the law runs: Append. LogWhole, plain: Append, Sync, Reset on the law's disk. LogWhole, plain: what Open tells of a disk without a queue. Condition: none; generations below 256; generations below 256, a log of 30 places from sector 3; generations below 255, a log of 30 places from sector 3; a log of 30 places from sector 3.
-/
import Derived.Test.YtladbjlkkjcfnaaLgJ
namespace Go.Proofs.YtladbjlkkjcfnaaLg
open Go.RowKit Go.Proofs.YtladbjlkkjcfnaaW.PrintWords Go.Proofs.YtladbjlkkjcfnaaW.PrintMore Go.Proofs.Ytladbjlkkjcfnaa.PU Go.Proofs.YtladbjlkkjcfnaaOc Go.Proofs.YtladbjlkkjcfnaaKp Go.Proofs.YtladbjlkkjcfnaaCm Go.Proofs.YtladbjlkkjcfnaaDk
set_option linter.unusedVariables false
set_option linter.unusedSimpArgs false
/-- the pieces with their kinds -/
def kinds : List ByteArray → List (ByteArray × Int)
  | [] => []
  | [s] => [(s, 2)]
  | s :: t :: r => (s, 1) :: kinds (t :: r)
theorem kinds_length : ∀ l : List ByteArray, (kinds l).length = l.length
  | [] => rfl
  | [s] => rfl
  | s :: t :: r => by
    show (kinds (t :: r)).length + 1 = _
    rw [kinds_length (t :: r)]
    rfl
def pk (r : ByteArray) : List (ByteArray × Int) := kinds (pcs r)
/-- one piece more: the record begun, the records -/
def stp (a : ByteArray × List ByteArray) (x : ByteArray × Int) : ByteArray × List ByteArray := if x.2 = 2 then (ByteArray.empty, a.2 ++ [a.1 ++ x.1]) else (a.1 ++ x.1, a.2)
theorem fold_kinds : ∀ (k : Nat) (s cur : ByteArray) (recs : List ByteArray), s.size ≤ 48 * k + 48 → (kinds (pcsK k s)).foldl stp (cur, recs) = (ByteArray.empty, recs ++ [cur ++ s])
  | 0, s, cur, recs, h => rfl
  | k + 1, s, cur, recs, h => by
    unfold pcsK
    by_cases h1 : 48 < s.size
    · rw [if_pos h1]
      have hne : ∃ t r, pcsK k (s.extract 48 s.size) = t :: r := by
        cases k with
        | zero => exact ⟨_, _, rfl⟩
        | succ k =>
          unfold pcsK
          split
          · exact ⟨_, _, rfl⟩
          · exact ⟨_, _, rfl⟩
      obtain ⟨t, r, e⟩ := hne
      have ih := fold_kinds k (s.extract 48 s.size) (cur ++ s.extract 0 48) recs (by rw [ByteArray.size_extract]; omega)
      rw [e] at ih ⊢
      show (kinds (t :: r)).foldl stp (stp (cur, recs) (s.extract 0 48, 1)) = _
      show (kinds (t :: r)).foldl stp (cur ++ s.extract 0 48, recs) = _
      rw [ih, ByteArray.append_assoc]
      have es : s.extract 0 48 ++ s.extract 48 s.size = s := by
        rw [ByteArray.extract_append_extract, Nat.min_eq_left (Nat.zero_le _), Nat.max_eq_right (by omega), ByteArray.extract_zero_size]
      rw [es]
    · rw [if_neg h1]
      rfl
theorem fold_pk (r cur : ByteArray) (recs : List ByteArray) : (pk r).foldl stp (cur, recs) = (ByteArray.empty, recs ++ [cur ++ r]) := fold_kinds _ r cur recs (by omega)
/-- part of a record's pieces: no record more -/
theorem fold_part : ∀ (l : List ByteArray) (m : Nat) (cur : ByteArray) (recs : List ByteArray), m < l.length → (((kinds l).take m).foldl stp (cur, recs)).2 = recs
  | [], m, cur, recs, h => by cases h
  | [s], 0, cur, recs, h => rfl
  | [s], m + 1, cur, recs, h => by simp at h
  | s :: t :: r, 0, cur, recs, h => rfl
  | s :: t :: r, m + 1, cur, recs, h => by
    show ((kinds (t :: r)).take m |>.foldl stp (stp (cur, recs) (s, 1))).2 = recs
    exact fold_part (t :: r) m (cur ++ s) recs (by simpa using h)
/-- m pieces of records: the first c of them are found -/
theorem fold_recs : ∀ (R : List ByteArray) (m : Nat) (acc : List ByteArray), m ≤ (R.flatMap pk).length → ∃ c, c ≤ R.length ∧ (((R.flatMap pk).take m).foldl stp (ByteArray.empty, acc)).2 = acc ++ R.take c ∧
    (∀ j, j ≤ R.length → ((R.take j).flatMap pk).length ≤ m → j ≤ c)
  | [], m, acc, h => ⟨0, Nat.le_refl _, by simp, fun j hj _ => hj⟩
  | r :: R, m, acc, h => by
    by_cases hm : (pk r).length ≤ m
    · obtain ⟨c, hc, he, hj⟩ := fold_recs R (m - (pk r).length) (acc ++ [r]) (by rw [List.flatMap_cons, List.length_append] at h; omega)
      refine ⟨c + 1, by simpa using hc, ?_, fun j hjl hjm => ?_⟩
      · rw [List.flatMap_cons, List.take_append, List.take_of_length_le hm, List.foldl_append, fold_pk, ByteArray.empty_append, he]
        simp
      · cases j with
        | zero => omega
        | succ j =>
          have := hj j (by simpa using hjl) (by rw [List.take_succ_cons, List.flatMap_cons, List.length_append] at hjm; omega)
          omega
    · refine ⟨0, Nat.zero_le _, ?_, fun j hjl hjm => ?_⟩
      · have hl : m < (pcs r).length := by have := kinds_length (pcs r); unfold pk at hm; omega
        rw [List.flatMap_cons, List.take_append_of_le_length (by omega), pk, fold_part (pcs r) m _ _ hl]
        simp
      · cases j with
        | zero => exact Nat.le_refl _
        | succ j =>
          rw [List.take_succ_cons, List.flatMap_cons, List.length_append] at hjm
          omega
end Go.Proofs.YtladbjlkkjcfnaaLg
namespace Go.Proofs.YtladbjlkkjcfnaaLg
open Go.RowKit Go.Proofs.YtladbjlkkjcfnaaW.PrintWords Go.Proofs.YtladbjlkkjcfnaaW.PrintMore Go.Proofs.Ytladbjlkkjcfnaa.PU Go.Proofs.YtladbjlkkjcfnaaOc Go.Proofs.YtladbjlkkjcfnaaKp Go.Proofs.YtladbjlkkjcfnaaCm Go.Proofs.YtladbjlkkjcfnaaDk
set_option linter.unusedVariables false
set_option linter.unusedSimpArgs false
theorem bts_append (x y : ByteArray) : bts (x ++ y) = bts x ++ bts y := by
  unfold bts
  rw [ByteArray.data_append, Array.toList_append, List.map_append]
theorem bts_extract (x : ByteArray) (a b : Nat) : bts (x.extract a b) = ((bts x).drop a).take (b - a) := by
  unfold bts
  rw [ByteArray.data_extract, Array.toList_extract, List.extract_eq_take_drop, List.map_take, List.map_drop]
theorem bts_inj {x y : ByteArray} (h : bts x = bts y) : x = y := by rw [← strOfNums_bts x, h, strOfNums_bts]
theorem beL_rng (n : Nat) (v : Int) : ∀ x ∈ beL n v, 0 ≤ x ∧ x ≤ 255 := fun x hx => by have := beL_mem n v x hx; omega
theorem bts_zeros (k : Nat) : bts (zeros k) = List.replicate k 0 := by
  unfold bts zeros
  simp
/-- the numbers of a piece's sector -/
def frm (s : List Int) (kind gen place : Int) : List Int := beL 4 gen ++ (beL 2 s.length ++ ([kind, 0] ++ (s ++ (List.replicate (48 - s.length) 0 ++ (beL 4 place ++ beL 4 gen)))))
theorem bts_form (s : ByteArray) (kind gen place : Int) (hs : s.size ≤ 48) (hk : 0 ≤ kind ∧ kind ≤ 255) (hg : 0 ≤ gen ∧ gen ≤ 4294967295) (hp : 0 ≤ place ∧ place ≤ 4294967295) : bts (formS s kind gen place) = frm (bts s) kind gen place := by
  rw [formS_eq s kind gen place hs hg hp]
  simp only [bts_append, bts_zeros]
  rw [bts_strOfNums _ (beL_rng 4 gen), bts_strOfNums _ (beL_rng 2 _), bts_strOfNums _ (beL_rng 4 place), bts_strOfNums [kind, 0] (by intro x hx; simp at hx; omega), frm, bts_length]
  simp only [List.append_assoc]
theorem bt_bts (b : ByteArray) (i : Nat) (h : i < b.size) : (bts b)[i]? = some (bt b i) := by
  unfold bts bt
  rw [dif_pos (by rw [Int.toNat_natCast]; exact h), List.getElem?_map, Array.getElem?_toList]
  simp [h]
  rfl
theorem frm_drop4 (s : List Int) (kind gen place : Int) : (frm s kind gen place).drop 4 = beL 2 s.length ++ ([kind, 0] ++ (s ++ (List.replicate (48 - s.length) 0 ++ (beL 4 place ++ beL 4 gen)))) := by
  unfold frm
  rw [List.drop_append_of_le_length (by rw [beL_length]; omega), List.drop_of_length_le (by rw [beL_length]; omega), List.nil_append]
theorem frm_drop8 (s : List Int) (kind gen place : Int) : (frm s kind gen place).drop 8 = s ++ (List.replicate (48 - s.length) 0 ++ (beL 4 place ++ beL 4 gen)) := by
  have h : (frm s kind gen place).drop 8 = ((frm s kind gen place).drop 4).drop 4 := by rw [List.drop_drop]
  rw [h, frm_drop4]
  generalize s ++ (List.replicate (48 - s.length) 0 ++ (beL 4 place ++ beL 4 gen)) = T
  rfl
theorem get_of_bts (q : ByteArray) (l : List Int) (hq : bts q = l) (h1 : 1 ≤ l.length) (h7 : l.length ≤ 7) : (getS q).1 = valL 0 l := by
  have hs : q.size = l.length := by rw [← hq, bts_length]
  unfold getS
  rw [if_neg (by omega), show bys q = bts q from rfl, hq]
theorem frm_6 (s : List Int) (kind gen place : Int) : (frm s kind gen place)[6]? = some kind := by
  have h := frm_drop4 s kind gen place
  have : ((frm s kind gen place).drop 4)[2]? = some kind := by
    rw [h, List.getElem?_append_right (by rw [beL_length]; omega), beL_length]
    rfl
  rw [List.getElem?_drop] at this
  exact this
theorem val_beL2 (n : Nat) (h : n ≤ 48) : valL 0 (beL 2 (n : Int)) = n := by
  simp only [beL, valL, List.foldl]
  omega
theorem read_form (s : ByteArray) (kind gen place : Int) (hs : s.size ≤ 48) (hk : kind = 2 ∨ kind = 1 ∧ s.size = 48) (hg : 0 ≤ gen ∧ gen ≤ 4294967295) (hp : 0 ≤ place ∧ place ≤ 4294967295) : readPc (formS s kind gen place) gen place = (s, kind, true) := by
  have hb := bts_form s kind gen place hs (by omega) hg hp
  have hsz := formS_size s kind gen place hs hg hp
  have hl : (bts s).length = s.size := bts_length s
  have h46 : (getS ((formS s kind gen place).extract 4 6)).1 = s.size := by
    have he : bts ((formS s kind gen place).extract 4 6) = beL 2 s.size := by
      rw [bts_extract, hb, frm_drop4, hl]
      rw [List.take_append_of_le_length (by rw [beL_length]; omega), List.take_of_length_le (by rw [beL_length]; omega)]
    rw [get_of_bts _ _ he (by rw [beL_length]; omega) (by rw [beL_length]; omega), val_beL2 _ hs]
  have h6 : bt (formS s kind gen place) 6 = kind := by
    have h := bt_bts (formS s kind gen place) 6 (by omega)
    rw [hb, frm_6] at h
    exact (Option.some.inj h).symm
  have h8 : (formS s kind gen place).extract 8 (8 + s.size) = s := by
    apply bts_inj
    rw [bts_extract, hb, frm_drop8, show 8 + s.size - 8 = s.size by omega, List.take_append_of_le_length (by omega), List.take_of_length_le (by omega)]
  generalize hF : formS s kind gen place = F at *
  unfold readPc
  dsimp only
  rw [h46, h6, if_neg (by omega), Int.toNat_natCast, h8, hF]
  simp
/-- the last byte tells -/
theorem read_other (b : ByteArray) (gen place : Int) (hb : b.size = 64) (hg : 0 ≤ gen ∧ gen ≤ 4294967295) (hp : 0 ≤ place ∧ place ≤ 4294967295) (h : bt b 63 ≠ gen % 256) : (readPc b gen place).2.2 = false := by
  have h0 := getS_range (b.extract 4 6)
  unfold readPc
  dsimp only
  split
  · rfl
  · rename_i hn
    simp only [decide_eq_false_iff_not]
    intro he
    have hs : (b.extract 8 (8 + (getS (b.extract 4 6)).1.toNat)).size ≤ 48 := by rw [ByteArray.size_extract]; omega
    have hk := Go.Proofs.YtladbjlkkjcfnaaOc.bt_range b 6
    have hbt := bts_form (b.extract 8 (8 + (getS (b.extract 4 6)).1.toNat)) (bt b 6) gen place hs (by omega) hg hp
    rw [← he] at hbt
    have h1 := bt_bts b 63 (by omega)
    rw [hbt] at h1
    have h2 : ((frm (bts (b.extract 8 (8 + (getS (b.extract 4 6)).1.toNat))) (bt b 6) gen place).drop 8)[55]? = some (bt b 63) := by rw [List.getElem?_drop]; exact h1
    have hl := bts_length (b.extract 8 (8 + (getS (b.extract 4 6)).1.toNat))
    rw [frm_drop8, ← List.append_assoc, ← List.append_assoc, List.getElem?_append_right (by simp only [List.length_append, List.length_replicate, beL_length]; omega)] at h2
    simp only [List.length_append, List.length_replicate, beL_length] at h2
    rw [show 55 - ((bts (b.extract 8 (8 + (getS (b.extract 4 6)).1.toNat))).length + (48 - (bts (b.extract 8 (8 + (getS (b.extract 4 6)).1.toNat))).length) + 4) = 3 by omega] at h2
    have h3 : (beL 4 gen)[3]? = some (gen / 256 ^ 0 % 256) := rfl
    rw [h3] at h2
    have := Option.some.inj h2
    rw [Int.pow_zero, Int.ediv_one] at this
    exact h this.symm
end Go.Proofs.YtladbjlkkjcfnaaLg
namespace Go.Proofs.YtladbjlkkjcfnaaLg
open Go.RowKit Go.Proofs.YtladbjlkkjcfnaaW.PrintWords Go.Proofs.YtladbjlkkjcfnaaW.PrintMore Go.Proofs.Ytladbjlkkjcfnaa.PU Go.Proofs.YtladbjlkkjcfnaaOc Go.Proofs.YtladbjlkkjcfnaaKp Go.Proofs.YtladbjlkkjcfnaaCm Go.Proofs.YtladbjlkkjcfnaaDk
set_option linter.unusedVariables false
set_option linter.unusedSimpArgs false
theorem kinds_mem : ∀ (k : Nat) (s : ByteArray), s.size ≤ 48 * k + 48 → ∀ x ∈ kinds (pcsK k s), x.1.size ≤ 48 ∧ (x.2 = 2 ∨ x.2 = 1 ∧ x.1.size = 48)
  | 0, s, h, x, hx => by
    obtain rfl := List.mem_singleton.1 hx
    exact ⟨by simp only; omega, .inl rfl⟩
  | k + 1, s, h, x, hx => by
    unfold pcsK at hx
    by_cases h1 : 48 < s.size
    · rw [if_pos h1] at hx
      obtain ⟨t, r, e⟩ : ∃ t r, pcsK k (s.extract 48 s.size) = t :: r := by
        cases k with
        | zero => exact ⟨_, _, rfl⟩
        | succ k =>
          unfold pcsK
          split
          · exact ⟨_, _, rfl⟩
          · exact ⟨_, _, rfl⟩
      have ih := kinds_mem k (s.extract 48 s.size) (by rw [ByteArray.size_extract]; omega) x
      rw [e] at ih hx
      have hx : x ∈ (s.extract 0 48, (1 : Int)) :: kinds (t :: r) := hx
      rcases List.mem_cons.1 hx with rfl | hx
      · have hz : (s.extract 0 48).size = 48 := by rw [ByteArray.size_extract]; omega
        exact ⟨by simp only; omega, .inr ⟨rfl, hz⟩⟩
      · exact ih hx
    · rw [if_neg h1] at hx
      obtain rfl := List.mem_singleton.1 hx
      exact ⟨by simp only; omega, .inl rfl⟩
theorem pk_mem (r : ByteArray) : ∀ x ∈ pk r, x.1.size ≤ 48 ∧ (x.2 = 2 ∨ x.2 = 1 ∧ x.1.size = 48) := kinds_mem _ r (by omega)
/-- an empty piece: the record is empty -/
theorem kinds_empty : ∀ (k : Nat) (s : ByteArray), s.size ≤ 48 * k + 48 → 0 < s.size → ∀ x ∈ kinds (pcsK k s), 0 < x.1.size
  | 0, s, h, h0, x, hx => by
    obtain rfl := List.mem_singleton.1 hx
    exact h0
  | k + 1, s, h, h0, x, hx => by
    unfold pcsK at hx
    by_cases h1 : 48 < s.size
    · rw [if_pos h1] at hx
      obtain ⟨t, r, e⟩ : ∃ t r, pcsK k (s.extract 48 s.size) = t :: r := by
        cases k with
        | zero => exact ⟨_, _, rfl⟩
        | succ k =>
          unfold pcsK
          split
          · exact ⟨_, _, rfl⟩
          · exact ⟨_, _, rfl⟩
      have ih := kinds_empty k (s.extract 48 s.size) (by rw [ByteArray.size_extract]; omega) (by rw [ByteArray.size_extract]; omega) x
      rw [e] at ih hx
      have hx : x ∈ (s.extract 0 48, (1 : Int)) :: kinds (t :: r) := hx
      rcases List.mem_cons.1 hx with rfl | hx
      · simp only [ByteArray.size_extract]; omega
      · exact ih hx
    · rw [if_neg h1] at hx
      obtain rfl := List.mem_singleton.1 hx
      exact h0
theorem pk_empty (r : ByteArray) (h : r.size = 0) : pk r = [(r, 2)] := by
  unfold pk pcs
  rw [h]
  rfl
theorem nostop : ∀ (R : List ByteArray) (i : Nat) (acc : List ByteArray) (x : ByteArray × Int), (R.flatMap pk)[i]? = some x → x.1.size = 0 → (((R.flatMap pk).take i).foldl stp (ByteArray.empty, acc)).1 = ByteArray.empty
  | [], i, acc, x, h, h0 => by simp at h
  | r :: R, i, acc, x, h, h0 => by
    rw [List.flatMap_cons] at h ⊢
    by_cases hi : i < (pk r).length
    · rw [List.getElem?_append_left hi] at h
      have hr : r.size = 0 := by
        rcases Nat.eq_zero_or_pos r.size with e | e
        · exact e
        · have := kinds_empty _ r (by omega) e x (List.mem_of_getElem? h)
          omega
      have hp := pk_empty r hr
      rw [hp] at hi
      obtain rfl : i = 0 := by simpa using hi
      rfl
    · rw [List.getElem?_append_right (by omega)] at h
      rw [List.take_append, List.take_of_length_le (by omega), List.foldl_append, fold_pk]
      exact nostop R _ _ x h h0
theorem flat_mem (R : List ByteArray) : ∀ x ∈ R.flatMap pk, x.1.size ≤ 48 ∧ (x.2 = 2 ∨ x.2 = 1 ∧ x.1.size = 48) := by
  intro x hx
  obtain ⟨r, _, h⟩ := List.mem_flatMap.1 hx
  exact pk_mem r x h
theorem scan {rd : Nat → ByteArray} {G : Int} {R : List ByteArray} {m : Nat} (hm : m ≤ (R.flatMap pk).length) (hG : 0 ≤ G ∧ G ≤ 4294967295) (h6 : m ≤ 65536) (hrd : ∀ j, j < m → ∀ x, (R.flatMap pk)[j]? = some x → rd j = formS x.1 x.2 G j) :
    ∀ j, j ≤ m → (scI rd G j).stop = false ∧ (scI rd G j).cur = (((R.flatMap pk).take j).foldl stp (ByteArray.empty, [])).1 ∧ (scI rd G j).recs = (((R.flatMap pk).take j).foldl stp (ByteArray.empty, [])).2
  | 0, _ => ⟨rfl, rfl, rfl⟩
  | j + 1, hj => by
    obtain ⟨h1, h2, h3⟩ := scan hm hG h6 hrd j (by omega)
    obtain ⟨x, hx⟩ : ∃ x, (R.flatMap pk)[j]? = some x := ⟨_, List.getElem?_eq_getElem (by omega)⟩
    have hmem := flat_mem R x (List.mem_of_getElem? hx)
    have hr : readPc (rd j) G j = (x.1, x.2, true) := by
      rw [hrd j (by omega) x hx]
      exact read_form x.1 x.2 G j hmem.1 hmem.2 hG ⟨by omega, by omega⟩
    have hns : ¬ scStop (readPc (rd j) G j) (scI rd G j) := by
      rw [hr]
      rintro (h | ⟨_, he, hc⟩)
      · cases h
      · apply hc
        rw [h2]
        refine nostop R j [] x hx ?_
        have he : x.1 = ByteArray.empty := he
        rw [he]
        rfl
    have ht : (R.flatMap pk).take (j + 1) = (R.flatMap pk).take j ++ [x] := by rw [List.take_add_one, hx]; rfl
    rw [ht, List.foldl_append]
    generalize ((R.flatMap pk).take j).foldl stp (ByteArray.empty, []) = a at *
    by_cases hk : x.2 = 2
    · obtain ⟨e1, e2, e3, e4⟩ := sc_B h1 hns (by rw [hr]; exact hk)
      rw [hr] at e2
      refine ⟨e4, ?_, ?_⟩
      · rw [e1]
        show _ = (stp a x).1
        rw [stp, if_pos hk]
      · rw [e2, h2, h3]
        show _ = (stp a x).2
        rw [stp, if_pos hk]
    · obtain ⟨e1, e2, e3, e4⟩ := sc_C h1 hns (by rw [hr]; exact hk)
      rw [hr] at e1
      refine ⟨e4, ?_, ?_⟩
      · rw [e1, h2]
        show _ = (stp a x).1
        rw [stp, if_neg hk]
      · rw [e2, h3]
        show _ = (stp a x).2
        rw [stp, if_neg hk]
/-- what is found: m pieces, and behind them none of the generation -/
theorem scan_found {rd : Nat → ByteArray} {G : Int} {R : List ByteArray} {m n : Nat} (hm : m ≤ (R.flatMap pk).length) (hmn : m ≤ n) (hn : n ≤ 65536) (hG : 0 ≤ G ∧ G ≤ 4294967295) (hrd : ∀ j, j < m → ∀ x, (R.flatMap pk)[j]? = some x → rd j = formS x.1 x.2 G j)
    (hend : m < n → (rd m).size = 64 ∧ bt (rd m) 63 ≠ G % 256) : ∃ c, c ≤ R.length ∧ (scI rd G n).recs = R.take c ∧ ∀ j, j ≤ R.length → ((R.take j).flatMap pk).length ≤ m → j ≤ c := by
  obtain ⟨h1, h2, h3⟩ := scan hm hG (by omega) hrd m (Nat.le_refl _)
  obtain ⟨c, hc, he, hj⟩ := fold_recs R m [] hm
  refine ⟨c, hc, ?_, hj⟩
  have hr : (scI rd G n).recs = (scI rd G m).recs := by
    rcases Nat.lt_or_ge m n with hl | hl
    · obtain ⟨e1, e2⟩ := hend hl
      exact (sc_A h1 hl (.inl (read_other (rd m) G m e1 hG ⟨by omega, by omega⟩ e2))).1
    · obtain rfl : m = n := by omega
      rfl
  rw [hr, h3, he, List.nil_append]
end Go.Proofs.YtladbjlkkjcfnaaLg
namespace Go.Proofs.YtladbjlkkjcfnaaLg
open Go.RowKit Go.Proofs.YtladbjlkkjcfnaaW.PrintWords Go.Proofs.YtladbjlkkjcfnaaW.PrintMore Go.Proofs.Ytladbjlkkjcfnaa.PU Go.Proofs.YtladbjlkkjcfnaaOc Go.Proofs.YtladbjlkkjcfnaaKp Go.Proofs.YtladbjlkkjcfnaaCm Go.Proofs.YtladbjlkkjcfnaaDk
set_option linter.unusedVariables false
set_option linter.unusedSimpArgs false
/-- the writes of the places S .. S+c-1 of a log from sector fr on -/
def que (fr : Nat) (F : Nat → ByteArray) (S c : Nat) : List (Int × List Int) := (List.range c).map fun i => (((fr + (S + i) : Nat) : Int), bts (F (S + i)))
theorem que_get {fr : Nat} {F : Nat → ByteArray} {S c k : Nat} (h : k < c) : (que fr F S c)[k]? = some (((fr + (S + k) : Nat) : Int), bts (F (S + k))) := by
  unfold que
  rw [List.getElem?_map, List.getElem?_range h]
  rfl
theorem lay_get (fr : Nat) (F : Nat → ByteArray) (S c : Nat) (secs : List (List Int)) (hl : fr + (S + c) ≤ secs.length) : ∀ k, k ≤ c → ∀ a, (layK secs (que fr F S c) k)[a]? = if fr + S ≤ a ∧ a < fr + S + k then some (bts (F (a - fr))) else secs[a]?
  | 0, _, a => by
    rw [if_neg (by omega)]
    rfl
  | k + 1, hk, a => by
    rw [layK_succ (que_get (by omega)), List.getElem?_set, layK_length]
    simp only [Int.toNat_natCast]
    by_cases ha : fr + (S + k) = a
    · subst ha
      rw [if_pos rfl, if_pos (by omega), if_pos (by omega), show fr + (S + k) - fr = S + k by omega]
    · rw [if_neg ha, lay_get fr F S c secs hl k (by omega) a]
      by_cases hb : fr + S ≤ a ∧ a < fr + S + k
      · rw [if_pos hb, if_pos (by omega)]
      · rw [if_neg hb, if_neg (by omega)]
/-- a crash: the places ahead of m are written, the place m is torn at t -/
theorem crash_get {D : Dm} {fr S c : Nat} {F : Nat → ByteArray} (hon : D.on = true) (hq : D.q = que fr F S c) (hl : fr + (S + c) ≤ D.secs.length) (hF : ∀ j, (F j).size = 64) (hsec : ∀ s ∈ D.secs, s.length = 64) (keep torn : Int) :
    ∃ m t, S ≤ m ∧ m ≤ S + c ∧ t < 64 ∧ ∀ a, (crashS D keep torn).secs[a]? = if fr + S ≤ a ∧ a < fr + m then some (bts (F (a - fr))) else if a = fr + m ∧ m < S + c then (D.secs[a]?).map (fun o => (bts (F m)).take t ++ o.drop t) else D.secs[a]? := by
  have hqc : D.q.length = c := by rw [hq]; simp [que]
  obtain ⟨k, hk⟩ : ∃ k, k = keepS D keep := ⟨_, rfl⟩
  obtain ⟨t, ht⟩ : ∃ t, t = tornT torn := ⟨_, rfl⟩
  have hkc : k ≤ c := by rw [hk]; unfold keepS; omega
  have ht64 : t ≤ 64 := by rw [ht]; unfold tornT; omega
  have hlay := lay_get fr F S c D.secs hl
  have hs : (crashS D keep torn).secs = crashSecs D k t := by
    unfold crashS
    rw [if_pos hon, ← hk, ← ht]
  rw [hs]
  unfold crashSecs
  rw [hq]
  rcases Nat.lt_or_ge k c with hlt | hge
  · rw [que_get hlt]
    have hlen : (bts (F (S + k))).length = 64 := by rw [bts_length, hF]
    have hget : ∀ a, (tornS (layK D.secs (que fr F S c) k) (((fr + (S + k) : Nat) : Int), bts (F (S + k))) t)[a]? = if fr + S ≤ a ∧ a < fr + (S + k) then some (bts (F (a - fr))) else if a = fr + (S + k) then (D.secs[a]?).map (fun o => (bts (F (S + k))).take t ++ o.drop t) else D.secs[a]? := by
      intro a
      unfold tornS
      simp only [Int.toNat_natCast]
      rw [List.getElem?_set, layK_length]
      by_cases ha : fr + (S + k) = a
      · subst ha
        rw [if_pos rfl, if_pos (by omega), if_neg (by omega), if_pos rfl, List.getD_eq_getElem?_getD, hlay k (by omega), if_neg (by omega), List.getElem?_eq_getElem (by omega)]
        rfl
      · rw [if_neg ha, hlay k (by omega)]
        by_cases hb : fr + S ≤ a ∧ a < fr + S + k
        · rw [if_pos hb, if_pos (by omega)]
        · rw [if_neg hb, if_neg (by omega), if_neg (fun e => ha e.symm)]
    by_cases h64 : t = 64
    · refine ⟨S + k + 1, 0, by omega, by omega, by omega, fun a => ?_⟩
      show (tornS _ _ t)[a]? = _
      rw [hget a]
      by_cases ha : a = fr + (S + k)
      · subst ha
        have ho : (D.secs[fr + (S + k)]'(by omega)).length = 64 := hsec _ (List.getElem_mem _)
        rw [if_neg (by omega), if_pos rfl, if_pos (by omega), List.getElem?_eq_getElem (by omega), Option.map_some, h64, List.take_of_length_le (by omega), List.drop_of_length_le (by omega), List.append_nil, show fr + (S + k) - fr = S + k by omega]
      · by_cases hb : fr + S ≤ a ∧ a < fr + (S + k)
        · rw [if_pos hb, if_pos (by omega)]
        · rw [if_neg hb, if_neg ha, if_neg (by omega)]
          by_cases hc : a = fr + (S + k + 1) ∧ S + k + 1 < S + c
          · rw [if_pos hc]
            simp
          · rw [if_neg hc]
    · refine ⟨S + k, t, by omega, by omega, by omega, fun a => ?_⟩
      show (tornS _ _ t)[a]? = _
      rw [hget a]
      by_cases hb : fr + S ≤ a ∧ a < fr + (S + k)
      · rw [if_pos hb, if_pos hb]
      · rw [if_neg hb, if_neg hb]
        by_cases ha : a = fr + (S + k)
        · rw [if_pos ha, if_pos ⟨ha, by omega⟩]
        · rw [if_neg ha, if_neg (fun e => ha e.1)]
  · obtain rfl : k = c := by omega
    have hn : (que fr F S k)[k]? = none := List.getElem?_eq_none (by simp [que])
    rw [hn]
    refine ⟨S + k, 0, by omega, by omega, by omega, fun a => ?_⟩
    show (layK _ _ k)[a]? = _
    rw [hlay k (Nat.le_refl _) a]
    by_cases hb : fr + S ≤ a ∧ a < fr + S + k
    · rw [if_pos hb, if_pos (by omega)]
    · rw [if_neg hb, if_neg (by omega), if_neg (by omega)]
end Go.Proofs.YtladbjlkkjcfnaaLg
namespace Go.Proofs.YtladbjlkkjcfnaaLg
open Go.RowKit Go.Proofs.YtladbjlkkjcfnaaW.PrintWords Go.Proofs.YtladbjlkkjcfnaaW.PrintMore Go.Proofs.Ytladbjlkkjcfnaa.PU Go.Proofs.YtladbjlkkjcfnaaOc Go.Proofs.YtladbjlkkjcfnaaKp Go.Proofs.YtladbjlkkjcfnaaCm Go.Proofs.YtladbjlkkjcfnaaDk
set_option linter.unusedVariables false
set_option linter.unusedSimpArgs false
theorem beL4 (g : Int) (h : 0 ≤ g ∧ g ≤ 255) : beL 4 g = [0, 0, 0, g] := by
  have e1 : g / 256 ^ 3 % 256 = 0 := by omega
  have e2 : g / 256 ^ 2 % 256 = 0 := by omega
  have e3 : g / 256 ^ 1 % 256 = 0 := by omega
  have e4 : g / 256 ^ 0 % 256 = g := by omega
  simp only [beL, e1, e2, e3, e4]
/-- a sector that bears generation g at both ends -/
structure Ends (o : List Int) (g : Int) : Prop where
  len : o.length = 64
  head : o.take 4 = [0, 0, 0, g]
  tail : o.drop 60 = [0, 0, 0, g]
  rng : ∀ x ∈ o, 0 ≤ x ∧ x ≤ 255
theorem ends_zero : Ends zsec 0 := ⟨rfl, rfl, rfl, by intro x hx; have := List.eq_of_mem_replicate hx; omega⟩
theorem ends_form (s : ByteArray) (kind gen place : Int) (hs : s.size ≤ 48) (hk : 0 ≤ kind ∧ kind ≤ 255) (hg : 0 ≤ gen ∧ gen ≤ 255) (hp : 0 ≤ place ∧ place ≤ 4294967295) : Ends (bts (formS s kind gen place)) gen := by
  have hb := bts_form s kind gen place hs hk ⟨hg.1, by omega⟩ hp
  have hl : (bts s).length = s.size := bts_length s
  refine ⟨by rw [bts_length]; exact formS_size s kind gen place hs ⟨hg.1, by omega⟩ hp, ?_, ?_, ?_⟩
  · rw [hb, frm, beL4 gen hg]
    rfl
  · have h : (frm (bts s) kind gen place).drop 60 = ((frm (bts s) kind gen place).drop 8).drop 52 := by rw [List.drop_drop]
    rw [hb, h, frm_drop8, ← List.append_assoc, ← List.append_assoc, List.drop_append, List.drop_of_length_le (by simp only [List.length_append, List.length_replicate, beL_length]; omega)]
    simp only [List.length_append, List.length_replicate, beL_length]
    rw [show 52 - ((bts s).length + (48 - (bts s).length) + 4) = 0 by omega, List.drop_zero, List.nil_append, beL4 gen hg]
  · intro x hx
    unfold bts at hx
    obtain ⟨u, _, rfl⟩ := List.mem_map.1 hx
    have := u.toNat_lt
    omega
theorem Ends.at63 {o : List Int} {g : Int} (h : Ends o g) : o[63]? = some g := by
  have : (o.drop 60)[3]? = some g := by rw [h.tail]; rfl
  rw [List.getElem?_drop] at this
  exact this
/-- torn early: as it was -/
theorem torn_early {o o2 : List Int} {g G : Int} (h : Ends o g) (h2 : Ends o2 G) {t : Nat} (ht : t ≤ 3) : o2.take t ++ o.drop t = o := by
  have e : o2.take t = o.take t := by
    have e1 : o2.take t = (o2.take 4).take t := by rw [List.take_take, Nat.min_eq_left (by omega)]
    have e2 : o.take t = (o.take 4).take t := by rw [List.take_take, Nat.min_eq_left (by omega)]
    rw [e1, e2, h.head, h2.head]
    match t, ht with
    | 0, _ => rfl
    | 1, _ => rfl
    | 2, _ => rfl
    | 3, _ => rfl
  rw [e, List.take_append_drop]
/-- torn later: the new generation ahead, the old behind -/
theorem torn_late {o o2 : List Int} {g G : Int} (h : Ends o g) (h2 : Ends o2 G) {t : Nat} (h4 : 4 ≤ t) (ht : t < 64) : (o2.take t ++ o.drop t).length = 64 ∧ (o2.take t ++ o.drop t).take 4 = [0, 0, 0, G] ∧ (o2.take t ++ o.drop t).drop 60 = [0, 0, 0, g] := by
  have l1 := h.len
  have l2 := h2.len
  refine ⟨by rw [List.length_append, List.length_take, List.length_drop]; omega, ?_, ?_⟩
  · rw [List.take_append_of_le_length (by rw [List.length_take]; omega), List.take_take, Nat.min_eq_left h4]
    exact h2.head
  · rw [List.drop_append, List.length_take, Nat.min_eq_left (by omega), List.drop_take]
    by_cases h60 : t ≤ 60
    · rw [show t - 60 = 0 by omega, List.take_zero, List.nil_append, List.drop_drop, show t + (60 - t) = 60 by omega]
      exact h.tail
    · rw [show 60 - t = 0 by omega, List.drop_zero, h2.tail]
      have e : o.drop t = (o.drop 60).drop (t - 60) := by rw [List.drop_drop, show 60 + (t - 60) = t by omega]
      rw [e, h.tail]
      rcases (show t = 61 ∨ t = 62 ∨ t = 63 by omega) with rfl | rfl | rfl <;> rfl
/-- the generation of a sector by its ends -/
theorem gen_of_ends (o : List Int) (a b : Int) (hl : o.length = 64) (hr : ∀ x ∈ o, 0 ≤ x ∧ x ≤ 255) (h1 : o.take 4 = [0, 0, 0, a]) (h2 : o.drop 60 = [0, 0, 0, b]) : genS (strOfNums o) = max a b := by
  have hb : bts (strOfNums o) = o := bts_strOfNums o hr
  have v : ∀ x : Int, valL 0 [0, 0, 0, x] = x := fun x => by simp only [valL, List.foldl]; omega
  unfold genS
  rw [get_of_bts _ [0, 0, 0, a] (by rw [bts_extract, hb, List.drop_zero]; exact h1) (by simp) (by simp), get_of_bts _ [0, 0, 0, b] (by rw [bts_extract, hb, h2]; rfl) (by simp) (by simp), v, v]
end Go.Proofs.YtladbjlkkjcfnaaLg
namespace Go.Proofs.YtladbjlkkjcfnaaLg
open Go.RowKit Go.Proofs.YtladbjlkkjcfnaaW.PrintWords Go.Proofs.YtladbjlkkjcfnaaW.PrintMore Go.Proofs.Ytladbjlkkjcfnaa.PU Go.Proofs.YtladbjlkkjcfnaaOc Go.Proofs.YtladbjlkkjcfnaaKp Go.Proofs.YtladbjlkkjcfnaaCm Go.Proofs.YtladbjlkkjcfnaaDk
set_option linter.unusedVariables false
set_option linter.unusedSimpArgs false
/-- the sector of place j, as it is read -/
def sec (secs : List (List Int)) (j : Nat) : ByteArray := strOfNums (secs.getD (3 + j) [])
/-- what an opened log tells of these sectors -/
def fnd (secs : List (List Int)) : List ByteArray := if 0 < genS (sec secs 0) then (scI (sec secs) (genS (sec secs 0)) 30).recs else []
/-- the pieces' sectors of a generation -/
def fP (R : List ByteArray) (G : Int) (j : Nat) : ByteArray := match (R.flatMap pk)[j]? with
  | some x => formS x.1 x.2 G j
  | none => strOfNums zsec
theorem fP_some {R : List ByteArray} {G : Int} {j : Nat} {x : ByteArray × Int} (h : (R.flatMap pk)[j]? = some x) : fP R G j = formS x.1 x.2 G j := by
  unfold fP
  rw [h]
/-- the sectors while generation G is written: S places are there, the others are elder -/
structure Wr (secs : List (List Int)) (G : Int) (R : List ByteArray) (S : Nat) (ahead : List ByteArray) : Prop where
  len : secs.length = 40
  each : ∀ s ∈ secs, s.length = 64
  g1 : 1 ≤ G
  g2 : G ≤ 255
  st : S ≤ (R.flatMap pk).length
  fit : (R.flatMap pk).length ≤ 30
  new : ∀ j, j < S → secs[3 + j]? = some (bts (fP R G j))
  old : ∀ j, S ≤ j → j < 30 → ∃ o g, secs[3 + j]? = some o ∧ Ends o g ∧ 0 ≤ g ∧ g < G
  none : S = 0 → fnd secs = ahead
theorem fP_ends {R : List ByteArray} {G : Int} {j : Nat} (hG : 1 ≤ G ∧ G ≤ 255) (hj : j < (R.flatMap pk).length) (h30 : j ≤ 65536) : Ends (bts (fP R G j)) G := by
  obtain ⟨x, hx⟩ : ∃ x, (R.flatMap pk)[j]? = some x := ⟨_, List.getElem?_eq_getElem hj⟩
  have hm := flat_mem R x (List.mem_of_getElem? hx)
  rw [fP_some hx]
  exact ends_form x.1 x.2 G j hm.1 (by omega) ⟨by omega, hG.2⟩ ⟨by omega, by omega⟩
theorem fP_size (R : List ByteArray) {G : Int} (hG : 1 ≤ G ∧ G ≤ 255) (h : (R.flatMap pk).length ≤ 65536) (j : Nat) : (fP R G j).size = 64 := by
  rcases Nat.lt_or_ge j (R.flatMap pk).length with hl | hl
  · have := (fP_ends (R := R) hG hl (by omega)).len
    rwa [bts_length] at this
  · unfold fP
    rw [List.getElem?_eq_none hl]
    rfl
end Go.Proofs.YtladbjlkkjcfnaaLg
namespace Go.Proofs.YtladbjlkkjcfnaaLg
open Go.RowKit Go.Proofs.YtladbjlkkjcfnaaW.PrintWords Go.Proofs.YtladbjlkkjcfnaaW.PrintMore Go.Proofs.Ytladbjlkkjcfnaa.PU Go.Proofs.YtladbjlkkjcfnaaOc Go.Proofs.YtladbjlkkjcfnaaKp Go.Proofs.YtladbjlkkjcfnaaCm Go.Proofs.YtladbjlkkjcfnaaDk
set_option linter.unusedVariables false
set_option linter.unusedSimpArgs false
theorem sec_some {secs : List (List Int)} {j : Nat} {o : List Int} (h : secs[3 + j]? = some o) : sec secs j = strOfNums o := by
  unfold sec
  rw [List.getD_eq_getElem?_getD, h, Option.getD_some]
theorem last_byte (o : List Int) (g : Int) (hl : o.length = 64) (hr : ∀ x ∈ o, 0 ≤ x ∧ x ≤ 255) (h : o[63]? = some g) : (strOfNums o).size = 64 ∧ bt (strOfNums o) 63 = g := by
  have hs : (strOfNums o).size = 64 := by rw [strOfNums_size, hl]
  have h1 := bt_bts (strOfNums o) 63 (by omega)
  rw [bts_strOfNums o hr, h] at h1
  exact ⟨hs, (Option.some.inj h1).symm⟩
theorem mix_rng {o o2 : List Int} {t : Nat} (h : ∀ x ∈ o, 0 ≤ x ∧ x ≤ 255) (h2 : ∀ x ∈ o2, 0 ≤ x ∧ x ≤ 255) : ∀ x ∈ o2.take t ++ o.drop t, 0 ≤ x ∧ x ≤ 255 := by
  intro x hx
  rcases List.mem_append.1 hx with hx | hx
  · exact h2 x (List.mem_of_mem_take hx)
  · exact h x (List.mem_of_mem_drop hx)
/-- m places are there, the next is none of the generation: so much is found -/
theorem found {secs : List (List Int)} {G : Int} {R : List ByteArray} {m : Nat} (hG : 1 ≤ G ∧ G ≤ 255) (hm : m ≤ (R.flatMap pk).length) (h30 : (R.flatMap pk).length ≤ 30) (hnew : ∀ j, j < m → secs[3 + j]? = some (bts (fP R G j)))
    (hgen : genS (sec secs 0) = G) (hend : m < 30 → (sec secs m).size = 64 ∧ ∃ g, 0 ≤ g ∧ g < G ∧ bt (sec secs m) 63 = g) : ∃ c, c ≤ R.length ∧ fnd secs = R.take c ∧ ∀ j, j ≤ R.length → ((R.take j).flatMap pk).length ≤ m → j ≤ c := by
  unfold fnd
  rw [hgen, if_pos (by omega)]
  refine scan_found hm (by omega) (by omega) ⟨by omega, by omega⟩ (fun j hj x hx => ?_) (fun h => ?_)
  · rw [sec_some (hnew j hj), strOfNums_bts, fP_some hx]
  · obtain ⟨h1, g, g0, g1, h2⟩ := hend h
    exact ⟨h1, by rw [h2]; omega⟩
theorem crash_law {D : Dm} {G : Int} {R ahead : List ByteArray} {S c : Nat} (hon : D.on = true) (hW : Wr D.secs G R S ahead) (hq : D.q = que 3 (fP R G) S c) (hc : S + c = (R.flatMap pk).length) (keep torn : Int) :
    (S = 0 ∧ fnd (crashS D keep torn).secs = ahead) ∨ (0 < (R.flatMap pk).length ∧ ∃ k, k ≤ R.length ∧ fnd (crashS D keep torn).secs = R.take k ∧ ∀ j, j ≤ R.length → ((R.take j).flatMap pk).length ≤ S → j ≤ k) := by
  have hG := And.intro hW.g1 hW.g2
  have hfit := hW.fit
  have hlen := hW.len
  obtain ⟨m, t, hSm, hmT, ht, hget⟩ := crash_get hon hq (by omega) (fP_size R hG (by omega)) hW.each keep torn
  generalize (crashS D keep torn).secs = sc at *
  have hnew : ∀ j, j < m → sc[3 + j]? = some (bts (fP R G j)) := by
    intro j hj
    rw [hget (3 + j)]
    by_cases hjS : S ≤ j
    · rw [if_pos (by omega), show 3 + j - 3 = j by omega]
    · rw [if_neg (by omega), if_neg (by omega)]
      exact hW.new j (by omega)
  have hnext : m < 30 → ∃ o g, D.secs[3 + m]? = some o ∧ Ends o g ∧ 0 ≤ g ∧ g < G := fun h => hW.old m hSm h
  by_cases hA : m = 0 ∧ (t ≤ 3 ∨ ¬ m < S + c)
  · left
    obtain ⟨h0, h3⟩ := hA
    have hS : S = 0 := by omega
    refine ⟨hS, ?_⟩
    have he : sc = D.secs := by
      apply List.ext_getElem?
      intro a
      rw [hget a, if_neg (by omega)]
      by_cases ha : a = 3 + m ∧ m < S + c
      · rw [if_pos ha]
        obtain ⟨o, g, ho, hE, _, _⟩ := hnext (by omega)
        have hF := fP_ends (R := R) (G := G) (j := m) hG (by omega) (by omega)
        rw [ha.1, ho, Option.map_some, torn_early hE hF (by omega)]
      · rw [if_neg ha]
    rw [he]
    exact hW.none hS
  · right
    have hT : 0 < (R.flatMap pk).length := by omega
    refine ⟨hT, ?_⟩
    have hmix : m < 30 → ∃ o g, sc[3 + m]? = some o ∧ o.length = 64 ∧ (∀ x ∈ o, 0 ≤ x ∧ x ≤ 255) ∧ o[63]? = some g ∧ 0 ≤ g ∧ g < G ∧ (m = 0 → genS (strOfNums o) = G) := by
      intro hm
      obtain ⟨o, g, ho, hE, g0, g1⟩ := hnext hm
      rw [hget (3 + m), if_neg (by omega)]
      by_cases hc2 : m < S + c
      · rw [if_pos ⟨rfl, hc2⟩, ho, Option.map_some]
        have hF := fP_ends (R := R) (G := G) (j := m) hG (by omega) (by omega)
        have hr := mix_rng (t := t) hE.rng hF.rng
        by_cases h4 : 4 ≤ t
        · obtain ⟨l1, l2, l3⟩ := torn_late hE hF h4 ht
          refine ⟨_, g, rfl, l1, hr, ?_, g0, g1, fun _ => ?_⟩
          · have : (((bts (fP R G m)).take t ++ o.drop t).drop 60)[3]? = some g := by rw [l3]; rfl
            rw [List.getElem?_drop] at this
            exact this
          · rw [gen_of_ends _ G g l1 hr l2 l3]
            omega
        · rw [torn_early hE hF (by omega)]
          exact ⟨o, g, rfl, hE.len, hE.rng, hE.at63, g0, g1, fun h0 => absurd ⟨h0, .inl (by omega)⟩ hA⟩
      · rw [if_neg (by omega)]
        exact ⟨o, g, ho, hE.len, hE.rng, hE.at63, g0, g1, fun h0 => by omega⟩
    have hgen : genS (sec sc 0) = G := by
      rcases Nat.eq_zero_or_pos m with h0 | h0
      · obtain ⟨o, g, ho, _, _, _, _, _, hg⟩ := hmix (by omega)
        rw [h0] at ho
        rw [sec_some ho]
        exact hg h0
      · have hF := fP_ends (R := R) (G := G) (j := 0) hG hT (by omega)
        rw [sec_some (hnew 0 h0), gen_of_ends _ G G hF.len hF.rng hF.head hF.tail]
        omega
    obtain ⟨k, hk, he, hj⟩ := found hG (by omega) hfit hnew hgen (fun h => by
      obtain ⟨o, g, ho, hl, hr, h63, g0, g1, _⟩ := hmix h
      have := last_byte o g hl hr h63
      rw [sec_some ho]
      exact ⟨this.1, g, g0, g1, this.2⟩)
    exact ⟨k, hk, he, fun j hjR hjS => hj j hjR (by omega)⟩
end Go.Proofs.YtladbjlkkjcfnaaLg
namespace Go.Proofs.YtladbjlkkjcfnaaLg
open Go.RowKit Go.Proofs.YtladbjlkkjcfnaaW.PrintWords Go.Proofs.YtladbjlkkjcfnaaW.PrintMore Go.Proofs.Ytladbjlkkjcfnaa.PU Go.Proofs.YtladbjlkkjcfnaaOc Go.Proofs.YtladbjlkkjcfnaaKp Go.Proofs.YtladbjlkkjcfnaaCm Go.Proofs.YtladbjlkkjcfnaaDk
set_option linter.unusedVariables false
set_option linter.unusedSimpArgs false
theorem kinds_get : ∀ (l : List ByteArray) (i : Nat) (h : i < l.length), (kinds l)[i]? = some (l.getD i ByteArray.empty, if i + 1 = l.length then 2 else 1)
  | [s], 0, h => rfl
  | [s], i + 1, h => by simp at h
  | s :: t :: r, 0, h => by
    rw [if_neg (by simp)]
    rfl
  | s :: t :: r, i + 1, h => by
    have ih := kinds_get (t :: r) i (by simpa using h)
    show (kinds (t :: r))[i]? = _
    rw [ih]
    simp
/-- the pieces of one record more -/
theorem fP_old {R : List ByteArray} {rec : ByteArray} {G : Int} {j : Nat} (h : j < (R.flatMap pk).length) : fP (R ++ [rec]) G j = fP R G j := by
  unfold fP
  rw [List.flatMap_append, List.getElem?_append_left h]
theorem fP_new {R : List ByteArray} {rec : ByteArray} {G : Int} {i : Nat} (h : i < (pcs rec).length) : fP (R ++ [rec]) G ((R.flatMap pk).length + i) = formS ((pcs rec).getD i ByteArray.empty) (if i + 1 = (pcs rec).length then 2 else 1) G (((R.flatMap pk).length + i : Nat) : Int) := by
  have : ((R ++ [rec]).flatMap pk)[(R.flatMap pk).length + i]? = some ((pcs rec).getD i ByteArray.empty, if i + 1 = (pcs rec).length then 2 else 1) := by
    rw [List.flatMap_append, List.getElem?_append_right (by omega), Nat.add_sub_cancel_left, List.flatMap_singleton]
    exact kinds_get _ i h
  rw [fP_some this]
theorem flat_snoc (R : List ByteArray) (rec : ByteArray) : ((R ++ [rec]).flatMap pk).length = (R.flatMap pk).length + (pcs rec).length := by
  rw [List.flatMap_append, List.length_append, List.flatMap_singleton, pk, kinds_length]
theorem que_congr {fr S c : Nat} {F F' : Nat → ByteArray} (h : ∀ j, j < S + c → F j = F' j) : que fr F S c = que fr F' S c := by
  unfold que
  apply List.map_congr_left
  intro i hi
  have := List.mem_range.1 hi
  rw [h (S + i) (by omega)]
theorem que_snoc (fr S c : Nat) (F : Nat → ByteArray) : que fr F S (c + 1) = que fr F S c ++ [(((fr + (S + c) : Nat) : Int), bts (F (S + c)))] := by
  unfold que
  rw [List.range_succ, List.map_append]
  rfl
/-- the disk, and the log over it, as the law has them -/
structure WS (D : Dm) (L : Lm) (G : Int) (R : List ByteArray) (S c k : Nat) (ahead : List ByteArray) : Prop where
  hl : Hl D k
  wr : Wr D.secs G R S ahead
  q : D.q = que 3 (fP R G) S c
  sc : S + c = (R.flatMap pk).length
  lg : L = ⟨3, 30, G, true, ((R.flatMap pk).length : Int), R⟩
theorem wrI_q {D : Dm} {G : Int} {R : List ByteArray} {S c k : Nat} {rec : ByteArray} (hl : Hl D k) (hlen : D.secs.length = 40) (hG : 1 ≤ G ∧ G ≤ 255) (hq : D.q = que 3 (fP R G) S c) (hsc : S + c = (R.flatMap pk).length) (hfit : (R.flatMap pk).length + (pcs rec).length ≤ 30) :
    ∀ i, i ≤ (pcs rec).length → (wrI D 3 G ((R.flatMap pk).length : Int) (pcs rec) i).q = que 3 (fP (R ++ [rec]) G) S (c + i)
  | 0, _ => by
    show D.q = _
    rw [hq]
    exact que_congr (fun j hj => (fP_old (by omega)).symm)
  | i + 1, hi => by
    have ih := wrI_q hl hlen hG hq hsc hfit i (by omega)
    obtain ⟨h1, h2⟩ := wrI_hl (fr := 3) (gen := G) (used := ((R.flatMap pk).length : Int)) hl (pcs_sizes rec) ⟨by omega, by omega⟩ (by omega) (by omega) (by omega) (by omega) i (by omega)
    have hx : ((pcs rec).getD i ByteArray.empty).size ≤ 48 := by
      rw [List.getD_eq_getElem?_getD, List.getElem?_eq_getElem (by omega), Option.getD_some]
      exact pcs_sizes rec _ (List.getElem_mem _)
    have e := (hl_write h1 (3 + (((R.flatMap pk).length : Int) + i)) (formS ((pcs rec).getD i ByteArray.empty) (if i + 1 = (pcs rec).length then 2 else 1) G (((R.flatMap pk).length : Int) + i)) ⟨by omega, by rw [h2]; omega⟩ (formS_size _ _ _ _ hx ⟨by omega, by omega⟩ ⟨by omega, by omega⟩)).2.1
    show (writeD _ _ _).q = _
    rw [e]
    show (wrI D 3 G ((R.flatMap pk).length : Int) (pcs rec) i).q ++ [_] = _
    have ea : S + (c + i) = (R.flatMap pk).length + i := by omega
    rw [ih, show c + (i + 1) = c + i + 1 by omega, que_snoc, ea, fP_new (by omega)]
    have e2 : (((3 : Int) + (((R.flatMap pk).length : Int) + (i : Int))).toNat : Int) = ((3 + ((R.flatMap pk).length + i) : Nat) : Int) := by omega
    rw [e2]
    have e3 : (((R.flatMap pk).length + i : Nat) : Int) = ((R.flatMap pk).length : Int) + (i : Int) := by omega
    rw [e3]
end Go.Proofs.YtladbjlkkjcfnaaLg
namespace Go.Proofs.YtladbjlkkjcfnaaLg
open Go.RowKit Go.Proofs.YtladbjlkkjcfnaaW.PrintWords Go.Proofs.YtladbjlkkjcfnaaW.PrintMore Go.Proofs.Ytladbjlkkjcfnaa.PU Go.Proofs.YtladbjlkkjcfnaaOc Go.Proofs.YtladbjlkkjcfnaaKp Go.Proofs.YtladbjlkkjcfnaaCm Go.Proofs.YtladbjlkkjcfnaaDk
set_option linter.unusedVariables false
set_option linter.unusedSimpArgs false
theorem WS.app {D : Dm} {L : Lm} {G : Int} {R ahead : List ByteArray} {S c k : Nat} (h : WS D L G R S c k ahead) (rec : ByteArray) (hfit : (R.flatMap pk).length + (pcs rec).length ≤ 30) :
    WS (appD D L rec) (appL L rec) G (R ++ [rec]) S (c + (pcs rec).length) (k + (pcs rec).length) ahead := by
  have hW := h.wr
  have g1 := hW.g1
  have g2 := hW.g2
  have hlen := hW.len
  have hst := hW.st
  have hL := h.lg
  obtain ⟨hl, hs⟩ := wrI_hl (fr := 3) (gen := G) (used := ((R.flatMap pk).length : Int)) h.hl (pcs_sizes rec) ⟨by omega, by omega⟩ (by omega) (by omega) (by omega) (by omega) (pcs rec).length (Nat.le_refl _)
  have hq := wrI_q (rec := rec) h.hl hlen ⟨g1, g2⟩ h.q h.sc hfit (pcs rec).length (Nat.le_refl _)
  have eD : appD D L rec = wrI D 3 G ((R.flatMap pk).length : Int) (pcs rec) (pcs rec).length := by rw [appD, hL]
  rw [eD]
  refine ⟨hl, ?_, hq, by rw [flat_snoc]; have := h.sc; omega, ?_⟩
  · rw [hs]
    exact ⟨hlen, hW.each, g1, g2, by rw [flat_snoc]; omega, by rw [flat_snoc]; omega, fun j hj => by rw [fP_old (by omega)]; exact hW.new j hj, hW.old, hW.none⟩
  · rw [appL, hL, flat_snoc]
    simp only [Lm.mk.injEq, true_and, and_true]
    omega
theorem WS.sync {D : Dm} {L : Lm} {G : Int} {R ahead : List ByteArray} {S c k : Nat} (h : WS D L G R S c k ahead) : syncE D = 0 ∧ WS (syncD D) L G R (S + c) 0 0 ahead := by
  have hW := h.wr
  have hlen := hW.len
  have hfit := hW.fit
  have hsc := h.sc
  have hqc : D.q.length = c := by rw [h.q]; simp [que]
  have hn : ¬ (D.fset = true ∧ D.fn ≤ 0) := by rw [h.hl.fset]; simp
  have ho : ¬ D.on = false := by rw [h.hl.on]; simp
  have e : syncD D = { D with secs := layK D.secs D.q D.q.length, q := [], fn := if D.fset then D.fn - 1 else D.fn } := by rw [syncD, if_neg ho, if_neg hn]
  have hlay := lay_get 3 (fP R G) S c D.secs (by omega) c (Nat.le_refl _)
  rw [← h.q, ← hqc] at hlay
  rw [hqc] at hlay
  have hll : (layK D.secs D.q D.q.length).length = 40 := by rw [layK_length]; exact hlen
  rw [hqc] at hll e
  refine ⟨?_, ?_⟩
  · unfold syncE
    rw [if_neg ho, if_neg hn]
  rw [e]
  refine ⟨⟨h.hl.on, h.hl.room, h.hl.fset, ?_, Nat.le_refl _⟩, ⟨hll, ?_, hW.g1, hW.g2, by omega, hfit, ?_, ?_, ?_⟩, rfl, by omega, h.lg⟩
  · show (if D.fset then D.fn - 1 else D.fn) ≤ _
    rw [h.hl.fset]
    exact h.hl.fn
  · intro s hs
    obtain ⟨a, ha, rfl⟩ := List.getElem_of_mem hs
    have h1 := hlay a
    rw [List.getElem?_eq_getElem ha] at h1
    by_cases hb : 3 + S ≤ a ∧ a < 3 + S + c
    · rw [if_pos hb] at h1
      rw [Option.some.inj h1, bts_length]
      exact fP_size R ⟨hW.g1, hW.g2⟩ (by omega) _
    · rw [if_neg hb] at h1
      exact hW.each _ (List.mem_of_getElem? h1.symm)
  · intro j hj
    show (layK D.secs D.q c)[3 + j]? = _
    rw [hlay (3 + j)]
    by_cases hS : S ≤ j
    · rw [if_pos (by omega), show 3 + j - 3 = j by omega]
    · rw [if_neg (by omega)]
      exact hW.new j (by omega)
  · intro j hj h30
    obtain ⟨o, g, h1, h2⟩ := hW.old j (by omega) h30
    refine ⟨o, g, ?_, h2⟩
    show (layK D.secs D.q c)[3 + j]? = _
    rw [hlay (3 + j), if_neg (by omega)]
    exact h1
  · intro h0
    have hc0 : c = 0 := by omega
    have : layK D.secs D.q c = D.secs := by rw [hc0]; rfl
    show fnd (layK D.secs D.q c) = ahead
    rw [this]
    exact hW.none (by omega)
theorem gen_zero' : genS (strOfNums zsec) = 0 := by kernel_rfl
/-- what is found when a generation is synced whole -/
def nextA (R ahead : List ByteArray) : List ByteArray := if R = [] then ahead else R
theorem pk_pos (r : ByteArray) : 0 < (pk r).length := by rw [pk, kinds_length, pcs_count]; omega
theorem WS.reset {D : Dm} {L : Lm} {G : Int} {R ahead : List ByteArray} {S k : Nat} (h : WS D L G R S 0 k ahead) (hG : G < 255) : WS D (resetL L) (G + 1) [] 0 0 k (nextA R ahead) := by
  have hW := h.wr
  have hsc := h.sc
  have hfit := hW.fit
  have g1 := hW.g1
  have hold : ∀ j, j < 30 → ∃ o g, D.secs[3 + j]? = some o ∧ Ends o g ∧ 0 ≤ g ∧ g < G + 1 := by
    intro j hj
    rcases Nat.lt_or_ge j S with hl | hl
    · exact ⟨_, G, hW.new j hl, fP_ends ⟨g1, hW.g2⟩ (by omega) (by omega), by omega, by omega⟩
    · obtain ⟨o, g, h1, h2, h3, h4⟩ := hW.old j hl hj
      exact ⟨o, g, h1, h2, h3, by omega⟩
  refine ⟨h.hl, ⟨hW.len, hW.each, by omega, by omega, Nat.zero_le _, Nat.zero_le _, fun j hj => by omega, fun j _ hj => hold j hj, fun _ => ?_⟩, h.q.trans rfl, rfl, by rw [resetL, h.lg]; rfl⟩
  unfold nextA
  by_cases hR : R = []
  · rw [if_pos hR]
    exact hW.none (by rw [hR] at hsc; simpa using hsc)
  · rw [if_neg hR]
    have hT : 0 < (R.flatMap pk).length := by
      cases R with
      | nil => exact absurd rfl hR
      | cons r R =>
        rw [List.flatMap_cons, List.length_append]
        have := pk_pos r
        omega
    have hF := fP_ends (R := R) (G := G) (j := 0) ⟨g1, hW.g2⟩ hT (by omega)
    obtain ⟨c, hc, he, hj⟩ := found (secs := D.secs) (G := G) (R := R) (m := S) ⟨g1, hW.g2⟩ hW.st hfit hW.new (by rw [sec_some (hW.new 0 (by omega)), gen_of_ends _ G G hF.len hF.rng hF.head hF.tail]; omega) (fun hm => by
      obtain ⟨o, g, h1, h2, h3, h4⟩ := hW.old S (Nat.le_refl _) hm
      have := last_byte o g h2.len h2.rng h2.at63
      rw [sec_some h1]
      exact ⟨this.1, g, h3, h4, this.2⟩)
    have := hj R.length (Nat.le_refl _) (by rw [List.take_length]; omega)
    rw [he, List.take_of_length_le (by omega)]
theorem fnd_new : fnd (newD 40).secs = [] := by
  unfold fnd
  have h : (newD 40).secs[3 + 0]? = some zsec := by simp [newD]
  rw [sec_some h, gen_zero']
  rfl
theorem new_place (j : Nat) (hj : j < 30) : (newD 40).secs[3 + j]? = some zsec := by
  show (List.replicate 40 zsec)[3 + j]? = some zsec
  rw [List.getElem?_replicate, if_pos (by omega)]
theorem WS.start : WS (newD 40) (resetL ⟨3, 30, 0, false, 0, []⟩) 1 [] 0 0 0 [] :=
  ⟨⟨rfl, rfl, rfl, by simp [newD], Nat.le_refl _⟩, ⟨by simp [newD], by intro s hs; rw [List.eq_of_mem_replicate hs]; rfl, by omega, by omega, Nat.zero_le _, Nat.zero_le _, fun j hj => by omega, fun j _ hj => ⟨zsec, 0, new_place j hj, ends_zero, by omega, by omega⟩, fun _ => fnd_new⟩, rfl, rfl, rfl⟩
end Go.Proofs.YtladbjlkkjcfnaaLg
namespace Go.Proofs.YtladbjlkkjcfnaaLg
open Go.RowKit Go.Proofs.YtladbjlkkjcfnaaW.PrintWords Go.Proofs.YtladbjlkkjcfnaaW.PrintMore Go.Proofs.Ytladbjlkkjcfnaa.PU Go.Proofs.YtladbjlkkjcfnaaOc Go.Proofs.YtladbjlkkjcfnaaKp Go.Proofs.YtladbjlkkjcfnaaCm Go.Proofs.YtladbjlkkjcfnaaDk
set_option linter.unusedVariables false
set_option linter.unusedSimpArgs false
theorem scI_congr {rd rd' : Nat → ByteArray} {G : Int} {n : Nat} (h : ∀ j, j < n → rd j = rd' j) : ∀ k, k ≤ n → scI rd G k = scI rd' G k
  | 0, _ => rfl
  | k + 1, hk => by
    have ih := scI_congr (G := G) h k (by omega)
    show (if (scI rd G k).stop then scI rd G k else scStep (readPc (rd k) G k) k (scI rd G k)) = (if (scI rd' G k).stop then scI rd' G k else scStep (readPc (rd' k) G k) k (scI rd' G k))
    rw [ih, h k (by omega)]
theorem read_sec {D : Dm} (hon : D.on = true) (hq : D.q = []) (hl : D.secs.length = 40) (j : Nat) (hj : j < 30) : readS D (((3 : Nat) : Int) + (j : Int)) = sec D.secs j := by
  have hask := ask_ok (D := D) (fr := 3) (n := 30) hon hj (by omega)
  unfold readS
  rw [if_neg (fun e => e hask)]
  have e : (((3 : Nat) : Int) + (j : Int)).toNat = 3 + j := by omega
  rw [e]
  have hm : readM D (3 + j) = D.secs[3 + j]? := by
    unfold readM
    rw [hq]
    rfl
  rw [hm, sec, List.getD_eq_getElem?_getD]
theorem open_fnd {D : Dm} (hon : D.on = true) (hq : D.q = []) (hl : D.secs.length = 40) : (openL D 3 30).recs = fnd D.secs := by
  have h0 : readS D ((3 : Nat) : Int) = sec D.secs 0 := by
    have := read_sec hon hq hl 0 (by omega)
    simpa using this
  have hc := scI_congr (rd := fun k => readS D (((3 : Nat) : Int) + (k : Int))) (rd' := sec D.secs) (G := genS (sec D.secs 0)) (n := 30) (fun j hj => read_sec hon hq hl j hj) 30 (Nat.le_refl _)
  unfold openL fnd
  rw [h0]
  dsimp only
  rw [hc]
/-- the law of LogWhole: what is found behind the crash -/
theorem whole {D : Dm} {L : Lm} {G : Int} {R ahead : List ByteArray} {S c k : Nat} (h : WS D L G R S c k ahead) (keep torn : Int) : ∃ x, (openL { crashS D keep torn with on := true } 3 30).recs = x ∧
    ((S = 0 ∧ x = ahead) ∨ (R ≠ [] ∧ ∃ j, j ≤ R.length ∧ x = R.take j ∧ ∀ i, i ≤ R.length → ((R.take i).flatMap pk).length ≤ S → i ≤ j)) := by
  have hlen : (crashS D keep torn).secs.length = 40 := by
    unfold crashS
    rw [if_pos h.hl.on]
    show (crashSecs D _ _).length = 40
    unfold crashSecs
    split
    · rw [tornS, List.length_set, layK_length]; exact h.wr.len
    · rw [layK_length]; exact h.wr.len
  have hq : (crashS D keep torn).q = [] := by
    unfold crashS
    rw [if_pos h.hl.on]
  refine ⟨fnd (crashS D keep torn).secs, open_fnd rfl hq hlen, ?_⟩
  rcases crash_law h.hl.on h.wr h.q h.sc keep torn with ⟨h1, h2⟩ | ⟨h1, j, h2, h3, h4⟩
  · exact .inl ⟨h1, h2⟩
  · exact .inr ⟨fun e => by rw [e] at h1; simp at h1, j, h2, h3, h4⟩
end Go.Proofs.YtladbjlkkjcfnaaLg
