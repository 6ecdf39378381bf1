/-
  secret: the plain form of a hidden password. Condition: none.
-/
import Derived.Test.YtgbpfoegimgcjaaSecB
namespace Go.Proofs.YtgbpfoegimgcjaaOc
open Go.RowKit Go.Proofs.YtgbpfoegimgcjaaW.PrintWords Go.Proofs.YtgbpfoegimgcjaaW.PrintMore Go.Proofs.Ytgbpfoegimgcjaa.PU
set_option linter.unusedSimpArgs false
set_option linter.unusedVariables false

/-- a hidden password: salt's bytes and sums' bytes -/
def hidden (S R : ByteArray) : ByteArray := (⟨#[123, 83, 125]⟩ : ByteArray) ++ hexS S ++ ⟨#[46]⟩ ++ hexS R
def isHid (s : ByteArray) : Prop := ∃ S R : ByteArray, S.size = 4 ∧ R.size = 16 ∧ s = hidden S R
theorem unhexS_or (s : ByteArray) : (unhexS s).2 = 0 ∨ (unhexS s).2 = 11 := by
  unfold unhexS
  split
  · exact .inr rfl
  · split
    · exact .inl rfl
    · exact .inr rfl
theorem unhexL_length : ∀ (n : Nat) (l : List Int), l.length ≤ n → ∀ r, unhexL l = some r → 2 * r.length = l.length
  | _, [], _, r, h => by simp only [unhexL, Option.some.injEq] at h; subst h; rfl
  | _, [_], _, r, h => by simp [unhexL] at h
  | 0, a :: b :: l, hl, _, _ => by simp at hl
  | n + 1, a :: b :: l, hl, r, h => by
    simp only [unhexL] at h
    split at h
    · cases h
    split at h
    · cases h
    obtain ⟨r', hr, rfl⟩ := Option.map_eq_some_iff.1 h
    have := unhexL_length n l (by simp at hl; omega) r' hr
    simp
    omega
theorem unhexS_size (s : ByteArray) : (unhexS s).1.size ≤ s.size := by
  unfold unhexS
  split
  · exact Nat.zero_le _
  · split
    · rename_i l h
      have := unhexL_length _ _ (Nat.le_refl _) l h
      rw [bys_length] at this
      show (strOfNums l).size ≤ _
      rw [size_strOfNums]
      omega
    · exact Nat.zero_le _
theorem unhexS_size_ok (s : ByteArray) (h0 : (unhexS s).2 = 0) : 2 * (unhexS s).1.size = s.size := by
  unfold unhexS at h0 ⊢
  split
  · rename_i h; rw [if_pos h] at h0; cases h0
  · rename_i hh
    rw [if_neg hh] at h0
    split
    · rename_i l h
      have := unhexL_length _ _ (Nat.le_refl _) l h
      rw [bys_length] at this
      show 2 * (strOfNums l).size = _
      rw [size_strOfNums]
      omega
    · rename_i h; rw [h] at h0; cases h0
theorem bys_extract (s : ByteArray) (a b : Nat) : bys (s.extract a b) = ((bys s).drop a).take (b - a) := by
  unfold bys
  rw [← List.map_drop, ← List.map_take]
  congr 1
  simp [ByteArray.data_extract, List.extract_eq_take_drop]
theorem eq_of_toList {a b : ByteArray} (h : a.toList = b.toList) : a = b := by
  rw [Go.Lib.toList_data, Go.Lib.toList_data] at h
  obtain ⟨⟨a⟩⟩ := a
  obtain ⟨⟨b⟩⟩ := b
  simp only at h
  rw [h]
theorem bys_hexS (b : ByteArray) : bys (hexS b) = hexL (bys b) := bys_strOfNums _ (hexL_mem _ (bys_mem b))
theorem append_hex {X Y P1 P2 : ByteArray} (h : X ++ Y = P1 ++ P2) (hs : X.size = P1.size) : X = P1 ∧ Y = P2 := by
  have := congrArg bys h
  rw [bys_append, bys_append] at this
  obtain ⟨h1, h2⟩ := List.append_inj this (by rw [bys_length, bys_length, hs])
  exact ⟨bys_inj h1, bys_inj h2⟩
theorem split44 (s : ByteArray) (h1 : s.size = 44) (h2 : (s.extract 0 3).toList = ([123, 83, 125] : List UInt8)) (h3 : bt s 11 = 46) : s = (⟨#[123, 83, 125]⟩ : ByteArray) ++ s.extract 3 11 ++ ⟨#[46]⟩ ++ s.extract 12 44 := by
  have e1 : s.extract 0 3 = ⟨#[123, 83, 125]⟩ := eq_of_toList (by rw [h2, Go.Lib.toList_data])
  have hl : (bys s).length = 44 := by rw [bys_length, h1]
  apply bys_inj
  rw [bys_append, bys_append, bys_append, ← e1, bys_extract, bys_extract, bys_extract]
  have hb : bys (⟨#[46]⟩ : ByteArray) = ((bys s).drop 11).take 1 := by
    rw [bys_drop s 11 (by omega)]
    show _ = [bt s 11]
    rw [h3]
    rfl
  rw [hb]
  have t1 := List.take_append_drop 3 (bys s)
  have t2 := List.take_append_drop 8 ((bys s).drop 3)
  have t3 := List.take_append_drop 1 ((bys s).drop 11)
  rw [List.drop_drop] at t2 t3
  have t4 : ((bys s).drop 12).take (44 - 12) = (bys s).drop 12 := List.take_of_length_le (by rw [List.length_drop, hl]; exact Nat.le_refl _)
  rw [t4]
  simp only [List.drop_zero, Nat.sub_zero, Nat.reduceSub, List.append_assoc]
  rw [show (11 : Nat) + 1 = 12 from rfl] at t3
  rw [t3, t2, t1]
theorem hid_of (s : ByteArray) (h1 : s.size = 44) (h2 : (s.extract 0 3).toList = ([123, 83, 125] : List UInt8)) (h3 : bt s 11 = 46) (f1 : (unhexS (s.extract 3 11)).2 = 0) (f2 : (unhexS (s.extract 12 44)).2 = 0)
    (h4 : (hexS (unhexS (s.extract 3 11)).1 ++ hexS (unhexS (s.extract 12 44)).1) = (s.extract 3 11 ++ s.extract 12 44)) : isHid s := by
  have z1 := unhexS_size_ok _ f1
  have z2 := unhexS_size_ok _ f2
  have y1 : (s.extract 3 11).size = 8 := by simp; omega
  have y2 : (s.extract 12 44).size = 32 := by simp; omega
  obtain ⟨e1, e2⟩ := append_hex h4 (by rw [hexS_size, z1])
  refine ⟨(unhexS (s.extract 3 11)).1, (unhexS (s.extract 12 44)).1, by omega, by omega, ?_⟩
  · rw [hidden, e1, e2]; exact split44 s h1 h2 h3
theorem hidden_size (S R : ByteArray) : (hidden S R).size = 4 + 2 * S.size + 2 * R.size := by
  simp only [hidden, ByteArray.size_append, hexS_size]
  show 3 + 2 * S.size + 1 + 2 * R.size = _
  omega
theorem bys_hidden (S R : ByteArray) : bys (hidden S R) = [123, 83, 125] ++ (hexL (bys S) ++ ([46] ++ hexL (bys R))) := by
  simp only [hidden, bys_append, bys_hexS, List.append_assoc]
  rfl
theorem hexL_len4 {S : ByteArray} (hS : S.size = 4) : (hexL (bys S)).length = 8 := by rw [hexL_length, bys_length, hS]
theorem hidden_0 (S R : ByteArray) : (hidden S R).extract 0 3 = ⟨#[123, 83, 125]⟩ := by
  apply bys_inj
  rw [bys_extract, bys_hidden]
  rfl
theorem hidden_3 {S : ByteArray} (hS : S.size = 4) (R : ByteArray) : (hidden S R).extract 3 11 = hexS S := by
  apply bys_inj
  rw [bys_extract, bys_hidden, bys_hexS]
  have := hexL_len4 hS
  show List.take 8 (hexL (bys S) ++ _) = _
  rw [List.take_append_of_le_length (by omega), List.take_of_length_le (by omega)]
theorem hidden_12 {S R : ByteArray} (hS : S.size = 4) (hR : R.size = 16) : (hidden S R).extract 12 44 = hexS R := by
  apply bys_inj
  rw [bys_extract, bys_hidden, bys_hexS]
  have h8 := hexL_len4 hS
  have h32 : (hexL (bys R)).length = 32 := by rw [hexL_length, bys_length, hR]
  show List.take 32 (List.drop 9 (hexL (bys S) ++ ([46] ++ hexL (bys R)))) = _
  rw [List.drop_append, h8, List.drop_of_length_le (by omega)]
  show List.take 32 (hexL (bys R)) = _
  exact List.take_of_length_le (by omega)
theorem hidden_11 {S : ByteArray} (hS : S.size = 4) (R : ByteArray) : bt (hidden S R) 11 = 46 := by
  have hs := hidden_size S R
  have h := bys_getElem (hidden S R) 11 (by omega)
  rw [show ((11 : Nat) : Int) = 11 from rfl] at h
  rw [← h]
  have h8 := hexL_len4 hS
  have : (bys (hidden S R))[11]? = some 46 := by
    rw [bys_hidden]
    show (hexL (bys S) ++ ([46] ++ hexL (bys R)))[8]? = _
    rw [List.getElem?_append_right (by omega), h8]
    rfl
  rw [List.getElem?_eq_getElem (by rw [bys_length]; omega)] at this
  exact Option.some.inj this
end Go.Proofs.YtgbpfoegimgcjaaOc
