/-
  wal: pieces, read, generation: plain functions and contracts. wal: read. Condition: a sector of 64 bytes.
-/
import Derived.Test.YtladbjlkkjcfnaaLgB
namespace Go.Proofs.YtladbjlkkjcfnaaLg
open Go.RowKit Go.Proofs.YtladbjlkkjcfnaaW.PrintWords Go.Proofs.YtladbjlkkjcfnaaW.PrintMore Go.Proofs.Ytladbjlkkjcfnaa.PU Go.Proofs.YtladbjlkkjcfnaaOc Go.Proofs.YtladbjlkkjcfnaaKp Go.Proofs.YtladbjlkkjcfnaaCm
set_option linter.unusedVariables false
set_option linter.unusedSimpArgs false
/-! ### pieces -/
def pcsK : Nat → ByteArray → List ByteArray
  | 0, s => [s]
  | k + 1, s => if 48 < s.size then s.extract 0 48 :: pcsK k (s.extract 48 s.size) else [s]
def pcs (s : ByteArray) : List ByteArray := pcsK s.size s
theorem pcsK_more : ∀ (k : Nat) (s : ByteArray), s.size ≤ 48 * k + 48 → ∀ j, k ≤ j → pcsK j s = pcsK k s
  | 0, s, h, 0, _ => rfl
  | 0, s, h, j + 1, _ => by
    show (if 48 < s.size then _ else [s]) = [s]
    rw [if_neg (by omega)]
  | k + 1, s, h, j + 1, hj => by
    show (if 48 < s.size then s.extract 0 48 :: pcsK j (s.extract 48 s.size) else [s]) = (if 48 < s.size then s.extract 0 48 :: pcsK k (s.extract 48 s.size) else [s])
    by_cases h1 : 48 < s.size
    · rw [if_pos h1, if_pos h1, pcsK_more k _ (by rw [ByteArray.size_extract]; omega) j (by omega)]
    · rw [if_neg h1, if_neg h1]
theorem pcsK_length : ∀ (k : Nat) (s : ByteArray), (pcsK k s).length ≤ k + 1
  | 0, s => by simp [pcsK]
  | k + 1, s => by
    unfold pcsK
    split
    · have := pcsK_length k (s.extract 48 s.size)
      simp
      omega
    · simp
theorem pcsK_count : ∀ (k : Nat) (s : ByteArray), s.size ≤ 48 * k + 48 → (pcsK k s).length = max 1 ((s.size + 47) / 48)
  | 0, s, h => by simp [pcsK]; omega
  | k + 1, s, h => by
    unfold pcsK
    by_cases h1 : 48 < s.size
    · rw [if_pos h1, List.length_cons, pcsK_count k _ (by rw [ByteArray.size_extract]; omega), ByteArray.size_extract]
      omega
    · rw [if_neg h1, List.length_singleton]
      omega
theorem pcs_count (s : ByteArray) : (pcs s).length = max 1 ((s.size + 47) / 48) := pcsK_count _ s (by omega)
theorem pcsK_sizes : ∀ (k : Nat) (s : ByteArray), s.size ≤ 48 * k + 48 → ∀ x ∈ pcsK k s, x.size ≤ 48
  | 0, s, h, x, hx => by
    obtain rfl := List.mem_singleton.1 hx
    omega
  | k + 1, s, h, x, hx => by
    unfold pcsK at hx
    by_cases h1 : 48 < s.size
    · rw [if_pos h1] at hx
      rcases List.mem_cons.1 hx with rfl | hx
      · rw [ByteArray.size_extract]; omega
      · exact pcsK_sizes k _ (by rw [ByteArray.size_extract]; omega) x hx
    · rw [if_neg h1] at hx
      obtain rfl := List.mem_singleton.1 hx
      omega
theorem pcs_sizes (s : ByteArray) : ∀ x ∈ pcs s, x.size ≤ 48 := pcsK_sizes _ s (by omega)
theorem pieces_l0 : ∀ (j : Nat) (s : ByteArray) (acc : List ByteArray) (k : Nat), s.size ≤ 48 * j + 48 → j < k → acc.length + j + 1 < 8796093022208 → wal_pieces.l0 k s acc = some (acc ++ pcsK j s) := by
  intro j
  induction j with
  | zero =>
    intro s acc k hs hk hl
    obtain ⟨k, rfl⟩ : ∃ m, k = m + 1 := ⟨k - 1, by omega⟩
    simp only [wal_pieces.l0]
    rw [if_neg (by omega), if_pos (by omega)]
    rfl
  | succ j ih =>
    intro s acc k hs hk hl
    obtain ⟨k, rfl⟩ : ∃ m, k = m + 1 := ⟨k - 1, by omega⟩
    simp only [wal_pieces.l0, pcsK]
    by_cases h1 : 48 < s.size
    · rw [if_pos (by omega), if_pos (by omega), if_pos (by omega), if_pos (by omega), if_pos h1, ih _ _ k (by rw [ByteArray.size_extract]; omega) (by omega) (by rw [List.length_append, List.length_singleton]; omega), List.append_assoc]
      rfl
    · rw [if_neg (by omega), if_pos (by omega), if_neg h1]
theorem pieces_eq (s : ByteArray) (hs : s.size ≤ 140737488355328) : wal_pieces.f (s.size / 48 + 1) s = some (pcs s) := by
  unfold wal_pieces.f
  rw [pieces_l0 (s.size / 48) s [] _ (by omega) (by omega) (by simp; omega), List.nil_append, pcs, ← pcsK_more (s.size / 48) s (by omega) s.size (by omega)]
/-- block g holds the texts -/
def TxtAt (w : World) (g : Nat) (l : List ByteArray) : Prop := ∃ cs, w.heap[g]? = some (.cells cs 9 (0, 0)) ∧ ∀ (j : Nat) (x : ByteArray), l[j]? = some x → cs[j]? = some (.string x)
theorem c_pieces (s : ByteArray) (hs : s.size ≤ 140737488355328) (w : World) : Calls Try.prog 25 #[.string s] w fun e w' => ∃ g c, e = .returned (.slice (some ⟨g, 0, none⟩) (pcs s).length c) ∧ (pcs s).length ≤ c ∧ w.heap.size ≤ g ∧ TxtAt w' g (pcs s) ∧ Below w.heap.size w w' := by
  refine (wal_pieces.calls _ s (pcs s) w (pieces_eq s hs)).mono fun e w' ⟨v, he, hR, hb⟩ => ?_
  obtain ⟨inner, hown⟩ := Kd.R_own hR
  obtain ⟨A, c, hv, hlc, hC⟩ := Kd.R_reads hR
  have hrd := (Kd.reads_of_C (enc := Value.string) (d := ByteArray.empty) (h1 := fun _ => rfl) hC).2.2
  have hp : 0 < (pcs s).length := by rw [pcs_count]; omega
  obtain ⟨_, ⟨_, e2⟩ | ⟨g, cap, cur, e0, hg, hcur, hn, _, hcs, _⟩⟩ := hown
  · omega
  · rw [e0] at hv
    simp only [Value.slice.injEq] at hv
    obtain ⟨rfl, _, rfl⟩ := hv
    obtain ⟨ad, he', hc⟩ := hrd hp
    cases he'
    refine ⟨g, cap, by rw [he, e0], hlc, hg, ⟨cur, hcur, fun j x hx => ?_⟩, hb⟩
    have hj : j < (pcs s).length := (List.getElem?_eq_some_iff.1 hx).1
    have := hc j hj
    rw [Addr.add_mid, Nat.zero_add, cell_of_row _ _ _ _ _ _ hcur, List.getD_eq_getElem?_getD, hx, Option.getD_some] at this
    exact this
/-! ### generation -/
theorem mx_max (a b : Int) : mx a b = max a b := by
  unfold mx
  split <;> omega
def genS (b : ByteArray) : Int := max (getS (b.extract 0 4)).1 (getS (b.extract 60 64)).1
theorem c_generation (b : ByteArray) (hb : b.size = 64) (w : World) : Calls Try.prog 21 #[.string b] w fun e w' => e = .returned (.int .i64 (genS b)) ∧ Below w.heap.size w w' := by
  refine (wal_generation.calls 10 b (genS b) w ?_).mono fun e w' h => h
  unfold wal_generation.f
  rw [if_pos (by omega), if_pos (by omega), get_eq _ _ (by omega)]
  simp only [Option.bind_some]
  rw [if_pos (by omega), get_eq _ _ (by omega), hb]
  simp only [Option.bind_some, genS, mx_max]
/-! ### read -/
def readPc (b : ByteArray) (gen place : Int) : ByteArray × Int × Bool :=
  let n := (getS (b.extract 4 6)).1
  let kind := bt b 6
  if n > 48 ∨ (kind ≠ 1 ∧ kind ≠ 2) ∨ (kind = 1 ∧ n ≠ 48) then (ByteArray.empty, 0, false)
  else (b.extract 8 (8 + n.toNat), kind, decide (b = formS (b.extract 8 (8 + n.toNat)) kind gen place))
end Go.Proofs.YtladbjlkkjcfnaaLg
namespace Go.Proofs.YtladbjlkkjcfnaaLg
open Go.RowKit Go.Proofs.YtladbjlkkjcfnaaW.PrintWords Go.Proofs.YtladbjlkkjcfnaaW.PrintMore Go.Proofs.Ytladbjlkkjcfnaa.PU Go.Proofs.YtladbjlkkjcfnaaOc Go.Proofs.YtladbjlkkjcfnaaKp Go.Proofs.YtladbjlkkjcfnaaCm
set_option linter.unusedVariables false
set_option linter.unusedSimpArgs false
theorem getS_range (b : ByteArray) : 0 ≤ (getS b).1 := by
  unfold getS
  split
  · exact Int.le_refl _
  · have := get_bound b b.size (Nat.le_refl _)
    rw [bys_take_all] at this
    exact this.1
theorem eq_of_toList (x y : ByteArray) : (x.toList == y.toList) = decide (x = y) := by
  by_cases h : x = y
  · subst h; simp
  · have : x.toList ≠ y.toList := fun e => h (ByteArray.ext (Array.toList_inj.1 (by rw [ByteArray.toList_eq, ByteArray.toList_eq] at e; exact e)))
    simp [h, this]
theorem c_read (b : ByteArray) (gen place : Int) (hb : b.size = 64) (w : World) : Calls Try.prog 22 #[.string b, .int .i64 gen, .int .i64 place] w fun e w' =>
    e = .returned (.tuple #[.string (readPc b gen place).1, .int .i64 (readPc b gen place).2.1, .bool (readPc b gen place).2.2]) ∧ Below w.heap.size w w' := by
  have kg := c_Get (b.extract 4 6) w
  have hP : readPc b gen place = if (getS (b.extract 4 6)).1 > 48 ∨ (bt b 6 ≠ 1 ∧ bt b 6 ≠ 2) ∨ (bt b 6 = 1 ∧ (getS (b.extract 4 6)).1 ≠ 48) then (ByteArray.empty, 0, false)
    else (b.extract 8 (8 + (getS (b.extract 4 6)).1.toNat), bt b 6, decide (b = formS (b.extract 8 (8 + (getS (b.extract 4 6)).1.toNat)) (bt b 6) gen place)) := rfl
  have hn0 := getS_range (b.extract 4 6)
  generalize (getS (b.extract 4 6)).1 = n at *
  generalize (getS (b.extract 4 6)).2 = n2 at *
  replace kg := Lib.hid kg
  have j1 : (6 : Int) ≤ (b.size : Int) := by omega
  have j2 : (6 : Int) < (b.size : Int) := by omega
  have j3 : 6 < b.size := by omega
  have hkr := Go.Proofs.YtladbjlkkjcfnaaOc.bt_range b 6
  have hw : wrap64 ((b[6]'j3).toNat : Int) = bt b 6 := by
    have e : bt b 6 = ((b[6]'j3).toNat : Int) := by unfold bt; rw [dif_pos (show (6 : Int).toNat < b.size by omega)]; rfl
    rw [← e]
    exact w64 (by omega)
  generalize bt b 6 = kd at *
  by_cases hbad : n > 48 ∨ (kd ≠ 1 ∧ kd ≠ 2) ∨ (kd = 1 ∧ n ≠ 48)
  · rw [if_pos hbad] at hP
    rw [hP]
    clear hP
    go_enter Try.func22, Try.ntmps22
    go_upto_region 3 with (first
      | (go_at_call 33; refine (kg.out).mono ?_; rintro e w1 ⟨rfl, hb1⟩; have HB := Lib.hid hb1; clear hb1))
    rw [hw]
    clear hw kg
    by_cases c1 : 48 < n
    · have d1 : decide (48 < n) = true := decide_eq_true c1
      clear hbad
      go_wp2_with fail
      go_ret3
      exact ⟨rfl, HB.out⟩
    have d1 : decide (48 < n) = false := decide_eq_false c1
    by_cases c2 : kd = 1
    · subst c2
      have d2 : (n == 48) = false := by simp; omega
      clear hbad
      go_wp2_with fail
      go_ret3
      exact ⟨rfl, HB.out⟩
    have d2 : (kd == 1) = false := by simpa using c2
    have c3 : ¬ kd = 2 := by omega
    clear hbad
    go_wp2_with fail
    go_ret3
    exact ⟨rfl, HB.out⟩
  · rw [if_neg hbad] at hP
    have hn48 : n ≤ 48 := by omega
    obtain ⟨m, rfl⟩ := Int.eq_ofNat_of_zero_le hn0
    have d1 : decide ((48 : Int) < (m : Int)) = false := decide_eq_false (by omega)
    rw [Int.toNat_natCast] at hP
    obtain ⟨t, ht⟩ : ∃ t, t = 8 + m := ⟨_, rfl⟩
    rw [← ht] at hP
    have w1 : IntKind.i64.wrap (8 + (m : Int)) = (t : Int) := by rw [IntKind.wrap_i64]; omega
    have i1 : (0 : Int) ≤ (t : Int) := by omega
    have i2 : (t : Int) ≤ (b.size : Int) := by omega
    have i3 : (8 : Int) ≤ (t : Int) := by omega
    have i4 : 8 ≤ t := by omega
    have hsl : ∀ W : World, (Instr.slice 9 (.string b) (some (.int .i64 8)) (some (.int .i64 (t : Int))) none).run Try.prog W = .ok (.string (b.extract 8 t)) W := fun W => by
      have := run_slice_string (P := Try.prog) (w := W) 9 b .i64 .i64 8 t Try.underlying9 (by omega) (by omega) (by omega)
      simpa using this
    have i5 : t ≤ b.size := by omega
    have hsz : (b.extract 8 t).size ≤ 48 := by rw [ByteArray.size_extract]; omega
    have kf := c_form (b.extract 8 t) kd gen place hsz (by omega)
    have he := eq_of_toList b (formS (b.extract 8 t) kd gen place)
    generalize formS (b.extract 8 t) kd gen place = F at *
    replace kf := Lib.hid kf
    have HE := Lib.hid he
    rw [hP]
    clear he hn0 hP
    go_enter Try.func22, Try.ntmps22
    go_upto_region 3 with (first
      | (go_at_call 33; refine (kg.out).mono ?_; rintro e w1 ⟨rfl, hb1⟩; have HB := Lib.hid hb1; clear hb1))
    rw [hw]
    clear hw kg
    rcases (show kd = 1 ∧ m = 48 ∨ kd = 2 by omega) with ⟨rfl, rfl⟩ | rfl
    · subst ht
      clear hbad hkr
      change Hid (∀ w, Calls Try.prog 27 #[.string (b.extract 8 56), .int .i64 1, .int .i64 gen, .int .i64 place] w fun e w' => e = .returned (.string F) ∧ Below w.heap.size w w') at kf
      go_wp2_with (first
        | (go_at_call 27; refine (kf.out _).mono ?_; rintro e w2 ⟨rfl, hb2⟩; have HB2 := Lib.hid hb2; clear hb2))
      go_ret3
      rw [HE.out]
      exact ⟨rfl, HB.out.trans (HB2.out.mono HB.out.size)⟩
    · clear hbad hkr ht
      go_wp2_with (first
        | (go_at_call 27; refine (kf.out _).mono ?_; rintro e w2 ⟨rfl, hb2⟩; have HB2 := Lib.hid hb2; clear hb2))

      go_ret3
      rw [HE.out]
      exact ⟨rfl, HB.out.trans (HB2.out.mono HB.out.size)⟩
end Go.Proofs.YtladbjlkkjcfnaaLg
