/-
  secret: parts: which texts are hidden passwords, and what they hold. Condition: none.
-/
import Derived.Test.YtgbpfoegimgcjaaSecP
import Derived.Test.YtgbpfoegimgcjaaCls
namespace Go.Proofs.YtgbpfoegimgcjaaOc
open Go.Proofs.YtgbpfoegimgcjaaCls Go.RowKit Go.Proofs.YtgbpfoegimgcjaaW.PrintWords Go.Proofs.YtgbpfoegimgcjaaW.PrintMore Go.Proofs.Ytgbpfoegimgcjaa.PU
set_option linter.unusedSimpArgs false
set_option linter.unusedVariables false

theorem results_sct {P : Program} {fn : Func} {p a c : Tmp} {ty : TypeId} (h : fn.results = #[.tmp a, .cell p ty, .tmp c]) (tmps : Array Value) (w : World) (g : Nat) (t : TypeId) (cs : Array Value) (fr : Nat × Nat) (d : TypeDesc)
    (hp : tmps.getD p undef = .pointer (some ⟨g, 0, none⟩)) (hg : w.heap[g]? = some (.cells cs t fr))
    (hu : P.underlying ty = some d) (hd : (match d with | .struct _ | .array _ _ => true | _ => false) = true) (hi : (P.info? ty).map (·.size) = some cs.size) (x y : Value) (hx : tmps.getD a undef = x) (hy : tmps.getD c undef = y) :
    (results fn tmps).run P w = .ok (.tuple #[x, .agg cs, y]) w := by
  subst hx hy
  simp only [results, h]
  simp [Sem.run_bind, Result.andThen, asAddr]
  simp only [Array.getD_eq_getD_getElem?] at hp
  simp [hp, run_loadVar_row w g t ty cs fr d hg hu hd hi]
def zeros : Array Value := #[.int .u32 0, .int .u32 0, .int .u32 0, .int .u32 0]
theorem row4 {W : World} {n : Nat} (h : W.heap[n]? = some (.cells zeros 34 (0, 0))) : W.cell? ⟨n, 0, none⟩ = some (.int .u32 0) ∧ W.cell? ⟨n, 1, none⟩ = some (.int .u32 0) ∧ W.cell? ⟨n, 2, none⟩ = some (.int .u32 0) ∧ W.cell? ⟨n, 3, none⟩ = some (.int .u32 0) ∧
    W.frozen? ⟨n, 0, none⟩ = false ∧ W.frozen? ⟨n, 1, none⟩ = false ∧ W.frozen? ⟨n, 2, none⟩ = false ∧ W.frozen? ⟨n, 3, none⟩ = false :=
  ⟨(cell_of_row _ _ _ _ _ _ h).trans rfl, (cell_of_row _ _ _ _ _ _ h).trans rfl, (cell_of_row _ _ _ _ _ _ h).trans rfl, (cell_of_row _ _ _ _ _ _ h).trans rfl, frozen_of_row _ _ _ _ _ h, frozen_of_row _ _ _ _ _ h, frozen_of_row _ _ _ _ _ h, frozen_of_row _ _ _ _ _ h⟩
theorem set4 {W : World} {n : Nat} {cs : Array Value} (hs : cs.size = 4) (h : W.heap[n]? = some (.cells cs 34 (0, 0))) (a b c d : Value) :
    ((((W.setCell ⟨n, 0, none⟩ a).setCell ⟨n, 1, none⟩ b).setCell ⟨n, 2, none⟩ c).setCell ⟨n, 3, none⟩ d).heap[n]? = some (.cells #[a, b, c, d] 34 (0, 0)) := by
  have g1 := heap_setCell_same _ _ 0 _ _ a h
  have g2 := heap_setCell_same _ _ 1 _ _ b g1
  have g3 := heap_setCell_same _ _ 2 _ _ c g2
  have g4 := heap_setCell_same _ _ 3 _ _ d g3
  rw [g4]
  obtain ⟨l⟩ := cs
  obtain ⟨x0, l, rfl⟩ : ∃ x l', l = x :: l' := by cases l with | nil => simp at hs | cons x l => exact ⟨_, _, rfl⟩
  obtain ⟨x1, l, rfl⟩ : ∃ x l', l = x :: l' := by cases l with | nil => simp at hs | cons x l => exact ⟨_, _, rfl⟩
  obtain ⟨x2, l, rfl⟩ : ∃ x l', l = x :: l' := by cases l with | nil => simp at hs | cons x l => exact ⟨_, _, rfl⟩
  obtain ⟨x3, l, rfl⟩ : ∃ x l', l = x :: l' := by cases l with | nil => simp at hs | cons x l => exact ⟨_, _, rfl⟩
  obtain rfl : l = [] := by cases l with | nil => rfl | cons x l => simp at hs
  rfl
theorem below4 {B n : Nat} {w W : World} (h : Below B w W) (hn : B ≤ n) (a b c d : Value) :
    Below B w ((((W.setCell ⟨n, 0, none⟩ a).setCell ⟨n, 1, none⟩ b).setCell ⟨n, 2, none⟩ c).setCell ⟨n, 3, none⟩ d) :=
  (((h.setCell (p := ⟨n, 0, none⟩) hn _).setCell (p := ⟨n, 1, none⟩) hn _).setCell (p := ⟨n, 2, none⟩) hn _).setCell (p := ⟨n, 3, none⟩) hn _
set_option maxRecDepth 100000 in
set_option maxHeartbeats 1000000 in
theorem parts_no (s : ByteArray) (hs : s.size ≤ 4611686018427387904) (hn : ¬ isHid s) (w : World) :
    Calls Try.prog 18 #[.string s] w fun e w' => e = .returned (.tuple #[.string ⟨#[]⟩, .agg zeros, .bool false]) ∧ Below w.heap.size w w' := by
  by_cases h1 : s.size = 44
  case neg =>
    have d1 : (((s.size : Nat) : Int) != 44) = true := by simp; omega
    clear h1 hn
    go_enter Try.func18, Try.ntmps18
    go_wp2_with fail
    refine bodyPost_ret (v := .tuple #[.string ⟨#[]⟩, .agg zeros, .bool false]) ?_ rfl ⟨rfl, below_alloc (Below.refl _ _) _⟩
    exact results_sct rfl _ _ w.heap.size 34 zeros (0, 0) _ rfl (heap_alloc_new _ _) Try.underlying34 rfl rfl _ _ rfl rfl
  have d1 : (((s.size : Nat) : Int) != 44) = false := by simp; omega
  by_cases h2 : (s.extract 0 3).toList = ([123, 83, 125] : List UInt8)
  case neg =>
    have d2 : ((s.extract 0 3).toList != ([123, 83, 125] : List UInt8)) = true := by simpa using h2
    clear hn
    go_enter Try.func18, Try.ntmps18
    go_wp2_with fail
    refine bodyPost_ret (v := .tuple #[.string ⟨#[]⟩, .agg zeros, .bool false]) ?_ rfl ⟨rfl, below_alloc (Below.refl _ _) _⟩
    exact results_sct rfl _ _ w.heap.size 34 zeros (0, 0) _ rfl (heap_alloc_new _ _) Try.underlying34 rfl rfl _ _ rfl rfl
  have d2 : ((s.extract 0 3).toList != ([123, 83, 125] : List UInt8)) = false := by simpa using h2
  have hx : ∀ h : 11 < s.size, ((s[11]'h).toNat : Int) = bt s 11 := bt_at s 11
  have h4 : 11 < s.size := by omega
  have h5 : 3 ≤ s.size := by omega
  have h6 : 11 ≤ s.size := by omega
  have h7 : 12 ≤ s.size := by omega
  by_cases h3 : bt s 11 = 46
  case neg =>
    have d3 : (bt s 11 != 46) = true := by simpa using h3
    clear hn
    generalize bt s 11 = c at *
    go_enter Try.func18, Try.ntmps18
    go_wp2_with fail
    refine bodyPost_ret (v := .tuple #[.string ⟨#[]⟩, .agg zeros, .bool false]) ?_ rfl ⟨rfl, below_alloc (Below.refl _ _) _⟩
    exact results_sct rfl _ _ w.heap.size 34 zeros (0, 0) _ rfl (heap_alloc_new _ _) Try.underlying34 rfl rfl _ _ rfl rfl
  have d3 : (bt s 11 != 46) = false := by simpa using h3
  have hl1 : (s.extract 3 11).size ≤ 44 := by simp; omega
  have hl2 : (s.extract 12 44).size ≤ 44 := by simp; omega
  have k1 : Hid (∀ W, Calls Try.prog 23 #[.string (s.extract 3 11)] W fun e w' => e = .returned (.tuple #[.string (unhexS (s.extract 3 11)).1, .int .i64 (unhexS (s.extract 3 11)).2]) ∧ Below W.heap.size W w') := Lib.hid fun W => c_Unhex _ (by omega) W
  have k2 : Hid (∀ W, Calls Try.prog 23 #[.string (s.extract 12 44)] W fun e w' => e = .returned (.tuple #[.string (unhexS (s.extract 12 44)).1, .int .i64 (unhexS (s.extract 12 44)).2]) ∧ Below W.heap.size W w') := Lib.hid fun W => c_Unhex _ (by omega) W
  have k3 : Hid (∀ S : ByteArray, S.size ≤ 44 → Hid (∀ W, Calls Try.prog 13 #[.string S] W fun e w' => e = .returned (.string (hexS S)) ∧ Below W.heap.size W w')) := Lib.hid fun S hS => Lib.hid fun W => c_Hex S (by omega) W
  have e1 := unhexS_or (s.extract 3 11)
  have e2 := unhexS_or (s.extract 12 44)
  have s1 := unhexS_size (s.extract 3 11)
  have s2 := unhexS_size (s.extract 12 44)
  have e3 : (unhexS (s.extract 3 11)).2 = 0 → (unhexS (s.extract 12 44)).2 = 0 → ((hexS (unhexS (s.extract 3 11)).1 ++ hexS (unhexS (s.extract 12 44)).1).toList == (s.extract 3 11 ++ s.extract 12 44).toList) = false := by
    intro f1 f2
    cases hc : ((hexS (unhexS (s.extract 3 11)).1 ++ hexS (unhexS (s.extract 12 44)).1).toList == (s.extract 3 11 ++ s.extract 12 44).toList)
    · rfl
    · exact absurd (hid_of s h1 h2 h3 f1 f2 (eq_of_toList (by simpa using hc))) hn
  clear hn
  generalize bt s 11 = c at *
  generalize unhexS (s.extract 3 11) = u1 at *
  generalize unhexS (s.extract 12 44) = u2 at *
  obtain ⟨S, f1⟩ := u1
  obtain ⟨R, f2⟩ := u2
  simp only at e1 e2 s1 s2 e3 k1 k2
  rcases e1 with rfl | rfl
  · rcases e2 with rfl | rfl
    · replace e3 := e3 rfl rfl
      have s3 := hexS_size S
      have s4 := hexS_size R
      have k4 := k3.out S (by omega)
      have k5 := k3.out R (by omega)
      clear k3
      generalize hexS S = X at *
      generalize hexS R = Y at *
      go_enter Try.func18, Try.ntmps18
      go_wp2_with (first
        | (go_at_call_of 23 (s.extract 3 11); go_loud (with_reducible (refine (k1.out _).mono ?_); rintro e w1 ⟨rfl, hb1⟩; have hz := blk_below (heap_alloc_new w _) hb1; replace hb1 := bstep (below_alloc (Below.refl _ _) _) hb1 (by simp)))
        | (go_at_call 23; go_loud (with_reducible (refine (k2.out _).mono ?_); rintro e w2 ⟨rfl, hb2⟩; replace hz := blk_below hz hb2; replace hb1 := bstep hb1 hb2 hb1.size; clear hb2)))
      have hz3 : w2.drew.heap[w.heap.size]? = some (.cells zeros 34 (0, 0)) := hz
      have hb3 : Below w.heap.size w w2.drew := hb1.drew
      obtain ⟨ι, φ, hι, hD, hS⟩ := cls_of (fun W => Below w.heap.size w W ∧ W.heap[w.heap.size]? = some (.cells zeros 34 (0, 0))) w2.drew ⟨hb3, hz3⟩
      have hst : ∀ W W', (Below w.heap.size w W ∧ W.heap[w.heap.size]? = some (.cells zeros 34 (0, 0))) → Below W.heap.size W W' → (Below w.heap.size w W' ∧ W'.heap[w.heap.size]? = some (.cells zeros 34 (0, 0))) := fun W W' h hb => ⟨bstep h.1 hb h.1.size, blk_below h.2 hb⟩
      have HF := Lib.hid (And.intro hD (And.intro hS hst))
      refine wp_region_cls φ (by kernel_rfl) (by kernel_rfl) (hS _ ⟨hb3, hz3⟩) ?_
      clear hD hS hst hz3 hb3 hz hb1
      repeat (go_big_quiet_step (first
        | (go_at_call_of 13 S; exact call_cls HF.out.1 HF.out.2.1 HF.out.2.2 k4 _)
        | (go_at_call_of 13 R; exact call_cls HF.out.1 HF.out.2.1 HF.out.2.2 k5 _)))
      refine wpQuiet_nil ?_
      rintro _ ⟨i, rfl⟩
      obtain ⟨hb3, hz3⟩ := HF.out.1 i
      generalize φ i = W at hb3 hz3 ⊢
      obtain ⟨z0, z1, z2, z3, q0, q1, q2, q3⟩ := row4 hz3
      go_wp2_with fail
      refine bodyPost_ret (v := .tuple #[.string ⟨#[]⟩, .agg zeros, .bool false]) ?_ rfl ⟨rfl, below4 hb3 (Nat.le_refl _) _ _ _ _⟩
      exact results_sct rfl _ _ w.heap.size 34 zeros (0, 0) _ rfl (set4 rfl hz3 _ _ _ _) Try.underlying34 rfl rfl _ _ rfl rfl
    · clear e3
      go_enter Try.func18, Try.ntmps18
      go_wp2_with (first
        | (go_at_call_of 23 (s.extract 3 11); go_loud (with_reducible (refine (k1.out _).mono ?_); rintro e w1 ⟨rfl, hb1⟩; have hz := blk_below (heap_alloc_new w _) hb1; replace hb1 := bstep (below_alloc (Below.refl _ _) _) hb1 (by simp)))
        | (go_at_call 23; go_loud (with_reducible (refine (k2.out _).mono ?_); rintro e w2 ⟨rfl, hb2⟩; replace hz := blk_below hz hb2; replace hb1 := bstep hb1 hb2 hb1.size; clear hb2)))
      go_region
      have hz3 : w2.drew.heap[w.heap.size]? = some (.cells zeros 34 (0, 0)) := hz
      have hb3 : Below w.heap.size w w2.drew := hb1.drew
      clear hz hb1
      generalize w2.drew = W at hz3 hb3 ⊢
      obtain ⟨z0, z1, z2, z3, q0, q1, q2, q3⟩ := row4 hz3
      go_wp2_with fail
      refine bodyPost_ret (v := .tuple #[.string ⟨#[]⟩, .agg zeros, .bool false]) ?_ rfl ⟨rfl, below4 hb3 (Nat.le_refl _) _ _ _ _⟩
      exact results_sct rfl _ _ w.heap.size 34 zeros (0, 0) _ rfl (set4 rfl hz3 _ _ _ _) Try.underlying34 rfl rfl _ _ rfl rfl
  · rcases e2 with rfl | rfl
    · clear e3
      go_enter Try.func18, Try.ntmps18
      go_wp2_with (first
        | (go_at_call_of 23 (s.extract 3 11); go_loud (with_reducible (refine (k1.out _).mono ?_); rintro e w1 ⟨rfl, hb1⟩; have hz := blk_below (heap_alloc_new w _) hb1; replace hb1 := bstep (below_alloc (Below.refl _ _) _) hb1 (by simp)))
        | (go_at_call 23; go_loud (with_reducible (refine (k2.out _).mono ?_); rintro e w2 ⟨rfl, hb2⟩; replace hz := blk_below hz hb2; replace hb1 := bstep hb1 hb2 hb1.size; clear hb2)))
      go_region
      have hz3 : w2.drew.heap[w.heap.size]? = some (.cells zeros 34 (0, 0)) := hz
      have hb3 : Below w.heap.size w w2.drew := hb1.drew
      clear hz hb1
      generalize w2.drew = W at hz3 hb3 ⊢
      obtain ⟨z0, z1, z2, z3, q0, q1, q2, q3⟩ := row4 hz3
      go_wp2_with fail
      refine bodyPost_ret (v := .tuple #[.string ⟨#[]⟩, .agg zeros, .bool false]) ?_ rfl ⟨rfl, below4 hb3 (Nat.le_refl _) _ _ _ _⟩
      exact results_sct rfl _ _ w.heap.size 34 zeros (0, 0) _ rfl (set4 rfl hz3 _ _ _ _) Try.underlying34 rfl rfl _ _ rfl rfl
    · clear e3
      go_enter Try.func18, Try.ntmps18
      go_wp2_with (first
        | (go_at_call_of 23 (s.extract 3 11); go_loud (with_reducible (refine (k1.out _).mono ?_); rintro e w1 ⟨rfl, hb1⟩; have hz := blk_below (heap_alloc_new w _) hb1; replace hb1 := bstep (below_alloc (Below.refl _ _) _) hb1 (by simp)))
        | (go_at_call 23; go_loud (with_reducible (refine (k2.out _).mono ?_); rintro e w2 ⟨rfl, hb2⟩; replace hz := blk_below hz hb2; replace hb1 := bstep hb1 hb2 hb1.size; clear hb2)))
      go_region
      have hz3 : w2.drew.heap[w.heap.size]? = some (.cells zeros 34 (0, 0)) := hz
      have hb3 : Below w.heap.size w w2.drew := hb1.drew
      clear hz hb1
      generalize w2.drew = W at hz3 hb3 ⊢
      obtain ⟨z0, z1, z2, z3, q0, q1, q2, q3⟩ := row4 hz3
      go_wp2_with fail
      refine bodyPost_ret (v := .tuple #[.string ⟨#[]⟩, .agg zeros, .bool false]) ?_ rfl ⟨rfl, below4 hb3 (Nat.le_refl _) _ _ _ _⟩
      exact results_sct rfl _ _ w.heap.size 34 zeros (0, 0) _ rfl (set4 rfl hz3 _ _ _ _) Try.underlying34 rfl rfl _ _ rfl rfl
/-- the k-th number that a text of sixteen bytes holds -/
def vk (R : ByteArray) (k : Nat) : Int := valL 0 (bys (R.extract (4 * k) (4 * k + 4)))
theorem vk_range {R : ByteArray} (hR : R.size = 16) (k : Nat) (hk : k < 4) : 0 ≤ vk R k ∧ vk R k < 4294967296 := by
  have hl : (R.extract (4 * k) (4 * k + 4)).size = 4 := by simp; omega
  have := valL_bound (bys (R.extract (4 * k) (4 * k + 4))) (bys_mem _) 0
  rw [bys_length, hl] at this
  unfold vk
  have e : (256 : Int) ^ 4 = 4294967296 := rfl
  rw [e] at this
  omega
theorem getS_vk {R : ByteArray} (hR : R.size = 16) (k : Nat) (hk : k < 4) : getS (R.extract (4 * k) (4 * k + 4)) = (vk R k, 0) := by
  have hl : (R.extract (4 * k) (4 * k + 4)).size = 4 := by simp; omega
  unfold getS
  rw [if_neg (by omega)]
  rfl
/-- what the array holds when k numbers are read -/
def getCells (R : ByteArray) (k : Nat) : Array Value := #[.int .u32 (if 0 < k then vk R 0 else 0), .int .u32 (if 1 < k then vk R 1 else 0), .int .u32 (if 2 < k then vk R 2 else 0), .int .u32 (if 3 < k then vk R 3 else 0)]
set_option maxRecDepth 100000 in
set_option maxHeartbeats 1000000 in
theorem parts_yes (S R : ByteArray) (hS : S.size = 4) (hR : R.size = 16) (w : World) :
    Calls Try.prog 18 #[.string (hidden S R)] w fun e w' => e = .returned (.tuple #[.string S, .agg (getCells R 4), .bool true]) ∧ Below w.heap.size w w' := by
  have h1 : (hidden S R).size = 44 := by rw [hidden_size]; omega
  have d1 : (((hidden S R).size : Nat) : Int) = 44 := by omega
  have hp : ((hidden S R).extract 0 3) = ⟨#[123, 83, 125]⟩ := hidden_0 S R
  have hc := hidden_11 hS R
  have hx : ∀ h : 11 < (hidden S R).size, (((hidden S R)[11]'h).toNat : Int) = 46 := fun h => (bt_at (hidden S R) 11 h).trans hc
  have hx1 := hidden_3 hS R
  have hx2 := hidden_12 hS hR
  have k1 : Hid (∀ W, Calls Try.prog 23 #[.string (hexS S)] W fun e w' => e = .returned (.tuple #[.string S, .int .i64 0]) ∧ Below W.heap.size W w') := Lib.hid fun W => by
    have := c_Unhex (hexS S) (by rw [hexS_size]; omega) W
    rw [unhexS_hexS] at this
    exact this
  have k2 : Hid (∀ W, Calls Try.prog 23 #[.string (hexS R)] W fun e w' => e = .returned (.tuple #[.string R, .int .i64 0]) ∧ Below W.heap.size W w') := Lib.hid fun W => by
    have := c_Unhex (hexS R) (by rw [hexS_size]; omega) W
    rw [unhexS_hexS] at this
    exact this
  have k4 : Hid (∀ W, Calls Try.prog 13 #[.string S] W fun e w' => e = .returned (.string (hexS S)) ∧ Below W.heap.size W w') := Lib.hid fun W => c_Hex S (by omega) W
  have k5 : Hid (∀ W, Calls Try.prog 13 #[.string R] W fun e w' => e = .returned (.string (hexS R)) ∧ Below W.heap.size W w') := Lib.hid fun W => c_Hex R (by omega) W
  have s3 := hexS_size S
  have s4 := hexS_size R
  generalize hidden S R = s at *
  generalize hexS S = X at *
  generalize hexS R = Y at *
  clear hc
  go_enter Try.func18, Try.ntmps18
  go_wp2_with (first
    | (go_at_call_of 23 X; go_loud (with_reducible (refine (k1.out _).mono ?_); rintro e w1 ⟨rfl, hb1⟩; have hz := blk_below (heap_alloc_new w _) hb1; replace hb1 := bstep (below_alloc (Below.refl _ _) _) hb1 (by simp)))
    | (go_at_call_of 23 Y; go_loud (with_reducible (refine (k2.out _).mono ?_); rintro e w2 ⟨rfl, hb2⟩; replace hz := blk_below hz hb2; replace hb1 := bstep hb1 hb2 hb1.size; clear hb2)))
  have hz3 : w2.drew.heap[w.heap.size]? = some (.cells zeros 34 (0, 0)) := hz
  have hb3 : Below w.heap.size w w2.drew := hb1.drew
  have hn : w.heap.size < w2.drew.heap.size := blk_lt hz3
  obtain ⟨ι, φ, hι, hD, hS⟩ := cls_of (fun W => Below w.heap.size w W ∧ W.heap[w.heap.size]? = some (.cells zeros 34 (0, 0))) w2.drew ⟨hb3, hz3⟩
  have hst : ∀ W W', (Below w.heap.size w W ∧ W.heap[w.heap.size]? = some (.cells zeros 34 (0, 0))) → Below W.heap.size W W' → (Below w.heap.size w W' ∧ W'.heap[w.heap.size]? = some (.cells zeros 34 (0, 0))) := fun W W' h hb => ⟨bstep h.1 hb h.1.size, blk_below h.2 hb⟩
  have HF := Lib.hid (And.intro hD (And.intro hS hst))
  refine wp_region_cls φ (by kernel_rfl) (by kernel_rfl) (hS _ ⟨hb3, hz3⟩) ?_
  clear hD hS hst hz3 hb3 hz hb1
  repeat (go_big_quiet_step (first
    | (go_at_call_of 13 S; exact call_cls HF.out.1 HF.out.2.1 HF.out.2.2 k4 _)
    | (go_at_call_of 13 R; exact call_cls HF.out.1 HF.out.2.1 HF.out.2.2 k5 _)))
  refine wpQuiet_nil ?_
  rintro _ ⟨i, rfl⟩
  obtain ⟨hb3, hz3⟩ := HF.out.1 i
  generalize φ i = W at hb3 hz3 ⊢
  clear HF hn
  have hm : w.heap.size < W.heap.size := blk_lt hz3
  have H1 : Hid (∀ j : Nat, j < 4 → Hid (∀ W, Calls Try.prog 24 #[.string (R.extract (4 * j) (4 * j + 4))] W fun e w' => e = .returned (.tuple #[.int .i64 (vk R j), .int .i64 0]) ∧ Below W.heap.size W w')) := Lib.hid fun j hj => Lib.hid fun W => by
    have := c_Get (R.extract (4 * j) (4 * j + 4)) W
    rw [getS_vk hR j hj] at this
    exact this
  clear k1 k2 k4 k5 h1 d1 hp hx s3 s4 hx1 hx2
  go_wp2_with fail
  go_loopw [59] (fun i wr => ∃ (k : Nat) (K : Int), K = k ∧ k ≤ 4 ∧ i = .int .i64 K ∧ Below w.heap.size w wr ∧ wr.heap[w.heap.size]? = some (.cells zeros 34 (0, 0)) ∧ wr.heap[W.heap.size]? = some (.cells (getCells R k) 34 (0, 0))) (fun i _ => 4 - (intOf i).toNat)
  case atStart => exact ⟨0, 0, rfl, by omega, rfl, below_alloc hb3 _, blk_alloc hz3 _, by rw [heap_alloc_new]; rfl⟩
  case round =>
    clear hb3 hz3
    obtain ⟨k, K, hK, hk, rfl, hB, hz, hx⟩ := hrel
    obtain rfl | rfl | rfl | rfl | rfl : k = 0 ∨ k = 1 ∨ k = 2 ∨ k = 3 ∨ k = 4 := by omega
    · obtain rfl : K = 0 := by omega
      clear hK hk
      have e0 : Hid ((getCells R 0)[0]? = some (Value.int .u32 0)) := Lib.hid rfl
      have k1 := H1.out 0 (by omega)
      obtain ⟨x, hxe⟩ : ∃ x, x = vk R 0 := ⟨_, rfl⟩
      rw [← hxe] at k1
      have hxr : 0 ≤ x ∧ x < 4294967296 := by rw [hxe]; exact vk_range hR 0 (by omega)
      have hxw : x % 4294967296 = x := by omega
      have HX := Lib.hid hxe
      clear hxe
      go_wp2_with (go_at_call 24; go_loud (with_reducible (refine (k1.out _).mono ?_); rintro e w1 ⟨rfl, hb1⟩; have hx1 := blk_below hx hb1; have hcc := (cell_of_row w1 _ 0 _ _ _ hx1).trans e0.out; have hfz := frozen_of_row w1 _ 0 _ _ hx1))
      exact ⟨⟨1, 1, rfl, by omega, rfl, (bstep hB hb1 hB.size).setCell (Nat.le_of_lt hm) _, (heap_setCell_other w1 _ _ _ (by simp; omega)).trans (blk_below hz hb1), (heap_setCell_same w1 _ _ _ _ _ hx1).trans (by rw [HX.out]; rfl)⟩, by simp [intOf]⟩
    · obtain rfl : K = 1 := by omega
      clear hK hk
      have e0 : Hid ((getCells R 1)[1]? = some (Value.int .u32 0)) := Lib.hid rfl
      have k1 := H1.out 1 (by omega)
      obtain ⟨x, hxe⟩ : ∃ x, x = vk R 1 := ⟨_, rfl⟩
      rw [← hxe] at k1
      have hxr : 0 ≤ x ∧ x < 4294967296 := by rw [hxe]; exact vk_range hR 1 (by omega)
      have hxw : x % 4294967296 = x := by omega
      have HX := Lib.hid hxe
      clear hxe
      go_wp2_with (go_at_call 24; go_loud (with_reducible (refine (k1.out _).mono ?_); rintro e w1 ⟨rfl, hb1⟩; have hx1 := blk_below hx hb1; have hcc := (cell_of_row w1 _ 1 _ _ _ hx1).trans e0.out; have hfz := frozen_of_row w1 _ 1 _ _ hx1))
      exact ⟨⟨2, 2, rfl, by omega, rfl, (bstep hB hb1 hB.size).setCell (Nat.le_of_lt hm) _, (heap_setCell_other w1 _ _ _ (by simp; omega)).trans (blk_below hz hb1), (heap_setCell_same w1 _ _ _ _ _ hx1).trans (by rw [HX.out]; rfl)⟩, by simp [intOf]⟩
    · obtain rfl : K = 2 := by omega
      clear hK hk
      have e0 : Hid ((getCells R 2)[2]? = some (Value.int .u32 0)) := Lib.hid rfl
      have k1 := H1.out 2 (by omega)
      obtain ⟨x, hxe⟩ : ∃ x, x = vk R 2 := ⟨_, rfl⟩
      rw [← hxe] at k1
      have hxr : 0 ≤ x ∧ x < 4294967296 := by rw [hxe]; exact vk_range hR 2 (by omega)
      have hxw : x % 4294967296 = x := by omega
      have HX := Lib.hid hxe
      clear hxe
      go_wp2_with (go_at_call 24; go_loud (with_reducible (refine (k1.out _).mono ?_); rintro e w1 ⟨rfl, hb1⟩; have hx1 := blk_below hx hb1; have hcc := (cell_of_row w1 _ 2 _ _ _ hx1).trans e0.out; have hfz := frozen_of_row w1 _ 2 _ _ hx1))
      exact ⟨⟨3, 3, rfl, by omega, rfl, (bstep hB hb1 hB.size).setCell (Nat.le_of_lt hm) _, (heap_setCell_other w1 _ _ _ (by simp; omega)).trans (blk_below hz hb1), (heap_setCell_same w1 _ _ _ _ _ hx1).trans (by rw [HX.out]; rfl)⟩, by simp [intOf]⟩
    · obtain rfl : K = 3 := by omega
      clear hK hk
      have e0 : Hid ((getCells R 3)[3]? = some (Value.int .u32 0)) := Lib.hid rfl
      have k1 := H1.out 3 (by omega)
      obtain ⟨x, hxe⟩ : ∃ x, x = vk R 3 := ⟨_, rfl⟩
      rw [← hxe] at k1
      have hxr : 0 ≤ x ∧ x < 4294967296 := by rw [hxe]; exact vk_range hR 3 (by omega)
      have hxw : x % 4294967296 = x := by omega
      have HX := Lib.hid hxe
      clear hxe
      go_wp2_with (go_at_call 24; go_loud (with_reducible (refine (k1.out _).mono ?_); rintro e w1 ⟨rfl, hb1⟩; have hx1 := blk_below hx hb1; have hcc := (cell_of_row w1 _ 3 _ _ _ hx1).trans e0.out; have hfz := frozen_of_row w1 _ 3 _ _ hx1))
      exact ⟨⟨4, 4, rfl, by omega, rfl, (bstep hB hb1 hB.size).setCell (Nat.le_of_lt hm) _, (heap_setCell_other w1 _ _ _ (by simp; omega)).trans (blk_below hz hb1), (heap_setCell_same w1 _ _ _ _ _ hx1).trans (by rw [HX.out]; rfl)⟩, by simp [intOf]⟩
    · obtain rfl : K = 4 := by omega
      clear hK hk
      have hB' : Below w.heap.size w wr.drew := hB.drew
      have hz' : wr.drew.heap[w.heap.size]? = some (.cells zeros 34 (0, 0)) := hz
      have hx' : wr.drew.heap[W.heap.size]? = some (.cells (getCells R 4) 34 (0, 0)) := hx
      have hd0 := (cell_of_row wr _ 0 _ _ _ hx).trans (Eq.refl (some (Value.int .u32 (vk R 0))))
      have hd1 := (cell_of_row wr _ 1 _ _ _ hx).trans (Eq.refl (some (Value.int .u32 (vk R 1))))
      have hd2 := (cell_of_row wr _ 2 _ _ _ hx).trans (Eq.refl (some (Value.int .u32 (vk R 2))))
      have hd3 := (cell_of_row wr _ 3 _ _ _ hx).trans (Eq.refl (some (Value.int .u32 (vk R 3))))
      obtain ⟨z0, z1, z2, z3, q0, q1, q2, q3⟩ := row4 hz
      have HZ := Lib.hid (And.intro hB' hz')
      clear hB hz hx hB' hz' hx'
      go_wp2_with fail
      go_region
      all_goals
        go_wp2_with fail
        refine bodyPost_ret (v := .tuple #[.string S, .agg (getCells R 4), .bool true]) ?_ rfl ⟨rfl, below4 HZ.out.1 (Nat.le_refl _) _ _ _ _⟩
        exact results_sct rfl _ _ w.heap.size 34 (getCells R 4) (0, 0) _ rfl (set4 rfl HZ.out.2 _ _ _ _) Try.underlying34 rfl rfl _ _ rfl rfl
end Go.Proofs.YtgbpfoegimgcjaaOc
