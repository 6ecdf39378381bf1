-- Written by a program of this session over the translation: walks of plain functions. Lean checks it.
import Derived.Test.YtcbaflnmfiofeaaPUx0
namespace Go.Proofs.Ytcbaflnmfiofeaa.PU
open Go.RowKit Go.Proofs.YtcbaflnmfiofeaaW.PrintWords Go.Proofs.YtcbaflnmfiofeaaW.PrintLast Go.Proofs.YtcbaflnmfiofeaaW.PrintMore
attribute [local go_sem] max2_int min2_int max_two min_two max_three min_three max_four min_four   -- for this text's walks alone
set_option linter.unusedVariables false
set_option linter.unusedSimpArgs false

-- NOT PRINTED: function 10 (vdisk_New)

-- NOT PRINTED: function 21 (vdisk_Disk_On)

-- NOT PRINTED: function 27 (vdisk_Disk_kept)

-- NOT PRINTED: function 14 (vdisk_Disk_Crash)

-- NOT PRINTED: function 26 (vdisk_Disk_burns)

-- NOT PRINTED: function 28 (vdisk_Disk_asked)

-- NOT PRINTED: function 13 (vdisk_Disk_Write)

-- NOT PRINTED: function 16 (vdisk_Disk_Read)

-- NOT PRINTED: function 17 (vdisk_Disk_Queue)

-- NOT PRINTED: function 24 (vdisk_Disk_Image)

-- NOT PRINTED: function 9 (chancerylaw10_alive)

/-! ### chancerylaw10_row: function 11 -/
def chancerylaw10_row.l0 : Nat → Int → List Int → Int → Option (ByteArray)
  | 0, _, _, _ => none
  | k + 1, x0, x3, x4 => if x4 < 64 then (if 0 ≤ x4 then (if x4 < (x3.length : Int) then (chancerylaw10_row.l0 k x0 (x3.set (x4 : Int).toNat ((x0) % 256)) (wrap64 (x4 + 1))) else (none)) else (none)) else (some (strOfNums x3))
def chancerylaw10_row.f (k : Nat) (a0 : Int) : Option (ByteArray) := if 64 ≤ 281474976710656 then (chancerylaw10_row.l0 k a0 (List.replicate 64 0) 0) else (none)
theorem chancerylaw10_row.mono_l : ∀ k, (∀ y0 y1 y2, LeO (chancerylaw10_row.l0 k y0 y1 y2) (chancerylaw10_row.l0 (k + 1) y0 y1 y2))
  | 0 => fun _ _ _ r h => by simp [chancerylaw10_row.l0] at h
  | k + 1 => by
    have ih0 := chancerylaw10_row.mono_l k
    · intro y0 y1 y2
      unfold chancerylaw10_row.l0
      repeat' first
      | (with_reducible exact ih0 _ _ _)
      | (with_reducible exact LeO.refl _)
      | (with_reducible exact LeO.none _)
      | (with_reducible refine LeO.ite ?_ ?_)
      | (with_reducible refine LeO.bind ?_ (fun _ => ?_))
      | exact ih0 _ _ _
      | exact LeO.none _
      | refine LeO.ite ?_ ?_
      | refine LeO.bind ?_ (fun _ => ?_)
theorem chancerylaw10_row.mono : ∀ a0 k, LeO (chancerylaw10_row.f k a0) (chancerylaw10_row.f (k + 1) a0) := by
  intro a0 k
  have ih0 := chancerylaw10_row.mono_l k
  unfold chancerylaw10_row.f
  repeat' first
      | (with_reducible exact ih0 _ _ _)
      | (with_reducible exact LeO.refl _)
      | (with_reducible exact LeO.none _)
      | (with_reducible refine LeO.ite ?_ ?_)
      | (with_reducible refine LeO.bind ?_ (fun _ => ?_))
      | exact ih0 _ _ _
      | exact LeO.none _
      | refine LeO.ite ?_ ?_
      | refine LeO.bind ?_ (fun _ => ?_)
set_option maxHeartbeats 8000000 in
set_option maxRecDepth 100000 in
theorem chancerylaw10_row.calls (k : Nat) (a0 : Int) (r : ByteArray) (w : World) (h : chancerylaw10_row.f k a0 = some r) :
    Calls Try.prog 11 #[.int .i64 a0] w fun e w' => e = .returned (.string r) ∧ Below w.heap.size w w' := by
  have HB := Aside0.mk (Below.refl w.heap.size w)
  have H : (if 64 ≤ 281474976710656 then (chancerylaw10_row.l0 k a0 (List.replicate 64 0) 0) else (none)) = some r := h
  clear h
  by_cases c2 : 64 ≤ 281474976710656
  · rw [if_pos c2] at H
    have c2b0 := eq_true c2
    have c2b1 : decide (64 ≤ 281474976710656) = true := decide_eq_true c2
    clear c2
    obtain ⟨y101, hy101⟩ : ∃ y_ : List Int, y_ = (List.replicate 64 0) := ⟨_, rfl⟩
    replace H : (chancerylaw10_row.l0 k a0 y101 0) = some r := by first | (rw [hy101]; with_reducible exact H) | (have H2_ := (Option.bind_some _ _).symm.trans H; rw [hy101]; with_reducible exact H2_) | (have H2_ := (Option.bind_some _ _).symm.trans H; with_reducible exact H2_) | with_reducible exact H | (rw [hy101]; exact H) | exact H
    have Ny101 := Aside0.mk hy101
    clear hy101
    have H' := Aside0.mk H
    clear H
    go_enter Try.func11, Try.ntmps11
    go_wp2_with (first | ((with_reducible refine gate_dst (N := 5) rfl ?_); refine Kd.R_make (Kd.int .u8) _ 5 rfl (N := 5) rfl 54 _ _ rfl 64 rfl rfl Try.underlying54 (.int .u8 0) 1 info5 rfl (by decide) (by omega) 0 (ok := fun _ => True) (okp := fun _ => True) rfl (fun _ hk => hk) trivial (by omega) (by omega) (Below.refl _ _) (Nat.le_refl _) ?_; intro v102 w3 ho4 hb hg_ hnew_; clear hg_ hnew_; (first | rw [← Ny101.out] at ho4 | (simp only [Int.reduceToNat] at ho4; rw [← Ny101.out] at ho4)); have n0_ := Aside0.mk (Kd.R_lower ho4 (below_size (by repeat (first | (with_reducible first | exact HB.out | apply below_alloc | apply pw_below_drewN | apply below_drew1) | exact HB.out)))); have n1_ := Aside0.mk (below_step (by repeat (first | (with_reducible first | exact HB.out | apply below_alloc | apply pw_below_drewN | apply below_drew1) | exact HB.out)) hb); clear HB; have HO103 := n0_; have HB := n1_; clear n0_ n1_; clear hb ho4))
    go_loopg [4] k (fun kq v4 w' => ∃ (x3_1 : List Int) (x4_1 : Int), v4 = .int .i64 x4_1 ∧ Aside0 (chancerylaw10_row.l0 kq a0 x3_1 x4_1 = some r) ∧ Aside0 (kq ≤ k) ∧ Aside0 (Kd.R (Kd.int .u8) 5 w' w.heap.size (fun _ => True) v102 x3_1) ∧ Aside0 (Below w.heap.size w w'))
    case atStart => exact ⟨(y101), (0), (by first | rfl | (simp; done) | (simp [*]; done)), H', ⟨Nat.le_refl _⟩, ⟨by (with_reducible repeat (first | apply Kd.R_alloc | apply Kd.R_drewN | apply Kd.R_drew)); exact HO103.out⟩, ⟨by repeat (first | (with_reducible first | exact HB.out | apply below_alloc | apply pw_below_drewN | apply below_drew1) | exact HB.out)⟩⟩
    case round =>
      clear H'
      try clear c1
      try clear c2
      try clear c2b0
      try clear c2b1
      try clear p2
      obtain ⟨x3_1, x4_1, rfl, HA, HK1, HO_3, HB⟩ := hrel
      cases gk with
      | zero => exact absurd HA.out (by simp [chancerylaw10_row.l0])
      | succ k1 =>
        have H := HA.out
        clear HA
        simp only [chancerylaw10_row.l0] at H
        by_cases c5 : x4_1 < 64
        · rw [if_pos c5] at H
          have c5b0 : decide (x4_1 < 64) = true := decide_eq_true c5
          clear c5
          by_cases c6 : 0 ≤ x4_1
          · rw [if_pos c6] at H
            have c6b0 : decide (0 ≤ x4_1) = true := decide_eq_true c6
            clear c6
            by_cases c7 : x4_1 < (x3_1.length : Int)
            · rw [if_pos c7] at H
              have c7b0 : decide (x4_1 < (x3_1.length : Int)) = true := decide_eq_true c7
              clear c7
              obtain ⟨y104, hy104⟩ : ∃ y_ : List Int, y_ = (x3_1.set (x4_1 : Int).toNat ((a0) % 256)) := ⟨_, rfl⟩
              replace H : (chancerylaw10_row.l0 k1 a0 y104 (wrap64 (x4_1 + 1))) = some r := by first | (rw [hy104]; with_reducible exact H) | (have H2_ := (Option.bind_some _ _).symm.trans H; rw [hy104]; with_reducible exact H2_) | (have H2_ := (Option.bind_some _ _).symm.trans H; with_reducible exact H2_) | with_reducible exact H | (rw [hy104]; exact H) | exact H
              have Ny104 := Aside0.mk hy104
              clear hy104
              have H' := Aside0.mk H
              clear H
              have p8 : 0 ≤ (x4_1 : Int) := of_decide_eq_true (by first | (with_reducible assumption) | assumption)
              have q8 : (x4_1 : Int) < ((x3_1.length : Int) : Int) := of_decide_eq_true (by first | (with_reducible assumption) | assumption)
              obtain ⟨go8, co8, eo8, gb8, gl8, cl8, HG8⟩ := Kd.R_form HO_3.out (by omega)
              (first | cases eo8 | (injection eo8 with ea_ en_ ec_; (first | subst ea_ | (injection ea_ with ea_; subst ea_)); subst ec_; clear en_))
              have GB8 := Aside0.mk gb8
              have GG8 := Aside0.mk HG8
              clear gb8 gl8 HG8
              obtain ⟨hx8_0, hf8_0⟩ := Kd.R_celln 0 HO_3.out (x4_1 : Int) p8 q8
              replace p8 := eq_true p8
              replace q8 := eq_true q8
              have HP9 := Kd.R_putg HO_3.out (x4_1 : Int) ((a0) % 256)
              go_wp2_with (first | ((with_reducible refine gate_store (t := 5) (p := 14) rfl ?_); refine store_event (t := 5) (p := 14) (v := ?vo_w10) (w1 := (wr.setCell ⟨go8, (x4_1 : Int).toNat, none⟩ (.int .u8 ((a0) % 256)))) ?hg ?ho ?hn ?hr ?_; (case ho => rfl); (case hg => rfl); (case hn => rfl); (case hr => first | (go_simp; done) | (go_simp; rfl)); intro w10 hw; have hg : wr.grownBy w10 (some go8) := (by rw [hw]; exact HP9.2); have hp_ : Kd.R (Kd.int .u8) 5 w10 w.heap.size (fun _ => True) (.slice (some ⟨go8, 0, none⟩) x3_1.length co8) y104 := (by rw [hw, Ny104.out]; exact HP9.1); clear HP9; have n0_ := Aside0.mk (hp_); have n1_ := Aside0.mk ((by rw [hw]; exact below_set (HB.out) GB8.out : Below w.heap.size w w10)); clear HO_3; clear HB; have HO_3 := n0_; have HB := n1_; clear n0_ n1_; clear hg hw hp_))
              go_roundg k1
              case measure => have := HK1.out; omega
              case rel => exact ⟨(y104), (wrap64 (x4_1 + 1)), (by first | rfl | (simp; done) | (simp [*]; done)), H', ⟨by have := HK1.out; omega⟩, ⟨by (with_reducible repeat (first | apply Kd.R_alloc | apply Kd.R_drewN | apply Kd.R_drew)); exact HO_3.out⟩, ⟨by repeat (first | (with_reducible first | exact HB.out | apply below_alloc | apply pw_below_drewN | apply below_drew1) | exact HB.out)⟩⟩
            · rw [if_neg c7] at H
              exact absurd H (by simp)
          · rw [if_neg c6] at H
            exact absurd H (by simp)
        · rw [if_neg c5] at H
          have c5b0 : decide (x4_1 < 64) = false := decide_eq_false c5
          clear c5
          obtain rfl := Option.some.inj H
          have hcv11 := own_string (P := Try.prog) Try.underlying54 Try.underlying5 Try.underlying9 (Kd.own_of_R HO_3.out)
          go_wp2
          go_ret
          exact ⟨by first | rfl | (simp [errW_none, errW_some] <;> rfl) | (simp [*, errW_none, errW_some] <;> rfl), by repeat (first | (with_reducible first | exact HB.out | apply below_alloc | apply pw_below_drewN | apply below_drew1) | exact HB.out)⟩
  · rw [if_neg c2] at H
    exact absurd H (by simp)

-- NOT PRINTED: function 12 (vdisk_Disk_Sync)

-- NOT PRINTED: function 23 (vdisk_Disk_Sectors)

-- NOT PRINTED: function 15 (vdisk_Disk_Restore)

-- NOT PRINTED: function 3 (chancerylaw10_DiskSynced)

-- NOT PRINTED: function 18 (vdisk_Disk_Room)

-- NOT PRINTED: function 19 (vdisk_Disk_Writes)

-- NOT PRINTED: function 4 (chancerylaw10_DiskRoom)

-- NOT PRINTED: function 20 (vdisk_Disk_Fuse)

-- NOT PRINTED: function 5 (chancerylaw10_DiskFuse)

-- NOT PRINTED: function 33 (vdisk_sector)

-- NOT PRINTED: function 34 (vdisk_write)

-- NOT PRINTED: function 25 (vdisk_Disk_Twin)

-- NOT PRINTED: function 29 (chanceryref10_New)

-- NOT PRINTED: function 30 (chanceryref10_Disk_Twin)

/-- A state of type 75 at block g of W; what its slices lead to came in by w0. -/
def IsS75 (w0 W : World) (g : Nat) (f0 : List Int) (f1 : List (S77)) (f2 : Bool) (f3 : Int) (f4 : Int) (f5 : Int) (f6 : Int) (f7 : Int) : Prop := ∃ A0 c0, ∃ A1 c1, W.heap[g]? = some (.cells #[.slice A0 f0.length c0, .slice A1 f1.length c1, .bool f2, .int .i64 f3, .int .i64 f4, .int .i64 f5, .int .i64 f6, .int .i64 f7] 75 (0, 0)) ∧ w0.heap.size ≤ g ∧ Kd.C (Kd.int .u8) w0 A0 f0.length f0 ∧ Kd.C k77 w0 A1 f1.length f1
theorem IsS75.grown {w0 W : World} {g : Nat} {f0 : List Int} {f1 : List (S77)} {f2 : Bool} {f3 : Int} {f4 : Int} {f5 : Int} {f6 : Int} {f7 : Int} {W1 : World} {row : Option Nat} (h : IsS75 w0 W g f0 f1 f2 f3 f4 f5 f6 f7) (hw : W.grownBy W1 row) (hne : some g ≠ row) : IsS75 w0 W1 g f0 f1 f2 f3 f4 f5 f6 f7 := by
  obtain ⟨A0, c0, A1, c1, hb, hg, hr0, hr1⟩ := h
  exact ⟨A0, c0, A1, c1, blk_grown hb hw hne, hg, hr0, hr1⟩
theorem IsS75.own_neN {w0 W : World} {g : Nat} {f0 : List Int} {f1 : List (S77)} {f2 : Bool} {f3 : Int} {f4 : Int} {f5 : Int} {f6 : Int} {f7 : Int} {α : Type} {d : Kd α} {e : Nat} {base : Nat} {ok : Nat → Prop} {v : Value} {xs : List α} (h : IsS75 w0 W g f0 f1 f2 f3 f4 f5 f6 f7) (ho : Kd.N d e W base ok v xs) (ht : e ≠ 75) : some g ≠ v.ownBlock := by
  obtain ⟨A0, c0, A1, c1, hb, hg, hr0, hr1⟩ := h
  exact Kd.N_ne ho hb ht
theorem IsS75.fresh {w0 W : World} {g : Nat} {f0 : List Int} {f1 : List (S77)} {f2 : Bool} {f3 : Int} {f4 : Int} {f5 : Int} {f6 : Int} {f7 : Int} (h : IsS75 w0 W g f0 f1 f2 f3 f4 f5 f6 f7) : ∀ k, W.heap.size ≤ k → k ≠ g := by
  obtain ⟨A0, c0, A1, c1, hb, hg, hr0, hr1⟩ := h
  exact Kd.freshB hb
theorem IsS75.kept {w0 W : World} {g : Nat} {f0 : List Int} {f1 : List (S77)} {f2 : Bool} {f3 : Int} {f4 : Int} {f5 : Int} {f6 : Int} {f7 : Int} {W1 : World} {S : Nat → Prop} (h : IsS75 w0 W g f0 f1 f2 f3 f4 f5 f6 f7) (hk : Kept W W1 S) (hne : ¬ S g) : IsS75 w0 W1 g f0 f1 f2 f3 f4 f5 f6 f7 := by
  obtain ⟨A0, c0, A1, c1, hb, hg, hr0, hr1⟩ := h
  exact ⟨A0, c0, A1, c1, blk_kept hb hk hne, hg, hr0, hr1⟩
theorem IsS75.below {w0 W : World} {g : Nat} {f0 : List Int} {f1 : List (S77)} {f2 : Bool} {f3 : Int} {f4 : Int} {f5 : Int} {f6 : Int} {f7 : Int} {W1 : World} (h : IsS75 w0 W g f0 f1 f2 f3 f4 f5 f6 f7) (hw : Below W.heap.size W W1) : IsS75 w0 W1 g f0 f1 f2 f3 f4 f5 f6 f7 := h.grown (grown_of_below hw none) (by simp)
theorem IsS75.alloc {w0 W : World} {g : Nat} {f0 : List Int} {f1 : List (S77)} {f2 : Bool} {f3 : Int} {f4 : Int} {f5 : Int} {f6 : Int} {f7 : Int} (h : IsS75 w0 W g f0 f1 f2 f3 f4 f5 f6 f7) (o : Obj) : IsS75 w0 (W.alloc o) g f0 f1 f2 f3 f4 f5 f6 f7 := h.below (below_alloc (Below.refl _ _) o)
theorem IsS75.drewN {w0 W : World} {g : Nat} {f0 : List Int} {f1 : List (S77)} {f2 : Bool} {f3 : Int} {f4 : Int} {f5 : Int} {f6 : Int} {f7 : Int} (h : IsS75 w0 W g f0 f1 f2 f3 f4 f5 f6 f7) (m : Nat) : IsS75 w0 (W.drewN m) g f0 f1 f2 f3 f4 f5 f6 f7 := h
theorem IsS75.drew {w0 W : World} {g : Nat} {f0 : List Int} {f1 : List (S77)} {f2 : Bool} {f3 : Int} {f4 : Int} {f5 : Int} {f6 : Int} {f7 : Int} (h : IsS75 w0 W g f0 f1 f2 f3 f4 f5 f6 f7) : IsS75 w0 W.drew g f0 f1 f2 f3 f4 f5 f6 f7 := h
theorem IsS75.at_ {w0 W : World} {g : Nat} {f0 : List Int} {f1 : List (S77)} {f2 : Bool} {f3 : Int} {f4 : Int} {f5 : Int} {f6 : Int} {f7 : Int} {w' : World} {m : Nat} (hq : W.drewN m = w') (h : IsS75 w0 W g f0 f1 f2 f3 f4 f5 f6 f7) : IsS75 w0 w' g f0 f1 f2 f3 f4 f5 f6 f7 := by subst hq; exact IsS75.drewN h m
theorem IsS75.apart {w0 W : World} {g : Nat} {f0 : List Int} {f1 : List (S77)} {f2 : Bool} {f3 : Int} {f4 : Int} {f5 : Int} {f6 : Int} {f7 : Int} {α : Type} {d : Kd α} {e : Nat} {base : Nat} {ok : Nat → Prop} {v : Value} {xs : List α} (h : IsS75 w0 W g f0 f1 f2 f3 f4 f5 f6 f7) (ho : d.R e W base ok v xs) (ht : ∀ q, q ∈ e :: d.E → q ≠ 75) : d.R e W base (fun k => ok k ∧ k ≠ g) v xs := by
  obtain ⟨A0, c0, A1, c1, hb, hg, hr0, hr1⟩ := h
  exact Kd.R_types ho hb ht
theorem IsS75.own_ne {w0 W : World} {g : Nat} {f0 : List Int} {f1 : List (S77)} {f2 : Bool} {f3 : Int} {f4 : Int} {f5 : Int} {f6 : Int} {f7 : Int} {α : Type} {d : Kd α} {e : Nat} {base : Nat} {ok : Nat → Prop} {v : Value} {xs : List α} (h : IsS75 w0 W g f0 f1 f2 f3 f4 f5 f6 f7) (ho : d.R e W base ok v xs) (ht : e ≠ 75) : some g ≠ v.ownBlock := by
  obtain ⟨A0, c0, A1, c1, hb, hg, hr0, hr1⟩ := h
  exact Kd.R_ne ho hb ht
theorem IsS75.apartQ {w0 W : World} {g : Nat} {f0 : List Int} {f1 : List (S77)} {f2 : Bool} {f3 : Int} {f4 : Int} {f5 : Int} {f6 : Int} {f7 : Int} {α : Type} {d : Kd α} {e : Nat} {base : Nat} {ok : Nat → Prop} {v : Value} {xs : List α} (h : IsS75 w0 W g f0 f1 f2 f3 f4 f5 f6 f7) (ho : d.Q e W base ok v xs) (ht : ∀ q, q ∈ e :: d.E → q ≠ 75) : d.Q e W base (fun k => ok k ∧ k ≠ g) v xs := by
  obtain ⟨A0, c0, A1, c1, hb, hg, hr0, hr1⟩ := h
  exact Kd.Q_types ho hb ht
theorem IsS75.own_neQ {w0 W : World} {g : Nat} {f0 : List Int} {f1 : List (S77)} {f2 : Bool} {f3 : Int} {f4 : Int} {f5 : Int} {f6 : Int} {f7 : Int} {α : Type} {d : Kd α} {e : Nat} {base : Nat} {ok : Nat → Prop} {v : Value} {xs : List α} (h : IsS75 w0 W g f0 f1 f2 f3 f4 f5 f6 f7) (ho : d.Q e W base ok v xs) (ht : e ≠ 75) : some g ≠ v.ownBlock := by
  obtain ⟨A0, c0, A1, c1, hb, hg, hr0, hr1⟩ := h
  exact Kd.Q_ne ho hb ht
theorem IsS75.apartS {w0 W : World} {g : Nat} {f0 : List Int} {f1 : List (S77)} {f2 : Bool} {f3 : Int} {f4 : Int} {f5 : Int} {f6 : Int} {f7 : Int} {α : Type} {d : Kd α} {e : Nat} {base : Nat} {ok : Nat → Prop} {v : Value} {xs : List α} (h : IsS75 w0 W g f0 f1 f2 f3 f4 f5 f6 f7) (ho : d.S e W base ok v xs) (ht : ∀ q, q ∈ e :: d.E → q ≠ 75) : d.S e W base (fun k => ok k ∧ k ≠ g) v xs := by
  obtain ⟨A0, c0, A1, c1, hb, hg, hr0, hr1⟩ := h
  exact Kd.S_types ho hb ht
theorem IsS75.own_neS {w0 W : World} {g : Nat} {f0 : List Int} {f1 : List (S77)} {f2 : Bool} {f3 : Int} {f4 : Int} {f5 : Int} {f6 : Int} {f7 : Int} {α : Type} {d : Kd α} {e : Nat} {base : Nat} {ok : Nat → Prop} {v : Value} {xs : List α} (h : IsS75 w0 W g f0 f1 f2 f3 f4 f5 f6 f7) (ho : d.S e W base ok v xs) (ht : e ≠ 75) : some g ≠ v.ownBlock := by
  obtain ⟨A0, c0, A1, c1, hb, hg, hr0, hr1⟩ := h
  exact Kd.S_ne ho hb ht
theorem IsS75.lt {w0 W : World} {g : Nat} {f0 : List Int} {f1 : List (S77)} {f2 : Bool} {f3 : Int} {f4 : Int} {f5 : Int} {f6 : Int} {f7 : Int} (h : IsS75 w0 W g f0 f1 f2 f3 f4 f5 f6 f7) : g < W.heap.size := by
  obtain ⟨A0, c0, A1, c1, hb, hg, hr0, hr1⟩ := h
  exact blk_lt hb
theorem IsS75.ge {w0 W : World} {g : Nat} {f0 : List Int} {f1 : List (S77)} {f2 : Bool} {f3 : Int} {f4 : Int} {f5 : Int} {f6 : Int} {f7 : Int} (h : IsS75 w0 W g f0 f1 f2 f3 f4 f5 f6 f7) : w0.heap.size ≤ g := by
  obtain ⟨A0, c0, A1, c1, hb, hg, hr0, hr1⟩ := h
  exact hg
theorem IsS75.ne_blk {w0 W : World} {g : Nat} {f0 : List Int} {f1 : List (S77)} {f2 : Bool} {f3 : Int} {f4 : Int} {f5 : Int} {f6 : Int} {f7 : Int} {a : Nat} {cs : Array Value} {t : TypeId} {fr : Nat × Nat} (h : IsS75 w0 W g f0 f1 f2 f3 f4 f5 f6 f7) (hb2 : W.heap[a]? = some (.cells cs t fr)) (ht : t ≠ 75) : g ≠ a := by
  obtain ⟨A0, c0, A1, c1, hb, hg, hr0, hr1⟩ := h
  rintro rfl
  rw [hb] at hb2
  injection hb2 with hb2
  injection hb2 with _ ht2
  exact ht ht2.symm
theorem IsS75.far {w0 W : World} {g : Nat} {f0 : List Int} {f1 : List (S77)} {f2 : Bool} {f3 : Int} {f4 : Int} {f5 : Int} {f6 : Int} {f7 : Int} {p : Addr} (h : IsS75 w0 W g f0 f1 f2 f3 f4 f5 f6 f7) (hne : g ≠ p.block) (u : Value) : IsS75 w0 (W.setCell p u) g f0 f1 f2 f3 f4 f5 f6 f7 := by
  obtain ⟨A0, c0, A1, c1, hb, hg, hr0, hr1⟩ := h
  exact ⟨A0, c0, A1, c1, blk_far hb hne u, hg, hr0, hr1⟩
theorem cellS75_0 {W : World} {g : Nat} {A0 : Option Addr} {c0 : Nat} {A1 : Option Addr} {c1 : Nat} {f0 : List Int} {f1 : List (S77)} {f2 : Bool} {f3 : Int} {f4 : Int} {f5 : Int} {f6 : Int} {f7 : Int} (h : W.heap[g]? = some (.cells #[.slice A0 f0.length c0, .slice A1 f1.length c1, .bool f2, .int .i64 f3, .int .i64 f4, .int .i64 f5, .int .i64 f6, .int .i64 f7] 75 (0, 0))) : W.cell? ⟨g, 0, none⟩ = some (.slice A0 f0.length c0) := (blk_cell h 0).trans rfl
theorem cellS75_1 {W : World} {g : Nat} {A0 : Option Addr} {c0 : Nat} {A1 : Option Addr} {c1 : Nat} {f0 : List Int} {f1 : List (S77)} {f2 : Bool} {f3 : Int} {f4 : Int} {f5 : Int} {f6 : Int} {f7 : Int} (h : W.heap[g]? = some (.cells #[.slice A0 f0.length c0, .slice A1 f1.length c1, .bool f2, .int .i64 f3, .int .i64 f4, .int .i64 f5, .int .i64 f6, .int .i64 f7] 75 (0, 0))) : W.cell? ⟨g, 1, none⟩ = some (.slice A1 f1.length c1) := (blk_cell h 1).trans rfl
theorem cellS75_2 {W : World} {g : Nat} {A0 : Option Addr} {c0 : Nat} {A1 : Option Addr} {c1 : Nat} {f0 : List Int} {f1 : List (S77)} {f2 : Bool} {f3 : Int} {f4 : Int} {f5 : Int} {f6 : Int} {f7 : Int} (h : W.heap[g]? = some (.cells #[.slice A0 f0.length c0, .slice A1 f1.length c1, .bool f2, .int .i64 f3, .int .i64 f4, .int .i64 f5, .int .i64 f6, .int .i64 f7] 75 (0, 0))) : W.cell? ⟨g, 2, none⟩ = some (.bool f2) := (blk_cell h 2).trans rfl
theorem IsS75.set_2 {w0 W : World} {g : Nat} {f0 : List Int} {f1 : List (S77)} {f2 : Bool} {f3 : Int} {f4 : Int} {f5 : Int} {f6 : Int} {f7 : Int} (h : IsS75 w0 W g f0 f1 f2 f3 f4 f5 f6 f7) (x : Bool) : IsS75 w0 (W.setCell ⟨g, 2, none⟩ (.bool x)) g f0 f1 x f3 f4 f5 f6 f7 := by
  obtain ⟨A0, c0, A1, c1, hb, hg, hr0, hr1⟩ := h
  exact ⟨A0, c0, A1, c1, by simpa using blk_set hb 2 (.bool x), hg, hr0, hr1⟩
theorem cellS75_3 {W : World} {g : Nat} {A0 : Option Addr} {c0 : Nat} {A1 : Option Addr} {c1 : Nat} {f0 : List Int} {f1 : List (S77)} {f2 : Bool} {f3 : Int} {f4 : Int} {f5 : Int} {f6 : Int} {f7 : Int} (h : W.heap[g]? = some (.cells #[.slice A0 f0.length c0, .slice A1 f1.length c1, .bool f2, .int .i64 f3, .int .i64 f4, .int .i64 f5, .int .i64 f6, .int .i64 f7] 75 (0, 0))) : W.cell? ⟨g, 3, none⟩ = some (.int .i64 f3) := (blk_cell h 3).trans rfl
theorem IsS75.set_3 {w0 W : World} {g : Nat} {f0 : List Int} {f1 : List (S77)} {f2 : Bool} {f3 : Int} {f4 : Int} {f5 : Int} {f6 : Int} {f7 : Int} (h : IsS75 w0 W g f0 f1 f2 f3 f4 f5 f6 f7) (x : Int) : IsS75 w0 (W.setCell ⟨g, 3, none⟩ (.int .i64 x)) g f0 f1 f2 x f4 f5 f6 f7 := by
  obtain ⟨A0, c0, A1, c1, hb, hg, hr0, hr1⟩ := h
  exact ⟨A0, c0, A1, c1, by simpa using blk_set hb 3 (.int .i64 x), hg, hr0, hr1⟩
theorem cellS75_4 {W : World} {g : Nat} {A0 : Option Addr} {c0 : Nat} {A1 : Option Addr} {c1 : Nat} {f0 : List Int} {f1 : List (S77)} {f2 : Bool} {f3 : Int} {f4 : Int} {f5 : Int} {f6 : Int} {f7 : Int} (h : W.heap[g]? = some (.cells #[.slice A0 f0.length c0, .slice A1 f1.length c1, .bool f2, .int .i64 f3, .int .i64 f4, .int .i64 f5, .int .i64 f6, .int .i64 f7] 75 (0, 0))) : W.cell? ⟨g, 4, none⟩ = some (.int .i64 f4) := (blk_cell h 4).trans rfl
theorem IsS75.set_4 {w0 W : World} {g : Nat} {f0 : List Int} {f1 : List (S77)} {f2 : Bool} {f3 : Int} {f4 : Int} {f5 : Int} {f6 : Int} {f7 : Int} (h : IsS75 w0 W g f0 f1 f2 f3 f4 f5 f6 f7) (x : Int) : IsS75 w0 (W.setCell ⟨g, 4, none⟩ (.int .i64 x)) g f0 f1 f2 f3 x f5 f6 f7 := by
  obtain ⟨A0, c0, A1, c1, hb, hg, hr0, hr1⟩ := h
  exact ⟨A0, c0, A1, c1, by simpa using blk_set hb 4 (.int .i64 x), hg, hr0, hr1⟩
theorem cellS75_5 {W : World} {g : Nat} {A0 : Option Addr} {c0 : Nat} {A1 : Option Addr} {c1 : Nat} {f0 : List Int} {f1 : List (S77)} {f2 : Bool} {f3 : Int} {f4 : Int} {f5 : Int} {f6 : Int} {f7 : Int} (h : W.heap[g]? = some (.cells #[.slice A0 f0.length c0, .slice A1 f1.length c1, .bool f2, .int .i64 f3, .int .i64 f4, .int .i64 f5, .int .i64 f6, .int .i64 f7] 75 (0, 0))) : W.cell? ⟨g, 5, none⟩ = some (.int .i64 f5) := (blk_cell h 5).trans rfl
theorem IsS75.set_5 {w0 W : World} {g : Nat} {f0 : List Int} {f1 : List (S77)} {f2 : Bool} {f3 : Int} {f4 : Int} {f5 : Int} {f6 : Int} {f7 : Int} (h : IsS75 w0 W g f0 f1 f2 f3 f4 f5 f6 f7) (x : Int) : IsS75 w0 (W.setCell ⟨g, 5, none⟩ (.int .i64 x)) g f0 f1 f2 f3 f4 x f6 f7 := by
  obtain ⟨A0, c0, A1, c1, hb, hg, hr0, hr1⟩ := h
  exact ⟨A0, c0, A1, c1, by simpa using blk_set hb 5 (.int .i64 x), hg, hr0, hr1⟩
theorem cellS75_6 {W : World} {g : Nat} {A0 : Option Addr} {c0 : Nat} {A1 : Option Addr} {c1 : Nat} {f0 : List Int} {f1 : List (S77)} {f2 : Bool} {f3 : Int} {f4 : Int} {f5 : Int} {f6 : Int} {f7 : Int} (h : W.heap[g]? = some (.cells #[.slice A0 f0.length c0, .slice A1 f1.length c1, .bool f2, .int .i64 f3, .int .i64 f4, .int .i64 f5, .int .i64 f6, .int .i64 f7] 75 (0, 0))) : W.cell? ⟨g, 6, none⟩ = some (.int .i64 f6) := (blk_cell h 6).trans rfl
theorem IsS75.set_6 {w0 W : World} {g : Nat} {f0 : List Int} {f1 : List (S77)} {f2 : Bool} {f3 : Int} {f4 : Int} {f5 : Int} {f6 : Int} {f7 : Int} (h : IsS75 w0 W g f0 f1 f2 f3 f4 f5 f6 f7) (x : Int) : IsS75 w0 (W.setCell ⟨g, 6, none⟩ (.int .i64 x)) g f0 f1 f2 f3 f4 f5 x f7 := by
  obtain ⟨A0, c0, A1, c1, hb, hg, hr0, hr1⟩ := h
  exact ⟨A0, c0, A1, c1, by simpa using blk_set hb 6 (.int .i64 x), hg, hr0, hr1⟩
theorem cellS75_7 {W : World} {g : Nat} {A0 : Option Addr} {c0 : Nat} {A1 : Option Addr} {c1 : Nat} {f0 : List Int} {f1 : List (S77)} {f2 : Bool} {f3 : Int} {f4 : Int} {f5 : Int} {f6 : Int} {f7 : Int} (h : W.heap[g]? = some (.cells #[.slice A0 f0.length c0, .slice A1 f1.length c1, .bool f2, .int .i64 f3, .int .i64 f4, .int .i64 f5, .int .i64 f6, .int .i64 f7] 75 (0, 0))) : W.cell? ⟨g, 7, none⟩ = some (.int .i64 f7) := (blk_cell h 7).trans rfl
theorem IsS75.set_7 {w0 W : World} {g : Nat} {f0 : List Int} {f1 : List (S77)} {f2 : Bool} {f3 : Int} {f4 : Int} {f5 : Int} {f6 : Int} {f7 : Int} (h : IsS75 w0 W g f0 f1 f2 f3 f4 f5 f6 f7) (x : Int) : IsS75 w0 (W.setCell ⟨g, 7, none⟩ (.int .i64 x)) g f0 f1 f2 f3 f4 f5 f6 x := by
  obtain ⟨A0, c0, A1, c1, hb, hg, hr0, hr1⟩ := h
  exact ⟨A0, c0, A1, c1, by simpa using blk_set hb 7 (.int .i64 x), hg, hr0, hr1⟩
theorem IsS75.new (w0 W : World) (A0 : Option Addr) (c0 : Nat) (A1 : Option Addr) (c1 : Nat) (f0 : List Int) (f1 : List (S77)) (f2 : Bool) (f3 : Int) (f4 : Int) (f5 : Int) (f6 : Int) (f7 : Int) (hB : Below w0.heap.size w0 W) (hr0 : Kd.C (Kd.int .u8) w0 A0 f0.length f0) (hr1 : Kd.C k77 w0 A1 f1.length f1) : IsS75 w0 (W.alloc (.cells #[.slice A0 f0.length c0, .slice A1 f1.length c1, .bool f2, .int .i64 f3, .int .i64 f4, .int .i64 f5, .int .i64 f6, .int .i64 f7] 75)) W.heap.size f0 f1 f2 f3 f4 f5 f6 f7 := ⟨A0, c0, A1, c1, by simpa using heap_alloc_new W _, hB.size, hr0, hr1⟩

/-! ### chanceryref10_Disk_Sectors: function 41 -/
def chanceryref10_Disk_Sectors.f (s0_0 : List Int) (s0_1 : List (S77)) (s0_2 : Bool) (s0_3 : Int) (s0_4 : Int) (s0_5 : Int) (s0_6 : Int) (s0_7 : Int) : Option (Int × Bool × Int × Int × Int × Int × Int) := some (wrap64 ((s0_0.length : Int) / 64), s0_2, s0_3, s0_4, s0_5, s0_6, s0_7)
set_option maxHeartbeats 8000000 in
set_option maxRecDepth 100000 in
theorem chanceryref10_Disk_Sectors.calls (g : Nat) (s0_0 : List Int) (s0_1 : List (S77)) (s0_2 : Bool) (s0_3 : Int) (s0_4 : Int) (s0_5 : Int) (s0_6 : Int) (s0_7 : Int) (r1 : Int) (r2 : Bool) (r3 : Int) (r4 : Int) (r5 : Int) (r6 : Int) (r7 : Int) (w0 w : World) (hI : IsS75 w0 w g s0_0 s0_1 s0_2 s0_3 s0_4 s0_5 s0_6 s0_7) (hB : Below w0.heap.size w0 w) (h : chanceryref10_Disk_Sectors.f s0_0 s0_1 s0_2 s0_3 s0_4 s0_5 s0_6 s0_7 = some (r1, r2, r3, r4, r5, r6, r7)) :
    Calls Try.prog 41 #[.pointer (some ⟨g, 0, none⟩)] w fun e w' => e = .returned (.int .i64 r1) ∧ IsS75 w0 w' g s0_0 s0_1 r2 r3 r4 r5 r6 r7 ∧ Below w0.heap.size w0 w' ∧ KeepBut w w' g none := by
  have HI0 := Aside0.mk hI
  have HK := Aside0.mk (KeepBut.refl w g none)
  have HL := Aside0.mk hB.size
  clear hI
  have HW0 := Aside0.mk hB.size
  have HB := Aside0.mk hB
  clear hB
  have H : (some (wrap64 ((s0_0.length : Int) / 64), s0_2, s0_3, s0_4, s0_5, s0_6, s0_7)) = some (r1, r2, r3, r4, r5, r6, r7) := h
  clear h
  simp only [Option.some.injEq, Prod.mk.injEq] at H
  obtain ⟨rfl, rfl, rfl, rfl, rfl, rfl, rfl⟩ := H
  obtain ⟨ASz2_0, cSz2_0, ASz2_1, cSz2_1, HGz2, hgz2, HSz2_0, HSz2_1⟩ := HI0.out
  have hcz2_0 := cellS75_0 HGz2
  have hcz2_1 := cellS75_1 HGz2
  have hcz2_2 := cellS75_2 HGz2
  have hcz2_3 := cellS75_3 HGz2
  have hcz2_4 := cellS75_4 HGz2
  have hcz2_5 := cellS75_5 HGz2
  have hcz2_6 := cellS75_6 HGz2
  have hcz2_7 := cellS75_7 HGz2
  have hfz2_2 := blk_frozen HGz2 2
  have hfz2_3 := blk_frozen HGz2 3
  have hfz2_4 := blk_frozen HGz2 4
  have hfz2_5 := blk_frozen HGz2 5
  have hfz2_6 := blk_frozen HGz2 6
  have hfz2_7 := blk_frozen HGz2 7
  clear HGz2 hgz2
  go_enter Try.func41, Try.ntmps41
  go_wp2
  go_ret
  exact ⟨by first | rfl | (simp [errW_none, errW_some] <;> rfl) | (simp [*, errW_none, errW_some] <;> rfl), by repeat (first | (with_reducible first | exact HI0.out | apply IsS75.alloc | apply IsS75.drewN | apply IsS75.drew | apply IsS75.set_2 | apply IsS75.set_3 | apply IsS75.set_4 | apply IsS75.set_5 | apply IsS75.set_6 | apply IsS75.set_7) | exact HI0.out), by repeat (first | (with_reducible first | exact HB.out | apply below_alloc | apply pw_below_drewN | apply below_drew1 | refine below_set ?_ (IsS75.ge HI0.out)) | exact HB.out), by repeat (first | (with_reducible first | exact HK.out | apply KeepBut.set_ | apply keep_drewN | apply keep_drew | apply keep_alloc) | exact HK.out)⟩

-- NOT PRINTED: function 32 (chancerylaw10_looks)

-- NOT PRINTED: function 43 (chanceryref10_Disk_lay)

-- NOT PRINTED: function 38 (chanceryref10_Disk_Crash)

-- NOT PRINTED: function 42 (chanceryref10_Disk_burn)

-- NOT PRINTED: function 35 (chanceryref10_Disk_Write)

-- NOT PRINTED: function 36 (chanceryref10_Disk_Read)

-- NOT PRINTED: function 37 (chanceryref10_Disk_Sync)

/-! ### chanceryref10_Disk_Room: function 39 -/
def chanceryref10_Disk_Room.f (s0_0 : List Int) (s0_1 : List (S77)) (s0_2 : Bool) (s0_3 : Int) (s0_4 : Int) (s0_5 : Int) (s0_6 : Int) (s0_7 : Int) (a1 : Int) : Option (Bool × Int × Int × Int × Int × Int) := if a1 < 0 then (some (s0_2, s0_3, s0_4, s0_5, (-1), s0_7)) else (some (s0_2, s0_3, s0_4, s0_5, a1, s0_7))
set_option maxHeartbeats 8000000 in
set_option maxRecDepth 100000 in
theorem chanceryref10_Disk_Room.calls (g : Nat) (s0_0 : List Int) (s0_1 : List (S77)) (s0_2 : Bool) (s0_3 : Int) (s0_4 : Int) (s0_5 : Int) (s0_6 : Int) (s0_7 : Int) (a1 : Int) (r1 : Bool) (r2 : Int) (r3 : Int) (r4 : Int) (r5 : Int) (r6 : Int) (w0 w : World) (hI : IsS75 w0 w g s0_0 s0_1 s0_2 s0_3 s0_4 s0_5 s0_6 s0_7) (hB : Below w0.heap.size w0 w) (h : chanceryref10_Disk_Room.f s0_0 s0_1 s0_2 s0_3 s0_4 s0_5 s0_6 s0_7 a1 = some (r1, r2, r3, r4, r5, r6)) :
    Calls Try.prog 39 #[.pointer (some ⟨g, 0, none⟩), .int .i64 a1] w fun e w' => e = .returned (.tuple #[]) ∧ IsS75 w0 w' g s0_0 s0_1 r1 r2 r3 r4 r5 r6 ∧ Below w0.heap.size w0 w' ∧ KeepBut w w' g none := by
  have HI0 := Aside0.mk hI
  have HK := Aside0.mk (KeepBut.refl w g none)
  have HL := Aside0.mk hB.size
  clear hI
  have HW0 := Aside0.mk hB.size
  have HB := Aside0.mk hB
  clear hB
  have H : (if a1 < 0 then (some (s0_2, s0_3, s0_4, s0_5, (-1), s0_7)) else (some (s0_2, s0_3, s0_4, s0_5, a1, s0_7))) = some (r1, r2, r3, r4, r5, r6) := h
  clear h
  by_cases c3 : a1 < 0
  · rw [if_pos c3] at H
    have c3b0 : decide (a1 < 0) = true := decide_eq_true c3
    clear c3
    simp only [Option.some.injEq, Prod.mk.injEq] at H
    obtain ⟨rfl, rfl, rfl, rfl, rfl, rfl⟩ := H
    obtain ⟨ASz4_0, cSz4_0, ASz4_1, cSz4_1, HGz4, hgz4, HSz4_0, HSz4_1⟩ := HI0.out
    have hcz4_0 := cellS75_0 HGz4
    have hcz4_1 := cellS75_1 HGz4
    have hcz4_2 := cellS75_2 HGz4
    have hcz4_3 := cellS75_3 HGz4
    have hcz4_4 := cellS75_4 HGz4
    have hcz4_5 := cellS75_5 HGz4
    have hcz4_6 := cellS75_6 HGz4
    have hcz4_7 := cellS75_7 HGz4
    have hfz4_2 := blk_frozen HGz4 2
    have hfz4_3 := blk_frozen HGz4 3
    have hfz4_4 := blk_frozen HGz4 4
    have hfz4_5 := blk_frozen HGz4 5
    have hfz4_6 := blk_frozen HGz4 6
    have hfz4_7 := blk_frozen HGz4 7
    clear HGz4 hgz4
    go_enter Try.func39, Try.ntmps39
    go_wp2
    first | go_end0 | ((try simp only [Exit.inBlock, Exit.then]); refine bodyPost_ret (results_none rfl _ _ _) rfl ?_)
    exact ⟨by first | rfl | (simp [errW_none, errW_some] <;> rfl) | (simp [*, errW_none, errW_some] <;> rfl), by repeat (first | (with_reducible first | exact HI0.out | apply IsS75.alloc | apply IsS75.drewN | apply IsS75.drew | apply IsS75.set_2 | apply IsS75.set_3 | apply IsS75.set_4 | apply IsS75.set_5 | apply IsS75.set_6 | apply IsS75.set_7) | exact HI0.out), by repeat (first | (with_reducible first | exact HB.out | apply below_alloc | apply pw_below_drewN | apply below_drew1 | refine below_set ?_ (IsS75.ge HI0.out)) | exact HB.out), by repeat (first | (with_reducible first | exact HK.out | apply KeepBut.set_ | apply keep_drewN | apply keep_drew | apply keep_alloc) | exact HK.out)⟩
  · rw [if_neg c3] at H
    have c3b0 : decide (a1 < 0) = false := decide_eq_false c3
    clear c3
    simp only [Option.some.injEq, Prod.mk.injEq] at H
    obtain ⟨rfl, rfl, rfl, rfl, rfl, rfl⟩ := H
    obtain ⟨ASz5_0, cSz5_0, ASz5_1, cSz5_1, HGz5, hgz5, HSz5_0, HSz5_1⟩ := HI0.out
    have hcz5_0 := cellS75_0 HGz5
    have hcz5_1 := cellS75_1 HGz5
    have hcz5_2 := cellS75_2 HGz5
    have hcz5_3 := cellS75_3 HGz5
    have hcz5_4 := cellS75_4 HGz5
    have hcz5_5 := cellS75_5 HGz5
    have hcz5_6 := cellS75_6 HGz5
    have hcz5_7 := cellS75_7 HGz5
    have hfz5_2 := blk_frozen HGz5 2
    have hfz5_3 := blk_frozen HGz5 3
    have hfz5_4 := blk_frozen HGz5 4
    have hfz5_5 := blk_frozen HGz5 5
    have hfz5_6 := blk_frozen HGz5 6
    have hfz5_7 := blk_frozen HGz5 7
    clear HGz5 hgz5
    go_enter Try.func39, Try.ntmps39
    go_wp2
    first | go_end0 | ((try simp only [Exit.inBlock, Exit.then]); refine bodyPost_ret (results_none rfl _ _ _) rfl ?_)
    exact ⟨by first | rfl | (simp [errW_none, errW_some] <;> rfl) | (simp [*, errW_none, errW_some] <;> rfl), by repeat (first | (with_reducible first | exact HI0.out | apply IsS75.alloc | apply IsS75.drewN | apply IsS75.drew | apply IsS75.set_2 | apply IsS75.set_3 | apply IsS75.set_4 | apply IsS75.set_5 | apply IsS75.set_6 | apply IsS75.set_7) | exact HI0.out), by repeat (first | (with_reducible first | exact HB.out | apply below_alloc | apply pw_below_drewN | apply below_drew1 | refine below_set ?_ (IsS75.ge HI0.out)) | exact HB.out), by repeat (first | (with_reducible first | exact HK.out | apply KeepBut.set_ | apply keep_drewN | apply keep_drew | apply keep_alloc) | exact HK.out)⟩

/-! ### chanceryref10_Disk_SetFuse: function 40 -/
def chanceryref10_Disk_SetFuse.f (s0_0 : List Int) (s0_1 : List (S77)) (s0_2 : Bool) (s0_3 : Int) (s0_4 : Int) (s0_5 : Int) (s0_6 : Int) (s0_7 : Int) (a1 : Int) (a2 : Int) (a3 : Int) : Option (Bool × Int × Int × Int × Int × Int) := if a1 < 0 then (some (s0_2, (-1), a2, a3, s0_6, s0_7)) else (some (s0_2, a1, a2, a3, s0_6, s0_7))
set_option maxHeartbeats 8000000 in
set_option maxRecDepth 100000 in
theorem chanceryref10_Disk_SetFuse.calls (g : Nat) (s0_0 : List Int) (s0_1 : List (S77)) (s0_2 : Bool) (s0_3 : Int) (s0_4 : Int) (s0_5 : Int) (s0_6 : Int) (s0_7 : Int) (a1 : Int) (a2 : Int) (a3 : Int) (r1 : Bool) (r2 : Int) (r3 : Int) (r4 : Int) (r5 : Int) (r6 : Int) (w0 w : World) (hI : IsS75 w0 w g s0_0 s0_1 s0_2 s0_3 s0_4 s0_5 s0_6 s0_7) (hB : Below w0.heap.size w0 w) (h : chanceryref10_Disk_SetFuse.f s0_0 s0_1 s0_2 s0_3 s0_4 s0_5 s0_6 s0_7 a1 a2 a3 = some (r1, r2, r3, r4, r5, r6)) :
    Calls Try.prog 40 #[.pointer (some ⟨g, 0, none⟩), .int .i64 a1, .int .i64 a2, .int .i64 a3] w fun e w' => e = .returned (.tuple #[]) ∧ IsS75 w0 w' g s0_0 s0_1 r1 r2 r3 r4 r5 r6 ∧ Below w0.heap.size w0 w' ∧ KeepBut w w' g none := by
  have HI0 := Aside0.mk hI
  have HK := Aside0.mk (KeepBut.refl w g none)
  have HL := Aside0.mk hB.size
  clear hI
  have HW0 := Aside0.mk hB.size
  have HB := Aside0.mk hB
  clear hB
  have H : (if a1 < 0 then (some (s0_2, (-1), a2, a3, s0_6, s0_7)) else (some (s0_2, a1, a2, a3, s0_6, s0_7))) = some (r1, r2, r3, r4, r5, r6) := h
  clear h
  by_cases c5 : a1 < 0
  · rw [if_pos c5] at H
    have c5b0 : decide (a1 < 0) = true := decide_eq_true c5
    clear c5
    simp only [Option.some.injEq, Prod.mk.injEq] at H
    obtain ⟨rfl, rfl, rfl, rfl, rfl, rfl⟩ := H
    obtain ⟨ASz6_0, cSz6_0, ASz6_1, cSz6_1, HGz6, hgz6, HSz6_0, HSz6_1⟩ := HI0.out
    have hcz6_0 := cellS75_0 HGz6
    have hcz6_1 := cellS75_1 HGz6
    have hcz6_2 := cellS75_2 HGz6
    have hcz6_3 := cellS75_3 HGz6
    have hcz6_4 := cellS75_4 HGz6
    have hcz6_5 := cellS75_5 HGz6
    have hcz6_6 := cellS75_6 HGz6
    have hcz6_7 := cellS75_7 HGz6
    have hfz6_2 := blk_frozen HGz6 2
    have hfz6_3 := blk_frozen HGz6 3
    have hfz6_4 := blk_frozen HGz6 4
    have hfz6_5 := blk_frozen HGz6 5
    have hfz6_6 := blk_frozen HGz6 6
    have hfz6_7 := blk_frozen HGz6 7
    clear HGz6 hgz6
    go_enter Try.func40, Try.ntmps40
    go_wp2
    first | go_end0 | ((try simp only [Exit.inBlock, Exit.then]); refine bodyPost_ret (results_none rfl _ _ _) rfl ?_)
    exact ⟨by first | rfl | (simp [errW_none, errW_some] <;> rfl) | (simp [*, errW_none, errW_some] <;> rfl), by repeat (first | (with_reducible first | exact HI0.out | apply IsS75.alloc | apply IsS75.drewN | apply IsS75.drew | apply IsS75.set_2 | apply IsS75.set_3 | apply IsS75.set_4 | apply IsS75.set_5 | apply IsS75.set_6 | apply IsS75.set_7) | exact HI0.out), by repeat (first | (with_reducible first | exact HB.out | apply below_alloc | apply pw_below_drewN | apply below_drew1 | refine below_set ?_ (IsS75.ge HI0.out)) | exact HB.out), by repeat (first | (with_reducible first | exact HK.out | apply KeepBut.set_ | apply keep_drewN | apply keep_drew | apply keep_alloc) | exact HK.out)⟩
  · rw [if_neg c5] at H
    have c5b0 : decide (a1 < 0) = false := decide_eq_false c5
    clear c5
    simp only [Option.some.injEq, Prod.mk.injEq] at H
    obtain ⟨rfl, rfl, rfl, rfl, rfl, rfl⟩ := H
    obtain ⟨ASz7_0, cSz7_0, ASz7_1, cSz7_1, HGz7, hgz7, HSz7_0, HSz7_1⟩ := HI0.out
    have hcz7_0 := cellS75_0 HGz7
    have hcz7_1 := cellS75_1 HGz7
    have hcz7_2 := cellS75_2 HGz7
    have hcz7_3 := cellS75_3 HGz7
    have hcz7_4 := cellS75_4 HGz7
    have hcz7_5 := cellS75_5 HGz7
    have hcz7_6 := cellS75_6 HGz7
    have hcz7_7 := cellS75_7 HGz7
    have hfz7_2 := blk_frozen HGz7 2
    have hfz7_3 := blk_frozen HGz7 3
    have hfz7_4 := blk_frozen HGz7 4
    have hfz7_5 := blk_frozen HGz7 5
    have hfz7_6 := blk_frozen HGz7 6
    have hfz7_7 := blk_frozen HGz7 7
    clear HGz7 hgz7
    go_enter Try.func40, Try.ntmps40
    go_wp2
    first | go_end0 | ((try simp only [Exit.inBlock, Exit.then]); refine bodyPost_ret (results_none rfl _ _ _) rfl ?_)
    exact ⟨by first | rfl | (simp [errW_none, errW_some] <;> rfl) | (simp [*, errW_none, errW_some] <;> rfl), by repeat (first | (with_reducible first | exact HI0.out | apply IsS75.alloc | apply IsS75.drewN | apply IsS75.drew | apply IsS75.set_2 | apply IsS75.set_3 | apply IsS75.set_4 | apply IsS75.set_5 | apply IsS75.set_6 | apply IsS75.set_7) | exact HI0.out), by repeat (first | (with_reducible first | exact HB.out | apply below_alloc | apply pw_below_drewN | apply below_drew1 | refine below_set ?_ (IsS75.ge HI0.out)) | exact HB.out), by repeat (first | (with_reducible first | exact HK.out | apply KeepBut.set_ | apply keep_drewN | apply keep_drew | apply keep_alloc) | exact HK.out)⟩

-- NOT PRINTED: function 31 (chancerylaw10_step)

-- NOT PRINTED: function 22 (chancerylaw10_play)

-- NOT PRINTED: function 6 (chancerylaw10_DiskPlays)

end Go.Proofs.Ytcbaflnmfiofeaa.PU
