/-
  chancerylaw10: alive. Condition: none.
-/
import Derived.Test.YtcbaflnmfiofeaaDkM
namespace Go.Proofs.YtcbaflnmfiofeaaDk
open Go.RowKit Go.Maps Go.Proofs.YtcbaflnmfiofeaaKp Go.Proofs.YtcbaflnmfiofeaaCm Go.Proofs.YtcbaflnmfiofeaaW.PrintWords
set_option linter.unusedVariables false
set_option linter.unusedSimpArgs false
attribute [local go_sem] run_cv
def sevens : List Int := 7 :: List.replicate 63 0
theorem mk64 (W : World) : (Instr.makeSlice 54 (.int .i64 64) (.int .i64 64)).run Try.prog W = .ok (.slice (some ⟨W.heap.size, 0, none⟩) 64 64) (W.alloc (.cells zw57 5)) := by kernel_rfl
/-- the disk of alive behind its one write -/
def aliveD : Dm := { secs := List.replicate 4 zsec, q := [(1, sevens)], on := true, room := -1, fset := false, fn := 0, fk := 0, ft := 0, writes := 1, cap := 4 }
theorem sevens_size : (strOfNums sevens).size = 64 := by rw [strOfNums_size]; rfl
theorem sevens_bts : bts (strOfNums sevens) = sevens := bts_strOfNums _ (by decide)
theorem alive_ask : askS (newD 4) 1 = 0 := by decide
theorem alive_writeE : writeE (newD 4) 1 (strOfNums sevens) = 0 := by
  unfold writeE
  rw [if_neg (fun e => e alive_ask), if_neg (fun e => e sevens_size), if_neg (by decide), if_neg (by decide)]
theorem alive_writeD : writeD (newD 4) 1 (strOfNums sevens) = aliveD := by
  unfold writeD
  rw [if_neg (fun e => e alive_ask), if_neg (fun e => e sevens_size), if_neg (by decide), if_neg (by decide), sevens_bts]
  simp [writeS, takenS, newD, aliveD, wrap64]
theorem alive_readE : readE aliveD 1 = 0 := by decide
theorem alive_readS : readS aliveD 1 = strOfNums sevens := by
  unfold readS
  rw [if_neg (fun e => e alive_readE)]
  rfl
def aliveI : ByteArray := strOfNums aliveD.secs.flatten
theorem aliveI_size : aliveI.size = 256 := by
  rw [aliveI, strOfNums_size]
  show ((List.replicate 4 zsec).flatten).length = 256
  rw [zsec, List.flatten_replicate_replicate, List.length_replicate]
theorem newD_ok (n : Nat) : DOk (newD n) := ⟨by simp [newD], by simp [newD], by simp [newD], by simp [newD]⟩
theorem zeros_get (n : Nat) {j : Nat} (hj : j < 64 * n) : ((List.replicate n zsec).flatten)[j]? = some 0 := by
  have : (List.replicate n zsec).flatten = List.replicate (n * 64) 0 := by rw [zsec, List.flatten_replicate_replicate]
  rw [this, List.getElem?_replicate, if_pos (by omega)]
set_option maxRecDepth 100000 in
theorem c_alive (w : World) : Calls Try.prog 9 #[] w fun e w' => e = .returned (.bool true) ∧ Below w.heap.size w w' := by
  have k1 := Lib.hid (s_New (w0 := w) (B := []) (Below.refl _ w) 4 (by omega) (by omega) (fun x hx => by cases hx))
  have hmk := mk64
  go_enter Try.func9, Try.ntmps9
  go_upto_region 3 with (first | (go_at_call 10; refine k1.out.mono ?_; rintro e w1 ⟨p, rfl, hs⟩; have HS := Lib.hid hs; clear hs))
  have hst := HS.out.alloc zw57 5
  have hnb := HS.out.below.size
  clear HS k1 hmk
  generalize (w1.alloc (.cells zw57 5)) = w2 at *
  generalize w1.heap.size = nb at *
  have hh := hst.at (x := (nb, .cells zw57 5 (0, 0))) List.mem_cons_self
  have c0 : w2.cell? ⟨nb, 0, none⟩ = some (.int .u8 0) := cell_of_row _ _ _ _ _ _ hh
  have z0 := frozen_of_row w2 nb 0 _ _ hh
  have hst2 := hst.set hnb (by simp) 0 (.int .u8 7)
  have hh2 := hst2.at (x := (nb, .cells (zw57.setIfInBounds 0 (.int .u8 7)) 5 (0, 0))) List.mem_cons_self
  have hr : (w2.setCell ⟨nb, 0, none⟩ (.int .u8 7)).rangeAt nb 0 (sevens.map (.int .u8)) := by
    intro j v hv
    rw [cell_of_row _ _ _ _ _ _ hh2]
    have e : zw57.setIfInBounds 0 (.int .u8 7) = (sevens.map (Value.int .u8)).toArray := by rfl
    rw [e, List.getElem?_toArray, Nat.zero_add]
    exact hv
  have b1 := isStrN_of (n := 64) hr rfl
  have b2 := strN_of (n := 64) hr rfl
  have hw := s_Write hst2 (newD_ok 4) 1 (strOfNums sevens)
  rw [alive_writeE, alive_writeD] at hw
  have k2 := Lib.hid hw
  have hsz := sevens_size
  have hidx : ∀ h, (strOfNums sevens)[0]'h = 7 := fun h => rfl
  clear hst hst2 hh hh2 hr hw
  go_upto_region 6 with (first
    | (go_at_call 13; refine k2.out.mono ?_; rintro e w3 ⟨rfl, hs⟩; have k3 := s_Read hs 1; rw [alive_readE, alive_readS] at k3; have k3 := Lib.hid k3; clear hs)
    | (go_at_call 16; refine k3.out.mono ?_; rintro e w4 ⟨rfl, hs⟩; have HS := Lib.hid hs; clear hs))
  have k5 := s_Queue HS.out
  have e5 : aliveD.q.length = 1 := rfl
  rw [e5] at k5
  have k5 := Lib.hid k5
  have k6 : ∀ w5, St w w5 p aliveD [(nb, .cells (zw57.setIfInBounds 0 (.int .u8 7)) 5 (0, 0))] → Calls Try.prog 24 #[.pointer (some ⟨p, 0, none⟩)] w5 fun e w' => e = .returned (.string aliveI) ∧ St w w' p aliveD [(nb, .cells (zw57.setIfInBounds 0 (.int .u8 7)) 5 (0, 0))] := fun w5 h => s_Image h
  have k6 := Lib.hid k6
  have hsi := aliveI_size
  have hii : ∀ h, aliveI[64]'h = 0 := fun h => rfl
  clear k2 k3 b1 b2 c0 z0
  go_wp2_with (first
    | (go_at_call 17; refine k5.out.mono ?_; rintro e w5 ⟨rfl, hw⟩; subst hw)
    | (go_at_call 24; refine (k6.out _ HS.out).mono ?_; rintro e w5 ⟨rfl, hs⟩; clear HS; have HS := Lib.hid hs; clear hs))
  go_ret
  exact ⟨rfl, HS.out.below⟩
end Go.Proofs.YtcbaflnmfiofeaaDk
