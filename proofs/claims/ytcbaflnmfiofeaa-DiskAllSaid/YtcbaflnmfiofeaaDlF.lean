/-
  chancerylaw10: looks, of a disk and a reference's that are alike. Condition: none.
-/
import Derived.Test.YtcbaflnmfiofeaaDlE
import Derived.Test.YtcbaflnmfiofeaaCls
namespace Go.Proofs.YtcbaflnmfiofeaaDk
open Go.RowKit Go.Maps Go.Proofs.YtcbaflnmfiofeaaKp Go.Proofs.YtcbaflnmfiofeaaCm Go.Proofs.YtcbaflnmfiofeaaCls
set_option linter.unusedVariables false
set_option linter.unusedSimpArgs false
attribute [local go_sem] run_cv
theorem b4_refl (W : World) (x : Bool) : (binOp .eql 4 (.bool x) (.bool x)).run Try.prog W = .ok (.bool true) W := by cases x <;> kernel_rfl
set_option maxRecDepth 100000 in
set_option maxHeartbeats 4000000 in
theorem c_looks {w : World} {p g m : Nat} {qv : Value} {r g2 bc : Nat} {qv2 : Value} {D D2 : Dm} (h : Dsk w p g m qv D) (h2 : Rf w r g2 bc qv2 D2) (he : D2 = D) :
    Calls Try.prog 32 #[.pointer (some ⟨p, 0, none⟩), .pointer (some ⟨r, 0, none⟩)] w fun e w' => e = .returned (.bool true) ∧ Below w.heap.size w w' := by
  subst he
  have hle := h.len
  have hd : ∀ W, Below w.heap.size w W → Dsk W p g m qv D2 ∧ Rf W r g2 bc qv2 D2 := fun W hb => ⟨h.at (fun k hk => hb.block k (h.lt k hk)), h2.at (fun k hk => hb.block k (h2.lt k hk))⟩
  obtain ⟨ι, φ, hι, hD, hS⟩ := cls_of (fun W => Below w.heap.size w W) w.drew ⟨rfl, rfl, rfl, Nat.le_refl _, fun _ _ => rfl⟩
  obtain ⟨qa, qcap, hqq, _, _, _⟩ := h2.que_form
  obtain ⟨I, hI⟩ : ∃ I, I = strOfNums D2.secs.flatten := ⟨_, rfl⟩
  have f0 : ∀ i, (φ i).cell? ⟨r, 0, none⟩ = some (.slice (some ⟨g2, 0, none⟩) (64 * D2.secs.length) bc) := fun i => (hd _ (hD i)).2.cells.1
  have f1 : ∀ i, (φ i).cell? ⟨r, 1, none⟩ = some (.slice qa D2.q.length qcap) := fun i => by rw [← hqq]; exact (hd _ (hD i)).2.cells.2.1
  have f2 : ∀ i, (φ i).cell? ⟨r, 2, none⟩ = some (.bool (!D2.on)) := fun i => (hd _ (hD i)).2.cells.2.2.1
  have f7 : ∀ i, (φ i).cell? ⟨r, 7, none⟩ = some (.int .i64 D2.writes) := fun i => (hd _ (hD i)).2.cells.2.2.2.2.2
  have hrg : ∀ i, (φ i).rangeAt g2 0 (D2.secs.flatten.map (.int .u8)) := fun i j v hv => by
    have hb := (hd _ (hD i)).2.b
    have hj : j < 64 * D2.secs.length * 1 := by rw [← hb.1]; have := (List.getElem?_eq_some_iff.1 hv).1; simpa [u8s] using this
    rw [Nat.zero_add, hb.cellAt j hj]
    exact hv
  have hfl : D2.secs.flatten.length = 64 * D2.secs.length := by have := h2.b.1; rw [u8s_length] at this; omega
  have f8 : ∀ i, isStrN (φ i) g2 0 (64 * D2.secs.length) = true := fun i => isStrN_of (hrg i) hfl
  have f9 : ∀ i, strN (φ i) g2 0 (64 * D2.secs.length) = I := fun i => by rw [hI]; exact strN_of (hrg i) hfl
  have kI : ∀ W, Below w.heap.size w W → Calls Try.prog 24 #[.pointer (some ⟨p, 0, none⟩)] W fun e w' => e = .returned (.string I) ∧ Below w.heap.size w w' := fun W hb => by
    rw [hI]; exact (c_Image (hd W hb).1).mono fun e w' ⟨he, hb'⟩ => ⟨he, hb.trans (hb'.mono hb.size)⟩
  have kQ : ∀ W, Below w.heap.size w W → Calls Try.prog 17 #[.pointer (some ⟨p, 0, none⟩)] W fun e w' => e = .returned (.int .i64 D2.q.length) ∧ Below w.heap.size w w' := fun W hb => (c_Queue (hd W hb).1).mono fun e w' ⟨he, hw⟩ => ⟨he, by rw [hw]; exact hb⟩
  have kW : ∀ W, Below w.heap.size w W → Calls Try.prog 19 #[.pointer (some ⟨p, 0, none⟩)] W fun e w' => e = .returned (.int .i64 D2.writes) ∧ Below w.heap.size w w' := fun W hb => (c_Writes (hd W hb).1).mono fun e w' ⟨he, hw⟩ => ⟨he, by rw [hw]; exact hb⟩
  have kO : ∀ W, Below w.heap.size w W → Calls Try.prog 21 #[.pointer (some ⟨p, 0, none⟩)] W fun e w' => e = .returned (.bool D2.on) ∧ Below w.heap.size w w' := fun W hb => (c_On (hd W hb).1).mono fun e w' ⟨he, hw⟩ => ⟨he, by rw [hw]; exact hb⟩
  have kS : ∀ W, Below w.heap.size w W → Calls Try.prog 23 #[.pointer (some ⟨p, 0, none⟩)] W fun e w' => e = .returned (.int .i64 D2.secs.length) ∧ Below w.heap.size w w' := fun W hb => (c_Sectors (hd W hb).1).mono fun e w' ⟨he, hw⟩ => ⟨he, by rw [hw]; exact hb⟩
  have kR : ∀ W, Below w.heap.size w W → Calls Try.prog 41 #[.pointer (some ⟨r, 0, none⟩)] W fun e w' => e = .returned (.int .i64 D2.secs.length) ∧ Below w.heap.size w w' := fun W hb => (r_Sectors (hd W hb).2).mono fun e w' ⟨he, hw⟩ => ⟨he, by rw [← hw]; exact hb⟩
  have HF := Lib.hid (And.intro hD hS)
  have HK := Lib.hid (And.intro kI (And.intro kQ (And.intro kW (And.intro kO (And.intro kS kR)))))
  have h0 := hS w.drew ⟨rfl, rfl, rfl, Nat.le_refl _, fun _ _ => rfl⟩
  have H0 := Lib.hid h0
  have hb4 := b4_refl
  clear h h2 hle hd hD hS hrg hfl kI kQ kW kO kS kR hqq hI h0
  go_enter Try.func32, Try.ntmps32
  go_wp2_with fail
  refine wp_region_cls φ (by kernel_rfl) (by kernel_rfl) H0.out ?_
  repeat (go_big_quiet_step (first
    | (go_at_call 24; exact call_cls2 HF.out.1 HF.out.2 HK.out.1 _)
    | (go_at_call 17; exact call_cls2 HF.out.1 HF.out.2 HK.out.2.1 _)
    | (go_at_call 19; exact call_cls2 HF.out.1 HF.out.2 HK.out.2.2.1 _)
    | (go_at_call 21; exact call_cls2 HF.out.1 HF.out.2 HK.out.2.2.2.1 _)
    | (go_at_call 23; exact call_cls2 HF.out.1 HF.out.2 HK.out.2.2.2.2.1 _)
    | (go_at_call 41; exact call_cls2 HF.out.1 HF.out.2 HK.out.2.2.2.2.2 _)))
  refine wpQuiet_nil ?_
  rintro _ ⟨i, rfl⟩
  have hb := HF.out.1 i
  go_wp2_with fail
  go_ret
  exact ⟨rfl, hb⟩
end Go.Proofs.YtcbaflnmfiofeaaDk
