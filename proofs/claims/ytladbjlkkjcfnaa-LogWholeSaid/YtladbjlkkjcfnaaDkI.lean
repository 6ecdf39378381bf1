/-
  vdisk: Read where it is answered. Condition: none.
-/
import Derived.Test.YtladbjlkkjcfnaaDkT
import Derived.Deep.DeepCutAuto
import Derived.Deep.CutBlock
namespace Go.Proofs.YtladbjlkkjcfnaaDk
open Go.RowKit Go.Maps Go.Proofs.YtladbjlkkjcfnaaKp Go.Proofs.YtladbjlkkjcfnaaCm
set_option linter.unusedVariables false
set_option linter.unusedSimpArgs false
variable {w : World} {p g m : Nat} {qv : Value} {D : Dm}
attribute [local go_sem ↓] ld57 st57 zero57
attribute [local go_sem] run_ld57 run_st57 open57 run_cv
theorem askS_zero {D : Dm} {a : Int} (h : askS D a = 0) : D.on = true ∧ 0 ≤ a ∧ a < D.secs.length := by
  unfold askS at h
  split at h
  · cases h
  · split at h
    · cases h
    · rename_i h1 h2
      exact ⟨by simpa using h1, by omega, by omega⟩
theorem zeroE3 (w : World) : (zeroValue 3).run Try.prog w = .ok (.int .i64 0) w := by kernel_rfl
set_option maxRecDepth 100000 in
theorem c_Read_ok (h : Dsk w p g m qv D) (i : Nat) (he : askS D i = 0) (s : List Int) (hs : readM D i = some s) :
    Calls Try.prog 20 #[.pointer (some ⟨p, 0, none⟩), .int .i64 i] w fun e w' => e = .returned (.tuple #[.string (strOfNums s), .int .i64 0]) ∧ Below w.heap.size w w' := by
  have k1 := Lib.hid (c_asked h i)
  rw [he] at k1
  have hi : i < D.secs.length := by have := (askS_zero he).2.2; omega
  obtain ⟨s0, hs0⟩ : ∃ s0, D.secs[i]? = some s0 := ⟨_, List.getElem?_eq_getElem hi⟩
  have hr := h.sec.range hs0
  rw [Nat.mul_comm] at hr
  obtain ⟨_, _, _, hsec⟩ := h.sec
  have hl0 : s0.length = 64 := (hsec i s0 hs0).1
  clear hsec
  have a1 := hasN_of hr (n := 64) (by rw [u8s_length]; exact hl0)
  have a2 := readN_of hr (n := 64) (by rw [u8s_length]; exact hl0)
  obtain ⟨c0, _⟩ := h.cells
  have hn := new_sector w s0 hl0
  have wf1 : (Lit.int .i64 (i : Int)).wf = true := WalkArith.wf_i64 (by have := h.len.2; omega)
  have hkl : WideAt.IsKeyLit (.int .i64 (i : Int)) := trivial
  have hhas : Maps.has (lastD D.q) (.int .i64 (i : Int)) = (lastOf D.q.reverse i).isSome := lastR_has _ hkl _
  have hat0 : ∀ n, lastOf D.q.reverse i = some n → ∀ z, (lastD D.q).atKey (.int .i64 i) z = .lit (.int .i64 n) := fun n e z => lastR_at _ hkl _ n e z
  have H := Lib.hid (And.intro h (And.intro hn (And.intro hs (And.intro wf1 (And.intro hs0 (And.intro hhas hat0))))))
  clear h he hs hs0 hr hn wf1 hkl hhas hat0
  go_enter Try.func20, Try.ntmps20
  go_upto_region 5 with (go_at_call 32; refine k1.out.mono ?_; rintro e w0 ⟨rfl, hw0⟩; have hw0 := hw0.symm; subst hw0)
  obtain ⟨h, ⟨hb1, hlt1, hrg1, hth1⟩, hs, wf1, hs0, hhas, hat0⟩ := H.out
  have hd1 := h.at (fun j hj => hb1.block j (h.lt j hj))
  have hnf : ∀ k, fp p g m qv k → k ≠ w.heap.size := fun k hk e => by have := h.lt k hk; omega
  clear h a1 a2 c0 H
  generalize hW : ((w.alloc (.cells zw57 63)).setCells w.heap.size 0 (u8s s0)) = W1 at *
  generalize hnb : w.heap.size = nb at *
  obtain ⟨aq, cap, hqq, hcq, hmq⟩ := que_cap hd1
  obtain ⟨_, c1, c2, _⟩ := hd1.cells
  rw [hqq] at c1
  have hmap := hd1.map
  cases hlo : lastOf D.q.reverse i with
  | none =>
    rw [hlo] at hhas
    have hse : s = s0 := by
      unfold readM at hs
      rw [hlo, hs0] at hs
      exact (Option.some.inj hs).symm
    subst hse
    have b1 := isStrN_of (n := 64) hrg1 hl0
    have b2 := strN_of (n := 64) hrg1 hl0
    rw [← hnb] at hb1
    have HX := Lib.hid (And.intro hmap (And.intro wf1 (And.intro hhas hb1)))
    clear hmap wf1 hhas hat0 hlo hqq hnf hd1 hW hs hs0 hth1 hrg1 hb1 hnb
    go_wp2_with (at_lookup; (refine wpList_lookup_own_ok_int _ rfl _ _ 45 rfl 3 3 .i64 (int_keyed Try.underlying3) Try.underlying45 Try.underlying3 (zeroE3 _) m D.q.length _ rfl HX.out.1 _ _ rfl (keyOf_int_mk Try.underlying3 HX.out.2.1) ?_); rw [HX.out.2.2.1]; intro c hat hwc; clear hat hwc; simp only [Option.isSome_none])
    go_ret2
    exact ⟨rfl, HX.out.2.2.2⟩
  | some n =>
    rw [hlo] at hhas
    obtain ⟨hnl, d, hnd⟩ := lastOf_get _ _ _ hlo
    rw [List.reverse_reverse] at hnd
    rw [List.length_reverse] at hnl
    have hse : s = d := by
      unfold readM at hs
      rw [hlo] at hs
      simp only [hnd, Option.map_some] at hs
      exact (Option.some.inj hs).symm
    subst hse
    obtain ⟨qb, rfl⟩ : ∃ b, aq = some ⟨b, 0, none⟩ := by
      obtain ⟨_, ⟨e, h0⟩ | ⟨b, cap', cur, e, _⟩⟩ := hd1.que
      · omega
      · rw [hqq] at e; simp at e; exact ⟨b, e.1⟩
    have hl : s.length = 64 := (hd1.fits _ (List.mem_of_getElem? hnd)).2.2
    have hr := hd1.qrange hqq hnd
    have hr1 : W1.rangeAt qb (n * 65 + 1) (u8s s) := fun j v hv => by
      have := hr (j + 1) v hv
      rw [← this]
      congr 2
      omega
    have a1 := hasN_of hr1 (n := 64) (by rw [u8s_length]; exact hl)
    have a2 := readN_of hr1 (n := 64) (by rw [u8s_length]; exact hl)
    have a3 := openN_of hth1
    have hr2 : (W1.setCells nb 0 (u8s s)).rangeAt nb 0 (u8s s) := World.rangeAt_setCells_same _ _ _ _ (by rw [u8s_length, hl]; exact hth1)
    have b1 := isStrN_of (n := 64) hr2 hl
    have b2 := strN_of (n := 64) hr2 hl
    have hb2 : Below nb w (W1.setCells nb 0 (u8s s)) := hb1.trans (((Kept.refl (fun i => i = nb) W1).setCells (b := nb) (fun _ => rfl) 0 (u8s s)).to_below (by omega) (fun i e => by rw [e]; exact Nat.le_refl _))
    have hb2 : Below w.heap.size w (W1.setCells nb 0 (u8s s)) := by rw [hnb]; exact hb2
    have d1 : decide ((n : Int) < (D.q.length : Int)) = true := by simp; omega
    have hat1 := hat0 n hlo (.lit (.int .i64 0))
    have HX := Lib.hid (And.intro hmap (And.intro wf1 (And.intro hhas (And.intro hb2 hat1))))
    clear hmap wf1 hhas hat0 hlo hqq hnf hd1 hW hs hs0 hth1 hrg1 hb1 hnb hr hr1 hr2 hnd hat1 hb2
    go_wp2_with (at_lookup; (refine wpList_lookup_own_ok_int _ rfl _ _ 45 rfl 3 3 .i64 (int_keyed Try.underlying3) Try.underlying45 Try.underlying3 (zeroE3 _) m D.q.length _ rfl HX.out.1 _ _ rfl (keyOf_int_mk Try.underlying3 HX.out.2.1) ?_); rw [HX.out.2.2.1]; intro c hat hwc; rw [HX.out.2.2.2.2] at hat; obtain rfl : (n : Int) = c := (by injection hat with hat; injection hat); clear hwc; simp only [Option.isSome_some])
    go_ret2
    exact ⟨rfl, HX.out.2.2.2.1⟩
end Go.Proofs.YtladbjlkkjcfnaaDk
