/-
  vdisk: Image. Condition: none.
-/
import Derived.Test.YtcbaflnmfiofeaaDkK
namespace Go.Proofs.YtcbaflnmfiofeaaDk
open Go.RowKit Go.Maps Go.Proofs.YtcbaflnmfiofeaaKp Go.Proofs.YtcbaflnmfiofeaaCm Go.Proofs.YtcbaflnmfiofeaaW.PrintWords
set_option linter.unusedVariables false
set_option linter.unusedSimpArgs false
variable {w : World} {p g m : Nat} {qv : Value} {D : Dm}
attribute [local go_sem ↓] ld57 st57 zero57
attribute [local go_sem] run_ld57 run_st57 open57
theorem info5 : (Try.prog.info? 5).map (fun i => (i.zero, i.size, i.bytes)) = some (some (.int .u8 0), 1, 1) := by kernel_rfl
def flatK (secs : List (List Int)) (k : Nat) : List Int := (secs.take k).flatten
theorem flatK_succ {secs : List (List Int)} {k : Nat} {s : List Int} (h : secs[k]? = some s) : flatK secs (k + 1) = flatK secs k ++ s := by
  unfold flatK
  rw [List.take_add_one, h]
  simp
theorem flatK_length {secs : List (List Int)} (h : ∀ s ∈ secs, s.length = 64) (k : Nat) (hk : k ≤ secs.length) : (flatK secs k).length = 64 * k := by
  induction k with
  | zero => rfl
  | succ k ih =>
    obtain ⟨s, hs⟩ : ∃ s, secs[k]? = some s := ⟨_, List.getElem?_eq_getElem (by omega)⟩
    rw [flatK_succ hs, List.length_append, ih (by omega), h s (List.mem_of_getElem? hs)]
    omega
theorem SecAt.each (h : SecAt w g D.secs) : ∀ s ∈ D.secs, s.length = 64 := by
  obtain ⟨_, _, _, hh⟩ := h
  intro s hs
  obtain ⟨i, hi, rfl⟩ := List.getElem_of_mem hs
  exact (hh i _ (List.getElem?_eq_getElem hi)).1
set_option maxRecDepth 100000 in
theorem c_Image (h : Dsk w p g m qv D) : Calls Try.prog 24 #[.pointer (some ⟨p, 0, none⟩)] w fun e w' => e = .returned (.string (strOfNums D.secs.flatten)) ∧ Below w.heap.size w w' := by
  obtain ⟨c0, _⟩ := h.cells
  have hl2 := h.len.2
  have hl1 := h.len.1
  obtain ⟨i0, hi0, hz0, hz1, hz2⟩ := info_parts info5
  have H := Lib.hid (And.intro h (And.intro hi0 (And.intro hz0 (And.intro hz1 hz2))))
  clear h hi0 hz0 hz1 hz2
  go_enter Try.func24, Try.ntmps24
  go_wp2_with fail
  clear c0
  go_loopw [3, 13] (fun v i wr => ∃ k : Nat, k ≤ D.secs.length ∧ i = .int .i64 k ∧ wr.ownsRow w.heap.size 5 1 v (64 * k) (u8s (flatK D.secs k)) ∧ Below w.heap.size w wr) (fun _ i _ => D.secs.length - (intOf i).toNat)
  case atStart => exact ⟨0, Nat.zero_le _, rfl, ⟨rfl, .inl ⟨rfl, rfl⟩⟩, Below.refl _ _⟩
  case round =>
    obtain ⟨k, hk, rfl, hown, hb⟩ := hrel
    by_cases hkn : k = D.secs.length
    · subst hkn
      have d1 : decide ((D.secs.length : Int) < (D.secs.length : Int)) = false := by simp
      have hcv := own_string (dst := 9) Try.underlying54 Try.underlying5 Try.underlying9 (xs := flatK D.secs D.secs.length) hown
      have hfl := Lib.hid (show flatK D.secs D.secs.length = D.secs.flatten by rw [flatK, List.take_length])
      have HB := Lib.hid hb
      clear hown hb
      go_wp2_with fail
      go_ret
      rw [hfl.out]
      exact ⟨rfl, HB.out⟩
    · have d1 : decide ((k : Int) < (D.secs.length : Int)) = true := by simp; omega
      obtain ⟨h, hi0, hz0, hz1, hz2⟩ := H.out
      obtain ⟨s, hs⟩ : ∃ s, D.secs[k]? = some s := ⟨_, List.getElem?_eq_getElem (by omega)⟩
      have hl : s.length = 64 := h.sec.each s (List.mem_of_getElem? hs)
      have hr := (h.at (fun j hj => hb.block j (h.lt j hj))).sec.range hs
      rw [Nat.mul_comm] at hr
      have a1 := hasN_of hr (n := 64) (by rw [u8s_length]; exact hl)
      have a2 := readN_of hr (n := 64) (by rw [u8s_length]; exact hl)
      have hn := new_sector wr s hl
      have hfl := flatK_succ hs
      have hk1 : k + 1 ≤ D.secs.length := by omega
      have j1 : (0 : Int) ≤ (k : Int) := by omega
      have j2 : (k : Int) < (D.secs.length : Int) := by omega
      have HX := Lib.hid (And.intro hn (And.intro hfl (And.intro hown (And.intro hb (And.intro hl hk1)))))
      clear h hs hr hn hfl hown hb hi0 hz0 hz1 hz2 hk1
      go_upto_region 7 with fail
      obtain ⟨⟨hb1, hlt1, hrg1, hth1⟩, hfl, hown, hb, _, hk1⟩ := HX.out
      have hown1 : ((wr.alloc (.cells zw57 57)).setCells wr.heap.size 0 (u8s s)).ownsRow w.heap.size 5 1 u3 (64 * k) (u8s (flatK D.secs k)) := ownsRow_at hown (fun j e => hb1.block j (ownBlock_lt hown e))
      have hb2 := hb.trans (hb1.mono hb.size)
      have hbs := hb.size
      clear hb1 hown hb hth1 a1 a2
      generalize ((wr.alloc (.cells zw57 57)).setCells wr.heap.size 0 (u8s s)) = W1 at *
      generalize wr.heap.size = nb at *
      obtain ⟨h, hi0, hz0, hz1, hz2⟩ := H.out
      have HY := Lib.hid (And.intro hrg1 (And.intro hown1 (And.intro hi0 (And.intro hz0 (And.intro hz1 hz2)))))
      have HZ := Lib.hid (And.intro hb2 (And.intro hfl (And.intro hk1 (And.intro hl (And.intro hlt1 hbs)))))
      clear hrg1 hown1 hi0 hz0 hz1 hz2 hb2 hfl hk1 hl hlt1 hbs h HX
      go_wp2_with (at_builtin; (refine wpList_append_lies _ rfl (.tmp 17) (.tmp 18) 54 rfl w.heap.size 5 i0 (.int .u8 0) 1 1 Try.underlying54 HY.out.2.2.1 HY.out.2.2.2.1 HY.out.2.2.2.2.1 HY.out.2.2.2.2.2 rfl (by omega) u3 (64 * k) _ rfl HY.out.2.1 ⟨nb, 0, none⟩ 64 64 (u8s s) rfl (by rw [u8s_length, HZ.out.2.2.2.1]) (fun j u hu => by rw [Addr.add_mid]; exact HY.out.1 j u hu) (oneU s) (by omega) (by unfold maxLen; omega) (by omega) HZ.out.1.size _ rfl ?_); intro gg cap5 w5 hown5 hgrow5 hat5 hlt5)
      obtain ⟨hb2, hfl, hk1, hl1, hlt1, hbs⟩ := HZ.out
      refine ⟨⟨k + 1, hk1, by simp, ?_, ?_⟩, by simp [intOf]; omega⟩
      · rw [show 64 * (k + 1) = 64 * k + 64 by omega, hfl, u8s, List.map_append]
        exact hown5
      · refine hb2.grown hgrow5 hb2.size (fun j hj => ?_)
        rcases HY.out.2.1.2 with ⟨e, _⟩ | ⟨b, c, cur, e, hbb, _⟩
        · rw [e] at hj; simp [Value.ownBlock] at hj
        · rw [e] at hj; cases hj; exact hbb
end Go.Proofs.YtcbaflnmfiofeaaDk
