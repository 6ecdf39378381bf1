/-
  wal: Append that fits. Condition: within bounds.
-/
import Derived.Test.YtladbjlkkjcfnaaLgE
import Derived.Deep.DrawnRows
import Derived.Deep.RegionHeld3
import Derived.Deep.RegionWith
namespace Go.Proofs.YtladbjlkkjcfnaaLg
open Go.RowKit Go.Proofs.YtladbjlkkjcfnaaW.PrintWords Go.Proofs.YtladbjlkkjcfnaaW.PrintMore Go.Proofs.Ytladbjlkkjcfnaa.PU Go.Proofs.YtladbjlkkjcfnaaOc Go.Proofs.YtladbjlkkjcfnaaKp Go.Proofs.YtladbjlkkjcfnaaCm Go.Proofs.YtladbjlkkjcfnaaDk
set_option linter.unusedVariables false
set_option linter.unusedSimpArgs false
variable {w0 w w1 : World} {p l : Nat} {D D' : Dm} {L L' : Lm} {B : List (Nat × Obj)}
attribute [local go_sem ↓] Go.wp_at_zero Go.wp_at_succ
attribute [local go_sem ↓] apR_eq
theorem l_form (h : Lg w0 w p l D L B) (s : ByteArray) (kind gen place : Int) (hs : s.size ≤ 48) (hk : 0 ≤ kind ∧ kind ≤ 255) :
    Calls Try.prog 27 #[.string s, .int .i64 kind, .int .i64 gen, .int .i64 place] w fun e w' => e = .returned (.string (formS s kind gen place)) ∧ Lg w0 w' p l D L B := h.db (c_form s kind gen place hs hk w)
set_option maxRecDepth 100000 in
set_option maxHeartbeats 4000000 in
theorem l_Append (h : Lg w0 w p l D L B) (hL : LOk L) (rec : ByteArray) (hs : rec.size ≤ 1000000) (ho : L.op = true) (hf : ((pcs rec).length : Int) ≤ L.n - L.used) {k : Nat} (hD : Hl D k) (hk : k < 100000000000) (hsec : L.fr + L.n ≤ D.secs.length) (hs6 : D.secs.length ≤ 65536) :
    Calls Try.prog 11 #[.pointer (some ⟨l, 0, none⟩), .string rec] w fun e w' => e = .returned (.int .i64 0) ∧ Lg w0 w' p l (appD D L rec) (appL L rec) B := by
  have k1 := l_pieces h rec (by omega)
  have hsz := pcs_sizes rec
  have hN1 : 1 ≤ (pcs rec).length := by rw [pcs_count]; omega
  obtain ⟨hf1, hf2, hn1, hn2, hu1, hu2, hg1, hg2, hrc⟩ := id hL
  have hall := fun i => wrI_hl (fr := L.fr) (gen := L.gen) (used := L.used) hD hsz ⟨hg1, hg2⟩ hf1 hu1 (by omega) hs6 i
  have hwok := fun i => wrI_ok (fr := L.fr) (gen := L.gen) (used := L.used) hD hsz ⟨hg1, hg2⟩ hf1 hu1 (by omega) hs6 i
  unfold appD appL
  generalize pcs rec = parts at *
  obtain ⟨N, hN⟩ : ∃ N, N = parts.length := ⟨_, rfl⟩
  rw [← hN] at hN1 hf k1 hall ⊢
  have HO := Lib.hid ho
  have d1 : decide (L.n - L.used < (N : Int)) = false := decide_eq_false (by omega)
  have hNn : N ≤ 65536 := by omega
  replace k1 := Lib.hid k1
  have HW := Lib.hid (And.intro hall (And.intro hwok (And.intro hsz hN)))
  have HL := Lib.hid hL
  have HU := Lib.hid (And.intro hu1 (And.intro hu2 (And.intro hf1 (And.intro hf2 (And.intro hn2 (And.intro hf hk))))))
  have wN : IntKind.i64.wrap ((N : Int) - 1) = (N : Int) - 1 := by rw [IntKind.wrap_i64]; omega
  have wU : IntKind.i64.wrap (L.used + (N : Int)) = L.used + (N : Int) := by rw [IntKind.wrap_i64]; omega
  clear h ho hf hL hD hall hwok hsz hsec hN hu1 hu2 hf1 hf2 hn1 hn2 hg1 hg2 hk hs6
  go_enter Try.func11, Try.ntmps11
  go_wp2_with (first
    | (go_at_call 25; refine k1.out.mono ?_; rintro e w2 ⟨g, c, cs, rfl, hc, hcs, hs⟩; have HC := Lib.hid hcs; obtain ⟨c0, c1, c2, c3, c4, c5⟩ := hs.cells; rw [HO.out] at c4; have HS := Lib.hid hs; clear hs hcs)
    | (go_at_call 23; refine (l_none HS.out).mono ?_; rintro e w3 ⟨rfl, hw⟩; have hw := hw.symm; subst hw)
    | (go_at_call 13; refine (l_Free HS.out HL.out).mono ?_; rintro e w3 ⟨rfl, hs⟩; have HS3 := Lib.hid hs; clear hs))
  clear k1 c0 c1 c2 c3 c4 c5 HS
  go_loopw [30] (fun v wr => ∃ i : Nat, i ≤ N ∧ v = .int .i64 i ∧ Lg w0 wr p l (wrI D L.fr L.gen L.used parts i) L ((g, .cells cs 9 (0, 0)) :: B)) (fun v _ => N - (intOf v).toNat)
  case atStart => exact ⟨0, Nat.zero_le _, rfl, HS3.out⟩
  case round =>
    clear HS3
    obtain ⟨i, hi, rfl, hst⟩ := hrel
    obtain ⟨c0, c1, c2, c3, c4, c5⟩ := hst.cells
    by_cases hin : i < N
    · have d5 : decide (i < N) = true := decide_eq_true hin
      obtain ⟨hall, hwok, hsz, hN⟩ := HW.out
      obtain ⟨u1, u2, f1, f2, n2, hf, hk⟩ := HU.out
      obtain ⟨x, hx⟩ : ∃ x, parts[i]? = some x := ⟨_, List.getElem?_eq_getElem (by omega)⟩
      have hxs : x.size ≤ 48 := hsz x (List.mem_of_getElem? hx)
      have cx : wr.cell? ⟨g, i, none⟩ = some (.string x) := (cell_of_row _ _ _ _ _ _ (hst.at List.mem_cons_self)).trans (HC.out i x hx)
      have wi : IntKind.i64.wrap (L.used + (i : Int)) = L.used + (i : Int) := by rw [IntKind.wrap_i64]; omega
      have wf : IntKind.i64.wrap (L.fr + (L.used + (i : Int))) = L.fr + (L.used + (i : Int)) := by rw [IntKind.wrap_i64]; omega
      have j1 : (0 : Int) ≤ (i : Int) := by omega
      have hDi := (hall i (by omega)).1.ok (by omega)
      have hE := hwok i (by omega)
      have hxd : parts.getD i ByteArray.empty = x := by rw [List.getD_eq_getElem?_getD, hx, Option.getD_some]
      have hstep : wrI D L.fr L.gen L.used parts (i + 1) = writeD (wrI D L.fr L.gen L.used parts i) (L.fr + (L.used + i)) (formS x (if i + 1 = N then 2 else 1) L.gen (L.used + i)) := by rw [← hxd, hN]; rfl
      rw [hxd, ← hN] at hE
      have hi1 : Hid (i + 1 ≤ N) := Lib.hid (by omega)
      have HS := Lib.hid hst
      have HD := Lib.hid hDi
      have HE := Lib.hid (And.intro hE (And.intro hstep hxs))
      clear hst hDi hE hstep hxs hall hwok hsz hN hx hxd u1 u2 f1 f2 n2 hf hk hin
      by_cases hlast : i + 1 = N
      · have dl : ((i : Int) == (N : Int) - 1) = true := by simp; omega
        replace HE := (show Hid _ from by have := HE.out; rw [if_pos hlast] at this; exact Lib.hid this)
        clear hlast
        go_upto_region 15 with fail
        have HF := Lib.hid HS.out.drew
        go_region_held3 (fun W => W.cell? ⟨l, 0, none⟩ = some (.pointer (some ⟨p, 0, none⟩)) ∧ W.cell? ⟨l, 1, none⟩ = some (.int .i64 L.fr) ∧ W.cell? ⟨l, 3, none⟩ = some (.int .i64 L.gen))
          (first | (go_keep; done) | exact ⟨e0, e1, e3⟩)
          (first
            | (go_at_call 27; refine (l_form HF.out x 2 L.gen (L.used + (i : Int)) HE.out.2.2 (by omega)).mono ?_; rintro e w7 ⟨rfl, hs⟩; obtain ⟨e0, e1, e2, e3, e4, e5⟩ := hs.cells; have HG := Lib.hid hs; clear hs)
            | (go_at_call 26; refine (l_Write HG.out HD.out _ _).mono ?_; rintro e w8 ⟨rfl, hs⟩; rw [HE.out.1]; obtain ⟨e0, e1, e2, e3, e4, e5⟩ := hs.cells; have HH := Lib.hid hs; clear hs))
        rename_i hHeld
        clear hHeld HS HF HG
        go_wp2_with fail
        exact ⟨⟨i + 1, hi1.out, by simp, by rw [HE.out.2.1]; exact HH.out⟩, by have := hi1.out; simp [intOf]; omega⟩
      · have dl : ((i : Int) == (N : Int) - 1) = false := by simp; omega
        replace HE := (show Hid _ from by have := HE.out; rw [if_neg hlast] at this; exact Lib.hid this)
        clear hlast
        go_upto_region 15 with fail
        have HF := Lib.hid HS.out.drew
        go_region_held3 (fun W => W.cell? ⟨l, 0, none⟩ = some (.pointer (some ⟨p, 0, none⟩)) ∧ W.cell? ⟨l, 1, none⟩ = some (.int .i64 L.fr) ∧ W.cell? ⟨l, 3, none⟩ = some (.int .i64 L.gen))
          (first | (go_keep; done) | exact ⟨e0, e1, e3⟩)
          (first
            | (go_at_call 27; refine (l_form HF.out x 1 L.gen (L.used + (i : Int)) HE.out.2.2 (by omega)).mono ?_; rintro e w7 ⟨rfl, hs⟩; obtain ⟨e0, e1, e2, e3, e4, e5⟩ := hs.cells; have HG := Lib.hid hs; clear hs)
            | (go_at_call 26; refine (l_Write HG.out HD.out _ _).mono ?_; rintro e w8 ⟨rfl, hs⟩; rw [HE.out.1]; obtain ⟨e0, e1, e2, e3, e4, e5⟩ := hs.cells; have HH := Lib.hid hs; clear hs))
        rename_i hHeld
        clear hHeld HS HF HG
        go_wp2_with fail
        exact ⟨⟨i + 1, hi1.out, by simp, by rw [HE.out.2.1]; exact HH.out⟩, by have := hi1.out; simp [intOf]; omega⟩
    · obtain rfl : i = N := by omega
      have d5 : decide (i < i) = false := by simp
      have z5 := hst.frozen 5
      have HS := Lib.hid hst
      clear hst hin
      go_upto_region 21 with fail
      have hst2 := (HS.out.set (L' := { L with used := L.used + (i : Int) }) 5 (.int .i64 (L.used + (i : Int))) rfl (fun rv => rfl)).sub (B' := B) (fun x hx => List.mem_cons_of_mem _ hx)
      generalize (wr.setCell ⟨l, 5, none⟩ (.int .i64 (L.used + (i : Int)))) = W at *
      obtain ⟨gg, m, qv, rv, hV⟩ := hst2
      have hV := Lib.hid hV
      have c6 := hV.out.c6
      have hrc' := Lib.hid hrc
      have kc := Lib.hid (b_Clone rec hs)
      clear c0 c1 c2 c3 c4 c5 HS z5 hrc
      go_region_with (go_at_call 28; refine (kc.out _).mono ?_; rintro e w7 ⟨rfl, hb⟩; have hb' : Below W.heap.size W w7 := ⟨hb.os, hb.tape, hb.output, hb.size, hb.block⟩; have e6 := (hV.out.b hb').c6; have e7 : (w7.alloc (.cells #[.string rec] 9)).cell? ⟨l, 6, none⟩ = some rv := (hV.out.b (hb'.alloc hb'.size _)).c6; obtain ⟨ga, capa, w9, hrun, y6, z6, hfin⟩ := hV.out.grow hb' rec hrc'.out; have HFIN := Lib.hid hfin; clear hb hb' hfin)
      all_goals
        go_wp2_with fail
        go_ret
        exact ⟨rfl, HFIN.out⟩
end Go.Proofs.YtladbjlkkjcfnaaLg
