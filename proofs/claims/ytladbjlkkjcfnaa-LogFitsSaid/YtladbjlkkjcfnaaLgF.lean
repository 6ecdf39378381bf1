/-
  wal: none, Free, Generation, Records, Sync, Reset. Condition: within bounds.
-/
import Derived.Test.YtladbjlkkjcfnaaLgE
import Derived.Deep.DrawnRows
import Derived.Deep.RegionHeld3
namespace Go.Proofs.YtladbjlkkjcfnaaLg
open Go.RowKit Go.Proofs.YtladbjlkkjcfnaaW.PrintWords Go.Proofs.YtladbjlkkjcfnaaW.PrintMore Go.Proofs.Ytladbjlkkjcfnaa.PU Go.Proofs.YtladbjlkkjcfnaaOc Go.Proofs.YtladbjlkkjcfnaaKp Go.Proofs.YtladbjlkkjcfnaaCm Go.Proofs.YtladbjlkkjcfnaaDk
set_option linter.unusedVariables false
set_option linter.unusedSimpArgs false
variable {w0 w w1 : World} {p l : Nat} {D D' : Dm} {L L' : Lm} {B : List (Nat × Obj)}
structure LOk (L : Lm) : Prop where
  f1 : 0 ≤ L.fr
  f2 : L.fr ≤ 65536
  n1 : 0 ≤ L.n
  n2 : L.n ≤ 65536
  u1 : 0 ≤ L.used
  u2 : L.used ≤ L.n
  g1 : 0 ≤ L.gen
  g2 : L.gen ≤ 4294967295
  rc : L.recs.length ≤ 65536
theorem l_none (h : Lg w0 w p l D L B) : Calls Try.prog 23 #[.pointer (some ⟨l, 0, none⟩)] w fun e w' => e = .returned (.bool false) ∧ w = w' := by
  have c0 := h.cells.1
  clear h
  go_enter Try.func23, Try.ntmps23
  go_wp2_with fail
  go_ret
  exact ⟨rfl, rfl⟩
theorem none_nil (w : World) : Calls Try.prog 23 #[.pointer none] w fun e w' => e = .returned (.bool true) ∧ w = w' := by
  go_enter Try.func23, Try.ntmps23
  go_wp2_with fail
  go_ret
  exact ⟨rfl, rfl⟩
theorem none_zero (w : World) (a : Nat) (h : w.cell? ⟨a, 0, none⟩ = some (.pointer none)) : Calls Try.prog 23 #[.pointer (some ⟨a, 0, none⟩)] w fun e w' => e = .returned (.bool true) ∧ w = w' := by
  go_enter Try.func23, Try.ntmps23
  go_wp2_with fail
  go_ret
  exact ⟨rfl, rfl⟩
theorem l_Generation (h : Lg w0 w p l D L B) : Calls Try.prog 15 #[.pointer (some ⟨l, 0, none⟩)] w fun e w' => e = .returned (.int .i64 L.gen) ∧ w = w' := by
  obtain ⟨c0, c1, c2, c3, c4, c5⟩ := h.cells
  have k1 := Lib.hid (l_none h)
  clear h
  go_enter Try.func15, Try.ntmps15
  go_wp2_with (go_at_call 23; refine k1.out.mono ?_; rintro e w2 ⟨rfl, hw⟩; have hw := hw.symm; subst hw)
  go_ret
  exact ⟨rfl, rfl⟩
attribute [local go_sem ↓] Go.wp_at_zero Go.wp_at_succ
theorem l_Free (h : Lg w0 w p l D L B) (hL : LOk L) : Calls Try.prog 13 #[.pointer (some ⟨l, 0, none⟩)] w fun e w' => e = .returned (.int .i64 (L.n - L.used)) ∧ Lg w0 w' p l D L B := by
  obtain ⟨c0, c1, c2, c3, c4, c5⟩ := h.cells
  have k1 := Lib.hid (l_none h)
  have hw : IntKind.i64.wrap (L.n - L.used) = L.n - L.used := by
    obtain ⟨_, _, _, _, _, _, _, _⟩ := hL
    rw [IntKind.wrap_i64]
    omega
  have H := Lib.hid h
  clear h hL
  go_enter Try.func13, Try.ntmps13
  go_upto_region 3 with (go_at_call 23; refine k1.out.mono ?_; rintro e w2 ⟨rfl, hw⟩; have hw := hw.symm; subst hw)
  go_region_held3 (fun W => W.cell? ⟨l, 2, none⟩ = some (.int .i64 L.n) ∧ W.cell? ⟨l, 5, none⟩ = some (.int .i64 L.used)) (go_keep) (fail)
  go_wp2_with fail
  go_ret
  exact ⟨rfl, H.out.drew⟩
theorem l_Sync (h : Lg w0 w p l D L B) (hok : DOk D) : Calls Try.prog 14 #[.pointer (some ⟨l, 0, none⟩)] w fun e w' => e = .returned (.int .i64 (syncE D)) ∧ Lg w0 w' p l (syncD D) L B := by
  obtain ⟨c0, c1, c2, c3, c4, c5⟩ := h.cells
  have k1 := Lib.hid (l_none h)
  have k2 := Lib.hid (l_DSync h hok)
  clear h hok
  go_enter Try.func14, Try.ntmps14
  go_wp2_with (first
    | (go_at_call 23; refine k1.out.mono ?_; rintro e w2 ⟨rfl, hw⟩; have hw := hw.symm; subst hw)
    | (go_at_call 30; refine k2.out.mono ?_; rintro e w2 ⟨rfl, hs⟩; have HS := Lib.hid hs; clear hs))
  go_ret
  exact ⟨rfl, HS.out⟩
theorem txt_cells {g : Nat} {cur : Array Value} {l : List ByteArray} (hcur : w.heap[g]? = some (.cells cur 9 (0, 0))) (ht : cur.toList.take (l.length * 1) = txts l) : ∀ j, j < l.length → w.cell? ⟨g, j, none⟩ = some (.string (l.getD j ByteArray.empty)) := by
  intro j hj
  rw [cell_of_row _ _ _ _ _ _ hcur, ← Array.getElem?_toList]
  have : (cur.toList.take (l.length * 1))[j]? = some (.string (l.getD j ByteArray.empty)) := by
    rw [ht, txts, List.getElem?_map, List.getElem?_eq_getElem hj, Option.map_some, List.getD_eq_getElem?_getD, List.getElem?_eq_getElem hj, Option.getD_some]
  rw [List.getElem?_take, if_pos (by omega)] at this
  exact this
theorem l_Records (h : Lg w0 w p l D L B) (hL : LOk L) : Calls Try.prog 12 #[.pointer (some ⟨l, 0, none⟩)] w fun e w' => ∃ A c, e = .returned (.slice A L.recs.length c) ∧ w'.ownsRow w.heap.size 9 1 (.slice A L.recs.length c) L.recs.length (txts L.recs) ∧ Below w.heap.size w w' := by
  have k1 := Lib.hid (l_none h)
  obtain ⟨c0, c1, c2, c3, c4, c5⟩ := h.cells
  have hln := hL.rc
  obtain ⟨g, m, qv, rv, hV⟩ := h
  have c6 := hV.c6
  have hk : Calls Try.prog 29 #[rv] w fun e w' => ∃ A c, e = .returned (.slice A L.recs.length c) ∧ w'.ownsRow w.heap.size 9 1 (.slice A L.recs.length c) L.recs.length (txts L.recs) ∧ Below w.heap.size w w' := by
    have hR := hV.rcs
    obtain ⟨hlen, ⟨rfl, h0⟩ | ⟨g', cap, cur, rfl, _, hcur, hn, _, hcs, htk⟩⟩ := hR
    · have hnil : L.recs = [] := List.eq_nil_of_length_eq_zero h0
      rw [hnil]
      exact (Try.slices_Clone_string_nil 0 0 w).mono fun e w' ⟨he, hw⟩ => ⟨none, 0, he, ⟨rfl, .inl ⟨rfl, rfl⟩⟩, by rw [hw]; exact Below.refl _ _⟩
    · have hform : ∀ {w' : World} {b n : Nat} {v : Value} {xs : List Value}, w'.ownsRow b 9 1 v n xs → ∃ A c, v = .slice A n c := by
        intro w' b n v xs ho
        obtain ⟨_, ⟨rfl, h0⟩ | ⟨g2, cap2, cur2, rfl, _⟩⟩ := ho
        · exact ⟨none, 0, by rw [h0]⟩
        · exact ⟨_, _, rfl⟩
      rcases Nat.eq_zero_or_pos L.recs.length with h0 | h0
      · have hnil : L.recs = [] := List.eq_nil_of_length_eq_zero h0
        rw [hnil]
        refine (Try.slices_Clone_string_zero ⟨g', 0, none⟩ cap w).mono fun e w' ⟨v', he, ho, _, hb⟩ => ?_
        obtain ⟨A, c, rfl⟩ := hform ho
        exact ⟨A, c, he, ho, hb⟩
      · refine (Try.slices_Clone_string g' 0 L.recs.length cap L.recs w (Nat.le_refl _) (by omega) (fun j hj => by rw [Nat.zero_add]; exact txt_cells hcur htk j hj)).mono fun e w' ⟨v', he, ho, _, hb⟩ => ?_
        rw [List.take_length] at ho
        obtain ⟨A, c, rfl⟩ := hform ho
        exact ⟨A, c, he, ho, hb⟩
  obtain ⟨qa, cc, rfl⟩ := hV.recform
  replace hk := Lib.hid hk
  clear hV hL
  go_enter Try.func12, Try.ntmps12
  go_wp2_with (first
    | (go_at_call 23; refine k1.out.mono ?_; rintro e w2 ⟨rfl, hw⟩; have hw := hw.symm; subst hw)
    | (go_at_call 29; refine hk.out.mono ?_; rintro e w2 ⟨A, c, rfl, hs⟩; have HS := Lib.hid hs; clear hs))
  go_ret
  exact ⟨A, c, rfl, HS.out⟩
/-- Reset -/
def resetL (L : Lm) : Lm := { L with gen := L.gen + 1, op := true, used := 0, recs := [] }
theorem l_Reset (h : Lg w0 w p l D L B) (hL : LOk L) (ho : D.on = true) (hg : L.gen < 4294967295) : Calls Try.prog 9 #[.pointer (some ⟨l, 0, none⟩)] w fun e w' => e = .returned (.int .i64 0) ∧ Lg w0 w' p l D (resetL L) B := by
  obtain ⟨c0, c1, c2, c3, c4, c5⟩ := h.cells
  have k1 := Lib.hid (l_none h)
  have k2 := Lib.hid (l_On h)
  rw [ho] at k2
  have hw : IntKind.i64.wrap (L.gen + 1) = L.gen + 1 := by
    have := hL.g1
    rw [IntKind.wrap_i64]
    omega
  have hne : ¬ L.gen = 4294967295 := by omega
  have z3 := h.frozen 3
  have z4 := h.frozen 4
  have z5 := h.frozen 5
  have z6 := h.frozen 6
  obtain ⟨g, m, qv, rv, hV⟩ := id h
  have c6 := hV.c6
  obtain ⟨qa, cc, rfl⟩ := hV.recform
  have H := Lib.hid h
  clear hV h hL hg ho
  go_enter Try.func9, Try.ntmps9
  go_wp2_with (first
    | (go_at_call 23; refine k1.out.mono ?_; rintro e w2 ⟨rfl, hw⟩; have hw := hw.symm; subst hw)
    | (go_at_call 24; refine k2.out.mono ?_; rintro e w2 ⟨rfl, hw⟩; have hw := hw.symm; subst hw))
  go_ret
  refine ⟨rfl, ?_⟩
  have h1 := H.out.set (L' := { L with gen := L.gen + 1 }) 3 (.int .i64 (L.gen + 1)) rfl (fun rv => rfl)
  have h2 := h1.set (L' := { L with gen := L.gen + 1, op := true }) 4 (.bool true) rfl (fun rv => rfl)
  have h3 := h2.set (L' := { L with gen := L.gen + 1, op := true, used := 0 }) 5 (.int .i64 0) rfl (fun rv => rfl)
  obtain ⟨g, m, qv, rv, hV⟩ := h3
  exact hV.recd (L' := resetL L) (Kept.refl _ _) (.slice none 0 0) ⟨rfl, .inl ⟨rfl, rfl⟩⟩ (fun j e => by simp [Value.ownBlock] at e) rfl
end Go.Proofs.YtladbjlkkjcfnaaLg
