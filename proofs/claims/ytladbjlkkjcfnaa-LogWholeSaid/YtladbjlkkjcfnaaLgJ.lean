/-
  wal: Open, the walk. Condition: within bounds.
-/
import Derived.Test.YtladbjlkkjcfnaaLgI
namespace Go.Proofs.YtladbjlkkjcfnaaLg
open Go.RowKit Go.Proofs.YtladbjlkkjcfnaaW.PrintWords Go.Proofs.YtladbjlkkjcfnaaW.PrintMore Go.Proofs.Ytladbjlkkjcfnaa.PU Go.Proofs.YtladbjlkkjcfnaaOc Go.Proofs.YtladbjlkkjcfnaaKp Go.Proofs.YtladbjlkkjcfnaaCm Go.Proofs.YtladbjlkkjcfnaaDk
set_option linter.unusedVariables false
set_option linter.unusedSimpArgs false
variable {w0 w w1 : World} {p l : Nat} {D D' : Dm} {L L' : Lm} {B : List (Nat × Obj)}
attribute [local go_sem ↓] apR_eq
theorem d_generation (h : Ds w0 w p D B) (b : ByteArray) (hb : b.size = 64) : Calls Try.prog 21 #[.string b] w fun e w' => e = .returned (.int .i64 (genS b)) ∧ Ds w0 w' p D B :=
  (c_generation b hb w).mono fun e w' ⟨he, hb⟩ => ⟨he, h.b hb⟩
theorem d_Read' (h : Ds w0 w p D B) (a : Int) (ha : askS D a = 0) : Calls Try.prog 20 #[.pointer (some ⟨p, 0, none⟩), .int .i64 a] w fun e w' => e = .returned (.tuple #[.string (readS D a), .int .i64 0]) ∧ Ds w0 w' p D B :=
  (d_Read h a ha).mono fun e w' ⟨he, hb⟩ => ⟨he, h.b hb⟩
theorem toList_ne {x : ByteArray} (h : x ≠ ByteArray.empty) : x.toList.isEmpty = false := by
  cases he : x.toList with
  | nil => exact absurd (ByteArray.ext (Array.toList_inj.1 (by rw [ByteArray.toList_eq] at he; rw [he]; rfl))) h
  | cons a t => rfl
set_option maxRecDepth 100000 in
set_option maxHeartbeats 4000000 in
theorem l_Open (h : Ds w0 w p D B) (hon : D.on = true) (fr n : Nat) (hn : 1 ≤ n) (hs : fr + n ≤ D.secs.length) (h6 : D.secs.length ≤ 65536) :
    Calls Try.prog 8 #[.pointer (some ⟨p, 0, none⟩), .int .i64 fr, .int .i64 n] w fun e w' => ∃ l, e = .returned (.tuple #[.pointer (some ⟨l, 0, none⟩), .int .i64 0]) ∧ Lg w0 w' p l D (openL D fr n) B := by
  have hask := fun (k : Nat) (hk : k < n) => ask_ok (fr := fr) hon hk hs
  have hask0 : askS D (fr : Int) = 0 := by have := hask 0 hn; simpa using this
  have hsz := fun (k : Nat) (hk : k < n) => read_size h _ (hask k hk)
  have hsz0 : (readS D (fr : Int)).size = 64 := read_size h _ hask0
  obtain ⟨S, hS⟩ : ∃ S, S = D.secs.length := ⟨_, rfl⟩
  have ks := d_Sectors h
  rw [← hS] at ks hs h6
  have k1 := d_Read' h (fr : Int) hask0
  obtain ⟨OL, hOL⟩ : ∃ OL, OL = openL D fr n := ⟨_, rfl⟩
  rw [← hOL]
  unfold openL at hOL
  obtain ⟨rd, hrd⟩ : ∃ rd : Nat → ByteArray, rd = fun k : Nat => readS D ((fr : Int) + (k : Int)) := ⟨_, rfl⟩
  rw [← hrd] at hOL
  generalize readS D (fr : Int) = b0 at *
  have kg := fun (w' : World) (h : Ds w0 w' p D B) => d_generation h b0 hsz0
  generalize genS b0 = G at *
  have d1 : decide ((n : Int) < 1) = false := decide_eq_false (by omega)
  have d2 : decide ((fr : Int) < 0) = false := decide_eq_false (by omega)
  have d3 : decide (S < fr) = false := decide_eq_false (by omega)
  have wS : IntKind.i64.wrap ((S : Int) - (fr : Int)) = ((S - fr : Nat) : Int) := by rw [IntKind.wrap_i64]; omega
  have d4 : decide (S - fr < n) = false := decide_eq_false (by omega)
  have HA := Lib.hid (And.intro hask (And.intro hsz (And.intro hs (And.intro h6 hrd))))
  replace hOL := Lib.hid hOL
  replace ks := Lib.hid ks
  replace k1 := Lib.hid k1
  replace kg := Lib.hid kg
  clear hask hsz hask0 hsz0 hS hrd hs h6 h hon
  go_enter Try.func8, Try.ntmps8
  go_upto_region 7 with (first
    | (go_at_call 19; refine ks.out.mono ?_; rintro e w2 ⟨rfl, hw⟩; have hw := hw.symm; subst hw)
    | (go_at_call 20; refine k1.out.mono ?_; rintro e w3 ⟨rfl, hs⟩; have HS := Lib.hid hs; clear hs)
    | (go_at_call 21; refine (kg.out _ HS.out).mono ?_; rintro e w4 ⟨rfl, hs⟩; have HS2 := Lib.hid hs; clear hs))
  have hst := HS2.out.newlog fr n G
  generalize (w4.alloc (.cells #[.pointer (some ⟨p, 0, none⟩), .int .i64 (fr : Int), .int .i64 (n : Int), .int .i64 G, .bool false, .int .i64 0, .slice none 0 0] 38)) = w5 at *
  generalize w4.heap.size = l at *
  clear HS HS2 ks k1 kg
  have HS := Lib.hid hst
  clear hst
  go_wp2_with fail
  go_loopw [11, 12] (fun rv pv wr => ∃ k : Nat, k ≤ n ∧ (G ≤ 0 → k = 0) ∧ (scI rd G k).stop = false ∧ rv = .string (scI rd G k).cur ∧ pv = .int .i64 k ∧ Lg w0 wr p l D ⟨fr, n, G, false, (scI rd G k).used, (scI rd G k).recs⟩ B) (fun _ v _ => n - (intOf v).toNat)
  case atStart => exact ⟨0, Nat.zero_le _, fun _ => rfl, rfl, rfl, rfl, HS.out⟩
  case round =>
    clear HS
    obtain ⟨k, hk, hk0, hstop, rfl, rfl, hst⟩ := hrel
    have hbd := scI_bounds rd G k
    obtain ⟨c0, c1, c2, c3, c4, c5⟩ := hst.cells
    by_cases hkn : k < n
    · by_cases hG : 0 < G
      · have d5 : decide (k < n) = true := decide_eq_true hkn
        have d6 : decide (0 < G) = true := decide_eq_true hG
        obtain ⟨ha, hz, hs, h6, hrd⟩ := HA.out
        have kr := fun (w' : World) (L : Lm) (h : Lg w0 w' p l D L B) => l_Read h _ (ha k hkn)
        have hz64 : (rd k).size = 64 := by rw [hrd]; exact hz k hkn
        have hrk : readS D ((fr : Int) + (k : Int)) = rd k := by rw [hrd]
        rw [hrk] at kr
        have kp := fun (w' : World) (L : Lm) (h : Lg w0 w' p l D L B) => l_read h (rd k) G k hz64
        have hA := sc_A hstop hkn
        have hB := sc_B hstop
        have hC := sc_C hstop
        have wk : IntKind.i64.wrap ((fr : Int) + (k : Int)) = (fr : Int) + (k : Int) := by rw [IntKind.wrap_i64]; omega
        have wk1 : IntKind.i64.wrap ((k : Int) + 1) = (k : Int) + 1 := by rw [IntKind.wrap_i64]; omega
        have hpz := readPc_size (rd k) G k
        unfold scStop at hA hB hC
        generalize rd k = b at *
        generalize readPc b G (k : Int) = r at *
        obtain ⟨r1, r2, r3⟩ := r
        generalize (scI rd G k).cur = cur at *
        generalize (scI rd G k).recs = recs at *
        generalize (scI rd G k).used = used at *
        dsimp only at hA hB hC hpz kp
        have hi1 : Hid (k + 1 ≤ n) := Lib.hid (by omega)
        have hk1 : Hid (G ≤ 0 → k + 1 = 0) := Lib.hid (fun h => by omega)
        have hG' := Lib.hid hG
        replace kr := Lib.hid kr
        replace kp := Lib.hid kp
        replace hA := Lib.hid hA
        replace hB := Lib.hid hB
        replace hC := Lib.hid hC
        have HBD := Lib.hid (And.intro hbd.1 (And.intro hbd.2.1 (And.intro hpz (And.intro h6 hs))))
        have HS := Lib.hid hst
        clear ha hz hs h6 hrd hbd hpz hst hz64 hrk hk0 hstop hG hkn
        go_upto_region 15 with (first
          | (go_at_call 20; refine (kr.out _ _ HS.out).mono ?_; rintro e w7 ⟨rfl, hs⟩; obtain ⟨c0, c1, c2, c3, c4, c5⟩ := hs.cells; have HS2 := Lib.hid hs; clear hs)
          | (go_at_call 22; refine (kp.out _ _ HS2.out).mono ?_; rintro e w8 ⟨rfl, hs⟩; obtain ⟨c0, c1, c2, c3, c4, c5⟩ := hs.cells; have HS3 := Lib.hid hs; clear hs))
        clear HS HS2 kr kp
        have hss := HBD.out
        have n1 : ¬ (9223372036854775807 < cur.size + r1.size) := by omega
        clear hss
        cases r3 with
        | false =>
          have HAA := Lib.hid (hA.out (.inl rfl))
          clear hA hB hC
          go_wp2_with fail
          go_ret2
          refine ⟨l, rfl, ?_⟩
          rw [hOL.out, if_pos hG'.out, if_pos hG'.out, HAA.out.1, HAA.out.2]
          exact HS3.out
        | true =>
          by_cases h2 : r2 = 2
          · subst h2
            by_cases h1 : r1 = ByteArray.empty
            · have hte : r1.toList.isEmpty = true := by rw [h1, ByteArray.toList_eq]; rfl
              by_cases hcu : cur = ByteArray.empty
              · have htc : cur.toList.isEmpty = true := by rw [hcu, ByteArray.toList_eq]; rfl
                have HNB := Lib.hid (hB.out (fun h => by rcases h with h | ⟨_, _, h⟩; cases h; exact h hcu) rfl)
                clear hA hB hC h1 hcu
                go_upto_region 18 with fail
                obtain ⟨g, m, qv, rv, hV⟩ := HS3.out
                have c6 := hV.c6
                obtain ⟨ga, capa, w9, hrun, y6, z6, hfin⟩ := hV.grow (Below.refl _ _) (cur ++ r1) (by show recs.length ≤ 65536; have := HBD.out.2.1; have := HBD.out.2.2.2; omega)
                have HFIN := Lib.hid hfin
                clear hV hfin HS3
                go_upto_region 19 with fail
                dsimp only at HFIN
                generalize (w9.setCell ⟨l, 6, none⟩ (.slice (some ⟨ga, 0, none⟩) (recs.length + 1) capa)) = w10 at *
                obtain ⟨c0, c1, c2, c3, c4, c5⟩ := HFIN.out.cells
                have z5 := HFIN.out.frozen 5
                clear hrun y6 z6
                go_wp2_with fail
                have hF := HFIN.out.set (L' := ⟨fr, n, G, false, (k : Int) + 1, recs ++ [cur ++ r1]⟩) 5 (.int .i64 ((k : Int) + 1)) rfl (fun rv => rfl)
                obtain ⟨q1, q2, q3, q4⟩ := HNB.out
                refine ⟨⟨k + 1, hi1.out, hk1.out, q4, by rw [q1]; rfl, by simp, ?_⟩, by have := hi1.out; simp [intOf]; omega⟩
                rw [q2, q3]
                exact hF
              · have ht : cur.toList.isEmpty = false := toList_ne hcu
                have HAA := Lib.hid (hA.out (.inr ⟨rfl, h1, hcu⟩))
                clear hA hB hC hcu h1
                go_wp2_with fail
                go_ret2
                refine ⟨l, rfl, ?_⟩
                rw [hOL.out, if_pos hG'.out, if_pos hG'.out, HAA.out.1, HAA.out.2]
                exact HS3.out
            · have ht : r1.toList.isEmpty = false := toList_ne h1
              have HNB := Lib.hid (hB.out (fun h => by rcases h with h | ⟨_, h, _⟩; cases h; exact h1 h) rfl)
              clear hA hB hC h1
              go_upto_region 18 with fail
              obtain ⟨g, m, qv, rv, hV⟩ := HS3.out
              have c6 := hV.c6
              obtain ⟨ga, capa, w9, hrun, y6, z6, hfin⟩ := hV.grow (Below.refl _ _) (cur ++ r1) (by show recs.length ≤ 65536; have := HBD.out.2.1; have := HBD.out.2.2.2; omega)
              have HFIN := Lib.hid hfin
              clear hV hfin HS3
              go_upto_region 19 with fail
              dsimp only at HFIN
              generalize (w9.setCell ⟨l, 6, none⟩ (.slice (some ⟨ga, 0, none⟩) (recs.length + 1) capa)) = w10 at *
              obtain ⟨c0, c1, c2, c3, c4, c5⟩ := HFIN.out.cells
              have z5 := HFIN.out.frozen 5
              clear hrun y6 z6
              go_wp2_with fail
              have hF := HFIN.out.set (L' := ⟨fr, n, G, false, (k : Int) + 1, recs ++ [cur ++ r1]⟩) 5 (.int .i64 ((k : Int) + 1)) rfl (fun rv => rfl)
              obtain ⟨q1, q2, q3, q4⟩ := HNB.out
              refine ⟨⟨k + 1, hi1.out, hk1.out, q4, by rw [q1]; rfl, by simp, ?_⟩, by have := hi1.out; simp [intOf]; omega⟩
              rw [q2, q3]
              exact hF
          · have f2 : (r2 == 2) = false := by simpa using h2
            have HNC := Lib.hid (hC.out (fun h => by rcases h with h | ⟨h, _⟩; cases h; exact h2 h) h2)
            clear hA hB hC
            go_wp2_with fail
            obtain ⟨q1, q2, q3, q4⟩ := HNC.out
            refine ⟨⟨k + 1, hi1.out, hk1.out, q4, by rw [q1], by simp, ?_⟩, by have := hi1.out; simp [intOf]; omega⟩
            rw [q2, q3]
            exact HS3.out
      · obtain rfl : k = 0 := hk0 (by omega)
        have d5 : decide (0 < n) = true := decide_eq_true hkn
        have d6 : decide (0 < G) = false := decide_eq_false hG
        have HS := Lib.hid (And.intro hst hG)
        clear hst hG hbd
        go_wp2_with fail
        go_ret2
        refine ⟨l, rfl, ?_⟩
        have hng : ¬ 0 < G := by have := HS.out.2; omega
        rw [hOL.out, if_neg hng, if_neg hng]
        exact HS.out.1
    · obtain rfl : k = n := by omega
      have d5 : decide (k < k) = false := by simp
      have hG : 0 < G := by
        by_cases h : 0 < G
        · exact h
        · have := hk0 (by omega); omega
      have HS := Lib.hid (And.intro hst hG)
      clear hst hG hbd
      go_wp2_with fail
      go_ret2
      refine ⟨l, rfl, ?_⟩
      rw [hOL.out, if_pos HS.out.2, if_pos HS.out.2]
      exact HS.out.1
end Go.Proofs.YtladbjlkkjcfnaaLg
