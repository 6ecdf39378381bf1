/-
  vdisk: Write where it is taken. Condition: room, a fuse that does not burn down now, a queue of fewer than 10^12 writes.
-/
import Derived.Test.YtladbjlkkjcfnaaDkT
import Derived.StillTailTactics
import Derived.Deep.AppendLies
import Derived.Deep.RegionLaw
import Derived.Maps.RangeWalk
import Derived.Deep.DeepCutAuto
import Derived.Deep.CutBlock
namespace Go.Proofs.YtladbjlkkjcfnaaDk
open Go.RowKit Go.Maps Go.Proofs.YtladbjlkkjcfnaaKp Go.Proofs.YtladbjlkkjcfnaaCm Go.Proofs.YtladbjlkkjcfnaaW.PrintWords
set_option linter.unusedVariables false
set_option linter.unusedSimpArgs false
variable {w : World} {p g m : Nat} {qv : Value} {D : Dm}

/-- what a write that is taken does ahead of the queue: the room, the fuse -/
def takenS (D : Dm) : Dm := { D with room := if 0 < D.room then D.room - 1 else D.room, fn := if D.fset then D.fn - 1 else D.fn }
/-- a write that is taken -/
def writeS (D : Dm) (i : Nat) (s : List Int) : Dm := { takenS D with q := D.q ++ [((i : Int), s)], writes := wrap64 (D.writes + 1) }
/-- a string laid into a new write -/
theorem new_write2 (W : World) (i : Nat) (s : ByteArray) (hs : s.size = 64) :
    ((W.alloc (.cells zw59 65)).setCells W.heap.size 0 (wcells ((i : Int), zsec))).there W.heap.size 1 s.size ∧
    Below W.heap.size W (((W.alloc (.cells zw59 65)).setCells W.heap.size 0 (wcells ((i : Int), zsec))).setCells W.heap.size 1 (u8s (bts s))) ∧
    W.heap.size < (((W.alloc (.cells zw59 65)).setCells W.heap.size 0 (wcells ((i : Int), zsec))).setCells W.heap.size 1 (u8s (bts s))).heap.size ∧
    (((W.alloc (.cells zw59 65)).setCells W.heap.size 0 (wcells ((i : Int), zsec))).setCells W.heap.size 1 (u8s (bts s))).rangeAt W.heap.size 0 (wcells ((i : Int), bts s)) := by
  obtain ⟨h1, h2, h3, h4⟩ := new_write W ((i : Int), zsec) rfl
  have hn := heap_alloc_new W (.cells zw59 65 (0, 0))
  have hz : zw59.size = 65 := rfl
  have ht0 : (W.alloc (.cells zw59 65)).there W.heap.size 1 64 := fun j hj => ⟨by
    rw [cell_of_row _ _ _ _ _ _ hn, Array.getElem?_eq_getElem (by omega)]; rfl, frozen_of_row _ _ _ _ _ hn⟩
  have ht : ((W.alloc (.cells zw59 65)).setCells W.heap.size 0 (wcells ((i : Int), zsec))).there W.heap.size 1 64 := World.there_setCells ht0 _ _ _
  have hl : (u8s (bts s)).length = 64 := by rw [u8s_length, bts_length, hs]
  refine ⟨by rw [hs]; exact ht, ?_, by rw [size_setCells]; exact h3, ?_⟩
  · exact h2.trans (((Kept.refl (fun i => i = W.heap.size) _).setCells (b := W.heap.size) (fun _ => rfl) 1 (u8s (bts s))).to_below (by omega) (fun i e => by rw [e]; exact Nat.le_refl _))
  · intro j v hv
    rcases j with _ | j
    · have := World.rangeAt_setCells_apart (w := (W.alloc (.cells zw59 65)).setCells W.heap.size 0 (wcells ((i : Int), zsec))) (b' := W.heap.size) (o' := 0) (cs := [.int .i64 i])
        (fun j v hv => by
          have : j = 0 := by have := (List.getElem?_eq_some_iff.1 hv).1; simp at this; omega
          subst this
          exact h4 0 v hv) W.heap.size 1 (u8s (bts s)) (.inr (.inl (by simp)))
      exact this 0 v hv
    · have := World.rangeAt_setCells_same ((W.alloc (.cells zw59 65)).setCells W.heap.size 0 (wcells ((i : Int), zsec))) W.heap.size 1 (u8s (bts s)) (by rw [hl]; exact ht)
      rw [show 0 + (j + 1) = 1 + j by omega]
      exact this j v hv
/-- what the append to the queue leaves -/
def AppQ (w3 : World) (p n : Nat) (aq : Option Addr) (cap : Nat) (q : List (Int × List Int)) (x : Int × List Int) (wx : World) : Prop :=
  ∃ gg cap5 w5, wx = w5.setCell ⟨p, 1, none⟩ (.slice (some ⟨gg, 0, none⟩) (n + 1) cap5) ∧ w5.ownsRow 0 65 65 (.slice (some ⟨gg, 0, none⟩) (n + 1) cap5) (n + 1) (qcells q ++ wcells x) ∧
    ((w3.alloc (.cells (wcells x).toArray 65)).drew).grownBy w5 (Value.slice aq n cap).ownBlock ∧ ((Value.slice aq n cap).ownBlock = some gg ∨ gg = w3.heap.size + 1) ∧ gg < w5.heap.size
attribute [local go_sem ↓] ld59 bs45
attribute [local go_sem] run_ld59 run_bs45
theorem info59' : (Try.prog.info? 65).map (fun i => (i.zero, i.size, i.bytes)) = some (some (.agg zw59), 65, 72) := by kernel_rfl
theorem size_u8 (w : World) : (Go.sizeOf 5).run Try.prog w = .ok 1 w := by kernel_rfl

set_option maxRecDepth 100000 in
theorem c_Write_ok (h : Dsk w p g m qv D) (i : Nat) (s : ByteArray) (he : askS D i = 0) (hs : s.size = 64) (hr : D.room ≠ 0) (hr2 : D.room ≤ 9223372036854775807) (hr3 : -1 ≤ D.room) (hf : D.fset = true → 0 < D.fn) (hf2 : D.fn ≤ 9223372036854775807) (hq : D.q.length < 1000000000000) :
    Calls Try.prog 26 #[.pointer (some ⟨p, 0, none⟩), .int .i64 i, .string s] w fun e w' => e = .returned (.int .i64 0) ∧
      ∃ qv', Dsk w' p g m qv' (writeS D i (bts s)) ∧ Kept (fp p g m qv) w w' ∧ (qv'.ownBlock = qv.ownBlock ∨ ∃ k, w.heap.size ≤ k ∧ qv'.ownBlock = some k) := by
  have k1 := Lib.hid (c_asked h i)
  rw [he] at k1
  have hi : i < D.secs.length := by
    unfold askS at he
    split at he
    · cases he
    · split at he
      · cases he
      · omega
  obtain ⟨aq, cap, hqq, hcq, hmq⟩ := que_cap h
  have HQ := Lib.hid (And.intro hqq (And.intro hcq (And.intro hmq hi)))
  clear hqq hcq hmq hi
  have d1 : (((s.size : Nat) : Int) != 64) = false := by simp; omega
  have hz9 := (zero_of_info info59).1
  have hzb : zw59.setIfInBounds 0 (Value.int .i64 (i : Int)) = (wcells ((i : Int), zsec)).toArray := by simp [zw59, wcells, u8s, zsec]
  have H := Lib.hid h
  have HH := Lib.hid (And.intro he (And.intro hs (And.intro hr (And.intro hr2 (And.intro hr3 (And.intro hf (And.intro hf2 hq)))))))
  clear h he hs hr hr2 hr3 hf hf2 hq
  go_enter Try.func26, Try.ntmps26
  go_upto_block 0 with (go_at_call 32; refine k1.out.mono ?_; rintro e w0 ⟨rfl, hw0⟩; have hw0 := hw0.symm; subst hw0)
  go_cut [] (fun wx => Dsk wx p g m qv (takenS D) ∧ Kept (fun k => k = p) w wx)
  case first =>
    obtain ⟨he, hs, hr, hr2, hr3, hf, hf2, hq⟩ := HH.out
    obtain ⟨_, _, _, _, h4, _⟩ := H.out.cells
    have z4 := H.out.frozen 4
    have d2 : (D.room == 0) = false := by simpa using hr
    cases hfs : D.fset
    · have k2 := Lib.hid (c_burns_none H.out hfs)
      by_cases hrp : 0 < D.room
      · have d3 : decide (0 < D.room) = true := decide_eq_true hrp
        have hw : IntKind.i64.wrap (D.room - 1) = D.room - 1 := by rw [IntKind.wrap_i64]; omega
        have HT := Lib.hid (show takenS D = { D with room := D.room - 1 } by unfold takenS; rw [if_pos hrp, if_neg (by rw [hfs]; simp)])
        clear he hs hr hr2 hr3 hf hf2 hq hfs hrp
        go_wp2_with (go_at_call 34; refine k2.out.mono ?_; rintro e w0 ⟨rfl, hw0⟩; have hw0 := hw0.symm; subst hw0)
        go_meet
        rw [HT.out]
        exact ⟨H.out.field 4 _ rfl rfl rfl rfl, kept_field _ _ _ _⟩
      · have d3 : decide (0 < D.room) = false := decide_eq_false hrp
        have HT := Lib.hid (show takenS D = D by unfold takenS; rw [if_neg hrp, if_neg (by rw [hfs]; simp)])
        clear he hs hr hr2 hr3 hf hf2 hq hfs hrp
        go_wp2_with (go_at_call 34; refine k2.out.mono ?_; rintro e w0 ⟨rfl, hw0⟩; have hw0 := hw0.symm; subst hw0)
        go_meet
        rw [HT.out]
        exact ⟨H.out, Kept.refl _ _⟩
    · have k2 := Lib.hid (c_burns_some H.out hfs (hf hfs) hf2)
      by_cases hrp : 0 < D.room
      · have d3 : decide (0 < D.room) = true := decide_eq_true hrp
        have hw : IntKind.i64.wrap (D.room - 1) = D.room - 1 := by rw [IntKind.wrap_i64]; omega
        have HT := Lib.hid (show takenS D = { D with room := D.room - 1, fn := D.fn - 1 } by unfold takenS; rw [if_pos hrp, if_pos hfs])
        clear he hs hr hr2 hr3 hf hf2 hq hfs hrp
        go_wp2_with (go_at_call 34; refine k2.out.mono ?_; rintro e w1 ⟨rfl, hd1, hk1⟩; have h41 := hd1.cells.2.2.2.2.1; have z41 := hd1.frozen 4; have H1 := Lib.hid (And.intro hd1 hk1); clear hd1 hk1)
        go_meet
        rw [HT.out]
        exact ⟨H1.out.1.field 4 _ rfl rfl rfl rfl, H1.out.2.setCell (a := ⟨p, 4, none⟩) (fun _ => rfl) _⟩
      · have d3 : decide (0 < D.room) = false := decide_eq_false hrp
        have HT := Lib.hid (show takenS D = { D with fn := D.fn - 1 } by unfold takenS; rw [if_neg hrp, if_pos hfs])
        clear he hs hr hr2 hr3 hf hf2 hq hfs hrp
        go_wp2_with (go_at_call 34; refine k2.out.mono ?_; rintro e w1 ⟨rfl, hd1, hk1⟩; have h41 := hd1.cells.2.2.2.2.1; have z41 := hd1.frozen 4; have H1 := Lib.hid (And.intro hd1 hk1); clear hd1 hk1)
        go_meet
        rw [HT.out]
        exact ⟨H1.out.1, H1.out.2⟩
  case rest =>
    obtain ⟨he, hs, hr, hr2, hr3, hf, hf2, hq⟩ := HH.out
    have hnw := new_write2 wc i s hs
    have hs64 := Lib.hid hs
    have HX := Lib.hid (And.intro hcut.1 (And.intro hcut.2 hnw))
    clear he hs hr hr2 hr3 hf hf2 hnw hcut hq d1
    go_wp2_with (first
      | ((with_reducible refine gate_store (t := 65) (p := 8) rfl ?_); (refine wpList_store_mid rfl 65 _ _ rfl _ 0 (wcells ((i : Int), zsec)).toArray rfl rfl (new_write _ _ rfl).1 (by rw [List.size_toArray, wcells_length _ rfl]; exact (zero_of_info info59).2) (all_oneCell_toArray (oneW _)) ?_))
      | ((with_reducible refine gate_dst (N := 46) rfl ?_); (refine wpList_copy_string rfl _ _ 31 9 rfl 5 Try.underlying31 size_u8 wc.heap.size 1 64 64 rfl s rfl (by rw [hs64.out]; exact Nat.le_refl _) HX.out.2.2.1 ?_)))
    obtain ⟨hd, hK, hth, hb1, hlt, hrg⟩ := HX.out
    have e1 : (s.data.toList.map fun x => Value.int .u8 (x.toNat : Int)) = u8s (bts s) := by simp [u8s, bts]
    rw [e1]
    clear e1 hth HX
    have hd1 := hd.at (fun j hj => hb1.block j (hd.lt j hj))
    have hK1 := hK.below hb1
    have hnf : ∀ k, fp p g m qv k → k ≠ wc.heap.size := fun k hk e => by have := hd.lt k hk; omega
    have hws := hK.size
    clear hd hK hb1
    generalize (((wc.alloc (.cells zw59 65)).setCells wc.heap.size 0 (wcells ((i : Int), zsec))).setCells wc.heap.size 1 (u8s (bts s))) = W1 at *
    generalize wc.heap.size = nb at *
    obtain ⟨HQ, hcq, hmq, hi⟩ := HQ.out
    obtain ⟨he, hs, hr, hr2, hr3, hf, hf2, hq⟩ := HH.out
    have hd2 : Dsk W1.drew p g m qv (takenS D) := hd1.at (fun _ _ => rfl)
    have hK2 : Kept (fun k => k = p) w W1.drew := hK1.drew
    have hrg2 : W1.drew.rangeAt nb 0 (wcells ((i : Int), bts s)) := hrg
    have hlt2 : nb < W1.drew.heap.size := hlt
    obtain ⟨_, c1, c2, _⟩ := hd1.cells
    obtain ⟨_, c1', c2', _⟩ := hd2.cells
    rw [HQ] at c1 c1'
    have hmap := hd2.map
    have hqn : D.q.length < maxLen := by unfold maxLen; omega
    have wf1 : (Lit.int .i64 (i : Int)).wf = true := WalkArith.wf_i64 (by have := hd1.len.2; have e : (takenS D).secs.length = D.secs.length := rfl; omega)
    have wf2 : (Lit.int .i64 (D.q.length : Int)).wf = true := WalkArith.wf_i64 (by omega)
    have HW := Lib.hid (And.intro hd2 (And.intro hK2 (And.intro hrg2 (And.intro hlt2 (And.intro hmap (And.intro hqn (And.intro wf1 wf2)))))))
    have HV := Lib.hid (And.intro hnf (And.intro hws (And.intro HQ (And.intro hcq (And.intro hmq (And.intro hi hlt))))))
    clear hd1 hK1 hrg hlt hd2 hK2 hrg2 hlt2 hmap hqn wf1 wf2 hnf hws HQ hcq hmq hi he hs hr hr2 hr3 hf hf2 hq
    go_still_tail 10, (by kernel_rfl)
    change wpList _ _ _ _ _ W1.drew
    generalize W1.drew = W2 at *
    go_wp2_with (at_mapUpdate; (refine wpList_mapUpdate_own _ rfl _ _ _ 45 rfl 3 3 (int_keyed Try.underlying3) Try.underlying45 _ m D.q.length (lastD D.q) rfl HW.out.2.2.2.2.1 HW.out.2.2.2.2.2.1 _ _ (.int .i64 (i : Int)) rfl rfl (keyOf_int_mk Try.underlying3 HW.out.2.2.2.2.2.2.1) _ [] (plainElem_int Try.underlying3 HW.out.2.2.2.2.2.2.2) ?_); intro w3 hown3 hgrow3)
    obtain ⟨hd2, hK2, hrg2, hlt2, hmap, hqn, wf1, wf2⟩ := HW.out
    obtain ⟨hnf, hws, hqq, hcq, hmq, hi, hlt⟩ := HV.out
    have hlp := hd2.lt p (.inl rfl)
    have e3 : ∀ k, k < W2.heap.size → k ≠ m → w3.heap[k]? = W2.heap[k]? := fun k hk hn => hgrow3.block k hk (by simpa using hn)
    have r3 : w3.heap[p]? = some (.cells (drow g m qv (takenS D)) 50 (0, 0)) := by rw [e3 p hlp hd2.pm]; exact hd2.row
    have hs3 : SecAt w3 g D.secs := hd2.sec.at (e3 g (hd2.lt g (.inr (.inl rfl))) hd2.gm)
    have hq3 : w3.ownsRow 0 65 65 qv D.q.length (qcells D.q) := ownsRow_at hd2.que (fun k e => e3 k (ownBlock_lt hd2.que e) (fun e' => hd2.qm (by rw [e, e'])))
    have hrg3 : w3.rangeAt nb 0 (wcells ((i : Int), bts s)) := by
      intro j v hv
      rw [← hrg2 j v hv]
      exact World.cell?_of_block (e3 nb hlt2 (fun e => hnf m (.inr (.inr (.inl rfl))) e.symm))
    have hK3 : Kept (fp p g m qv) w w3 := (hK2.mono (fun i _ e => .inl e)).grown hgrow3 (fun k e _ => .inr (.inr (.inl (by simpa using e.symm))))
    have hsz3 := hgrow3.size
    have c1 : w3.cell? ⟨p, 1, none⟩ = some (.slice aq D.q.length cap) := by rw [← hqq]; exact (cell_of_row _ _ _ _ _ _ r3).trans rfl
    have z1 : w3.frozen? ⟨p, 1, none⟩ = false := frozen_of_row _ _ _ _ _ r3
    have hbl : (bts s).length = 64 := by rw [bts_length, hs64.out]
    have hwl : (wcells ((i : Int), bts s)).length = 65 := wcells_length _ hbl
    have hld : hasN w3.drew nb 0 65 = true := hasN_of (cs := wcells ((i : Int), bts s)) hrg3 hwl
    have hlr : readN w3.drew nb 0 65 = (wcells ((i : Int), bts s)).toArray := readN_of hrg3 hwl
    have hp3 : p < w3.heap.size := by omega
    have hc5 : ∀ (o : Obj) (w5 : World), ((w3.alloc o).drew).grownBy w5 (Value.slice aq D.q.length cap).ownBlock → w5.cell? ⟨p, 1, none⟩ = some (.slice aq D.q.length cap) ∧ w5.frozen? ⟨p, 1, none⟩ = false := by
      intro o w5 hg5
      have hne : some p ≠ (Value.slice aq D.q.length cap).ownBlock := by rw [← hqq]; exact hd2.qp.symm
      have hb5 := hg5.block p (by simp; omega) hne
      have ha : ((w3.alloc o).drew).heap[p]? = w3.heap[p]? := Below.heap_alloc _ _ _ hp3
      rw [ha] at hb5
      exact ⟨(World.cell?_of_block hb5).trans c1, (World.frozen?_of_block hb5).trans z1⟩
    have c1a : (w3.alloc (.cells (wcells ((i : Int), bts s)).toArray 65)).cell? ⟨p, 1, none⟩ = some (.slice aq D.q.length cap) := (((Below.refl w3.heap.size w3).alloc (Nat.le_refl _) _).cell (p := ⟨p, 1, none⟩) hp3).trans c1
    obtain ⟨i0, hi0, hz0, hz1, hz2⟩ := info_parts info59'
    have hq3' : w3.ownsRow 0 65 65 (.slice aq D.q.length cap) D.q.length (qcells D.q) := by rw [← hqq]; exact hq3
    have hqn : D.q.length + 1 ≤ maxLen := hqn
    have hq72 : (D.q.length + 1) * 72 ≤ 140737488355328 := by have := HH.out.2.2.2.2.2.2.2; omega
    have HU := Lib.hid (And.intro hq3' (And.intro hi0 (And.intro hz0 (And.intro hz1 (And.intro hz2 (And.intro hwl (And.intro hc5 (And.intro hqn (And.intro hq72 hbl)))))))))
    have HT := Lib.hid (And.intro r3 (And.intro hs3 (And.intro hown3 (And.intro hK3 (And.intro hsz3 hd2)))))
    clear hd2 hK2 hrg2 hlt2 hmap hqn hq72 wf1 wf2 hnf hws hqq hcq hmq hi hlt hlp e3 r3 hs3 hq3 hrg3 hK3 hsz3 hbl hp3 hc5 hi0 hz0 hz1 hz2 hq3' hown3 hgrow3 c1' c2' c2 hzb hz9
    go_frame
    go_cut [] (fun wx => AppQ w3 p D.q.length aq cap D.q ((i : Int), bts s) wx)
    case first =>
      go_region_law ((refine step_append_lies _ (by rfl) _ _ _ (by rfl) 0 65 i0 _ 65 72 Try.underlying46 HU.out.2.1 HU.out.2.2.1 HU.out.2.2.2.1 HU.out.2.2.2.2.1 rfl (by omega) (.slice aq D.q.length cap) D.q.length (qcells D.q) (by rfl) ((HU.out.1.alloc _).drew) ⟨w3.heap.size, 0, none⟩ 1 1 (wcells ((i : Int), bts s)) (by rfl) HU.out.2.2.2.2.2.1 (World.news_of_block (cs := (wcells ((i : Int), bts s)).toArray) (t := 65) (fr := (0, 0)) (heap_alloc_new w3 _)) (oneW _) (by omega) HU.out.2.2.2.2.2.2.2.1 HU.out.2.2.2.2.2.2.2.2.1 (Nat.zero_le _) (w3.heap.size + 1) (by simp) ?_; intro gg cap5 w5 hown5 hgrow5 hat5 hlt5; have hcz := HU.out.2.2.2.2.2.2.1 _ w5 hgrow5; have c5 := hcz.1; have z5 := hcz.2; clear hcz))
      all_goals
        go_wp2_with fail
        go_meet
        exact ⟨gg, cap5, w5, rfl, hown5, hgrow5, hat5, hlt5⟩
    case rest =>
      obtain ⟨gg, cap5, w5, rfl, hown5, hgrow5, hat5, hlt5⟩ := hcut
      obtain ⟨r3, hs3, hown3, hK3, hsz3, hd2⟩ := HT.out
      obtain ⟨hnf, hws, hqq, hcq, hmq, hi, hlt⟩ := HV.out
      obtain ⟨_, _, _, _, _, hwl, _, _, _, hbl⟩ := HU.out
      have hp3 : p < w3.heap.size := by have := hd2.lt p (.inl rfl); omega
      have hg3 : g < w3.heap.size := by have := hd2.lt g (.inr (.inl rfl)); omega
      have hm3 : m < w3.heap.size := by have := hd2.lt m (.inr (.inr (.inl rfl))); omega
      have e5 : ∀ k, k < w3.heap.size → qv.ownBlock ≠ some k → w5.heap[k]? = w3.heap[k]? := fun k hk hn => by
        have h1 := hgrow5.block k (by simp; omega) (by rw [← hqq]; exact hn.symm)
        rw [h1]
        exact Below.heap_alloc _ _ _ hk
      have hgn : ∀ k, k < w3.heap.size → qv.ownBlock ≠ some k → gg ≠ k := fun k hk hn e => by
        rw [← hqq] at hat5
        rcases hat5 with h | h
        · exact hn (by rw [h, e])
        · omega
      have r5 : w5.heap[p]? = some (.cells (drow g m qv (takenS D)) 50 (0, 0)) := by rw [e5 p hp3 hd2.qp]; exact r3
      have e6 : ∀ (v : Value) k, k ≠ p → (w5.setCell ⟨p, 1, none⟩ v).heap[k]? = w5.heap[k]? := fun v k hk => Below.heap_setCell _ _ _ _ hk
      have hd6 : Dsk (w5.setCell ⟨p, 1, none⟩ (.slice (some ⟨gg, 0, none⟩) (D.q.length + 1) cap5)) p g m (.slice (some ⟨gg, 0, none⟩) (D.q.length + 1) cap5) { takenS D with q := D.q ++ [((i : Int), bts s)] } := by
        have hl : (D.q ++ [((i : Int), bts s)]).length = D.q.length + 1 := by simp
        refine ⟨?_, (hs3.at (e5 g hg3 hd2.qg)).at (e6 _ g hd2.pg.symm), ?_, ?_, hd2.pg, hd2.pm, hd2.gm, ?_, ?_, ?_, hd2.len, hd2.scap, ?_⟩
        · rw [heap_setCell_same _ p 1 _ _ _ r5]
          rfl
        · simp only [hl, qcells_snoc]
          exact ownsRow_at hown5 (fun k e => e6 _ k (fun e' => hgn p hp3 hd2.qp (by cases e; exact e')))
        · simp only [hl, lastD_snoc]
          exact ownsMap_at (ownsMap_at hown3 (e5 m hm3 hd2.qm)) (e6 _ m hd2.pm.symm)
        · intro e; exact hgn p hp3 hd2.qp (by simpa [Value.ownBlock] using e)
        · intro e; exact hgn g hg3 hd2.qg (by simpa [Value.ownBlock] using e)
        · intro e; exact hgn m hm3 hd2.qm (by simpa [Value.ownBlock] using e)
        · intro x hx
          rcases List.mem_append.1 hx with hx | hx
          · exact hd2.fits x hx
          · obtain rfl : x = ((i : Int), bts s) := by simpa using hx
            exact ⟨by simp, by simp only; have e : (takenS D).secs.length = D.secs.length := rfl; omega, hbl⟩
      have hK6 : Kept (fp p g m qv) w (w5.setCell ⟨p, 1, none⟩ (.slice (some ⟨gg, 0, none⟩) (D.q.length + 1) cap5)) :=
        (((hK3.alloc _).drew).grown hgrow5 (fun k e _ => .inr (.inr (.inr (by rw [hqq]; exact e))))).setCell (a := ⟨p, 1, none⟩) (fun _ => .inl rfl) _
      have hloc : (Value.slice (some ⟨gg, 0, none⟩) (D.q.length + 1) cap5).ownBlock = qv.ownBlock ∨ ∃ k, w.heap.size ≤ k ∧ (Value.slice (some ⟨gg, 0, none⟩) (D.q.length + 1) cap5).ownBlock = some k := by
        rw [← hqq] at hat5
        rcases hat5 with h | h
        · exact .inl (by rw [h]; rfl)
        · have := hK3.size
          exact .inr ⟨gg, by omega, rfl⟩
      obtain ⟨_, _, _, _, _, _, _, _, _, c9⟩ := hd6.cells
      have z9 := hd6.frozen 9
      have HF := Lib.hid (And.intro hd6 (And.intro hK6 hloc))
      clear hd6 hK6 hloc e6 r5 hgn e5 hp3 hg3 hm3 hbl hwl hnf hws hqq hcq hmq hi hlt r3 hs3 hown3 hK3 hsz3 hd2 hown5 hgrow5 hat5 hlt5 c1 z1 hld hlr c1a
      generalize (w5.setCell ⟨p, 1, none⟩ (.slice (some ⟨gg, 0, none⟩) (D.q.length + 1) cap5)) = W6 at *
      generalize (Value.slice (some ⟨gg, 0, none⟩) (D.q.length + 1) cap5) = qv6 at *
      go_wp2_with fail
      go_ret
      obtain ⟨hd6, hK6, hloc⟩ := HF.out
      refine ⟨rfl, qv6, hd6.field 9 _ rfl rfl rfl ?_, hK6.setCell (a := ⟨p, 9, none⟩) (fun _ => .inl rfl) _, hloc⟩
      rfl
end Go.Proofs.YtladbjlkkjcfnaaDk
