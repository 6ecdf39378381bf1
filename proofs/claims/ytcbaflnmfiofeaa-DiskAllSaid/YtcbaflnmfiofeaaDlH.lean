/-
  chancerylaw10: a disk and a reference's that are alike, side by side; step. chancerylaw10: step. Condition: within bounds.
-/
import Derived.Test.YtcbaflnmfiofeaaDlF
import Derived.Deep.RegionHeld3
import Derived.Deep.DrawnRows
namespace Go.Proofs.YtcbaflnmfiofeaaDk
open Go.RowKit Go.Maps Go.Proofs.YtcbaflnmfiofeaaKp Go.Proofs.YtcbaflnmfiofeaaCm
set_option linter.unusedVariables false
set_option linter.unusedSimpArgs false
/-- the two, as they have gone since w0; block nb holds O -/
structure PS (w0 : World) (p g m : Nat) (qv : Value) (r g2 bc : Nat) (qv2 : Value) (nb : Nat) (O : Obj) (w : World) (D1 D2 : Dm) : Prop where
  ex : ∃ m' qv' qv2', Dsk w p g m' qv' D1 ∧ Rf w r g2 bc qv2' D2 ∧ Moved w0 m qv m' qv' ∧ Went w0 qv2 qv2' ∧ (∀ k, fp p g m' qv' k → ¬ rfp r g2 qv2' k) ∧ ¬ fp p g m' qv' nb ∧ ¬ rfp r g2 qv2' nb
  kept : Kept (fun k => fp p g m qv k ∨ rfp r g2 qv2 k) w0 w
  box : w.heap[nb]? = some O
variable {w0 w : World} {p g m : Nat} {qv : Value} {r g2 bc : Nat} {qv2 : Value} {nb : Nat} {O : Obj} {D1 D2 D' : Dm} {f : FuncId} {args : Array Value} {v : Value}
theorem Went.fp {w0 : World} {qv2 qv2' : Value} (h : Went w0 qv2 qv2') {k : Nat} (hk : k < w0.heap.size) (hf : rfp r g2 qv2' k) : rfp r g2 qv2 k := by
  rcases hf with e | e | e
  · exact .inl e
  · exact .inr (.inl e)
  · rcases h k e with e1 | e1
    · exact .inr (.inr e1)
    · omega
theorem Went.trans {w0 w1 : World} {a b c : Value} (h : Went w0 a b) (hs : w0.heap.size ≤ w1.heap.size) (k : Went w1 b c) : Went w0 a c := fun j e => by
  rcases k j e with e1 | e1
  · exact h j e1
  · exact .inr (by omega)
theorem PS.dop (h : PS w0 p g m qv r g2 bc qv2 nb O w D1 D2)
    (k : ∀ m qv, Dsk w p g m qv D1 → Calls Try.prog f args w fun e w' => e = .returned v ∧ ∃ m' qv', Dsk w' p g m' qv' D' ∧ Kept (fp p g m qv) w w' ∧ Moved w m qv m' qv') :
    Calls Try.prog f args w fun e w' => e = .returned v ∧ PS w0 p g m qv r g2 bc qv2 nb O w' D' D2 := by
  obtain ⟨m1, qv1, qv21, hd, hr, hm, hw, hdis, hn1, hn2⟩ := h.ex
  refine (k m1 qv1 hd).mono fun e w' ⟨he, m', qv', hd', hK, hM⟩ => ⟨he, ⟨⟨m', qv', qv21, hd', hr.at (fun j hj => hK.block j (hr.lt j hj) (fun hf => hdis j hf hj)), hm.trans h.kept.size hM, hw, fun j hj hjr => hdis j (hM.fp (hr.lt j hjr) hj) hjr, fun hf => hn1 (hM.fp (lt_of_at h.box) hf), hn2⟩, ?_, ?_⟩⟩
  · exact h.kept.trans hK (fun i hi hf => .inl (hm.fp hi hf))
  · rw [hK.block nb (lt_of_at h.box) hn1]; exact h.box
theorem PS.rop (h : PS w0 p g m qv r g2 bc qv2 nb O w D1 D2)
    (k : ∀ qv, Rf w r g2 bc qv D2 → Calls Try.prog f args w fun e w' => e = .returned v ∧ ∃ qv', Rf w' r g2 bc qv' D' ∧ Kept (rfp r g2 qv) w w' ∧ Went w qv qv') :
    Calls Try.prog f args w fun e w' => e = .returned v ∧ PS w0 p g m qv r g2 bc qv2 nb O w' D1 D' := by
  obtain ⟨m1, qv1, qv21, hd, hr, hm, hw, hdis, hn1, hn2⟩ := h.ex
  refine (k qv21 hr).mono fun e w' ⟨he, qv', hr', hK, hM⟩ => ⟨he, ⟨⟨m1, qv1, qv', hd.at (fun j hj => hK.block j (hd.lt j hj) (fun hf => hdis j hj hf)), hr', hm, hw.trans h.kept.size hM, fun j hj hjr => hdis j hj (hM.fp (hd.lt j hj) hjr), hn1, fun hf => hn2 (hM.fp (lt_of_at h.box) hf)⟩, ?_, ?_⟩⟩
  · exact h.kept.trans hK (fun i hi hf => .inr (hw.fp hi hf))
  · rw [hK.block nb (lt_of_at h.box) hn2]; exact h.box
theorem PS.b (h : PS w0 p g m qv r g2 bc qv2 nb O w D1 D2) {w1 : World} (hb : Below w.heap.size w w1) : PS w0 p g m qv r g2 bc qv2 nb O w1 D1 D2 := by
  obtain ⟨m1, qv1, qv21, hd, hr, hm, hw, hdis, hn1, hn2⟩ := h.ex
  exact ⟨⟨m1, qv1, qv21, hd.at (fun j hj => hb.block j (hd.lt j hj)), hr.at (fun j hj => hb.block j (hr.lt j hj)), hm, hw, hdis, hn1, hn2⟩, h.kept.below hb, by rw [hb.block nb (lt_of_at h.box)]; exact h.box⟩
theorem PS.drew (h : PS w0 p g m qv r g2 bc qv2 nb O w D1 D2) : PS w0 p g m qv r g2 bc qv2 nb O w.drew D1 D2 := h.b ⟨rfl, rfl, rfl, Nat.le_refl _, fun _ _ => rfl⟩
theorem p_Write (h : PS w0 p g m qv r g2 bc qv2 nb O w D1 D2) (hok : DOk D1) (a : Int) (s : ByteArray) : Calls Try.prog 13 #[.pointer (some ⟨p, 0, none⟩), .int .i64 a, .string s] w fun e w' => e = .returned (.int .i64 (writeE D1 a s)) ∧ PS w0 p g m qv r g2 bc qv2 nb O w' (writeD D1 a s) D2 := h.dop fun m qv hd => c_Write hd hok a s
theorem q_Write (h : PS w0 p g m qv r g2 bc qv2 nb O w D1 D2) (hok : DOk D2) (a : Int) (s : ByteArray) : Calls Try.prog 35 #[.pointer (some ⟨r, 0, none⟩), .int .i64 a, .string s] w fun e w' => e = .returned (.int .i64 (writeE D2 a s)) ∧ PS w0 p g m qv r g2 bc qv2 nb O w' D1 (writeD D2 a s) := h.rop fun qv hr => r_Write hr hok a s
theorem p_Sync (h : PS w0 p g m qv r g2 bc qv2 nb O w D1 D2) (hok : DOk D1) : Calls Try.prog 12 #[.pointer (some ⟨p, 0, none⟩)] w fun e w' => e = .returned (.int .i64 (syncE D1)) ∧ PS w0 p g m qv r g2 bc qv2 nb O w' (syncD D1) D2 := h.dop fun m qv hd => c_Sync hd hok
theorem q_Sync (h : PS w0 p g m qv r g2 bc qv2 nb O w D1 D2) (hok : DOk D2) : Calls Try.prog 37 #[.pointer (some ⟨r, 0, none⟩)] w fun e w' => e = .returned (.int .i64 (syncE D2)) ∧ PS w0 p g m qv r g2 bc qv2 nb O w' D1 (syncD D2) := h.rop fun qv hr => r_Sync hr hok
theorem p_Crash (h : PS w0 p g m qv r g2 bc qv2 nb O w D1 D2) (a b : Int) : Calls Try.prog 14 #[.pointer (some ⟨p, 0, none⟩), .int .i64 a, .int .i64 b] w fun e w' => e = .returned (.tuple #[]) ∧ PS w0 p g m qv r g2 bc qv2 nb O w' (crashS D1 a b) D2 := h.dop fun m qv hd => c_Crash hd a b
theorem q_Crash (h : PS w0 p g m qv r g2 bc qv2 nb O w D1 D2) (a b : Int) : Calls Try.prog 38 #[.pointer (some ⟨r, 0, none⟩), .int .i64 a, .int .i64 b] w fun e w' => e = .returned (.tuple #[]) ∧ PS w0 p g m qv r g2 bc qv2 nb O w' D1 (crashS D2 a b) := h.rop fun qv hr => r_Crash hr a b
theorem p_Restore (h : PS w0 p g m qv r g2 bc qv2 nb O w D1 D2) : Calls Try.prog 15 #[.pointer (some ⟨p, 0, none⟩)] w fun e w' => e = .returned (.tuple #[]) ∧ PS w0 p g m qv r g2 bc qv2 nb O w' { D1 with on := true } D2 :=
  h.dop fun m qv hd => (c_Restore hd).mono fun e w' ⟨he, hd', hk⟩ => ⟨he, m, qv, hd', keptP hk, Moved.refl _ _ _⟩
theorem p_Room (h : PS w0 p g m qv r g2 bc qv2 nb O w D1 D2) (n : Int) : Calls Try.prog 18 #[.pointer (some ⟨p, 0, none⟩), .int .i64 n] w fun e w' => e = .returned (.tuple #[]) ∧ PS w0 p g m qv r g2 bc qv2 nb O w' { D1 with room := roomS n } D2 :=
  h.dop fun m qv hd => (c_Room hd n).mono fun e w' ⟨he, hd', hk⟩ => ⟨he, m, qv, hd', keptP hk, Moved.refl _ _ _⟩
theorem keptQ {w w1 : World} {r g : Nat} {qv : Value} (h : Kept (fun k => k = r) w w1) : Kept (rfp r g qv) w w1 := h.mono fun i _ e => .inl e
theorem q_Room (h : PS w0 p g m qv r g2 bc qv2 nb O w D1 D2) (n : Int) : Calls Try.prog 39 #[.pointer (some ⟨r, 0, none⟩), .int .i64 n] w fun e w' => e = .returned (.tuple #[]) ∧ PS w0 p g m qv r g2 bc qv2 nb O w' D1 { D2 with room := roomS n } :=
  h.rop fun qv hd => (r_Room hd n).mono fun e w' ⟨he, hd', hk⟩ => ⟨he, qv, hd', keptQ hk, Went.refl _ _⟩
theorem p_Fuse (h : PS w0 p g m qv r g2 bc qv2 nb O w D1 D2) (a b c : Int) : Calls Try.prog 20 #[.pointer (some ⟨p, 0, none⟩), .int .i64 a, .int .i64 b, .int .i64 c] w fun e w' => e = .returned (.tuple #[]) ∧ PS w0 p g m qv r g2 bc qv2 nb O w' (fuseS D1 a b c) D2 :=
  h.dop fun m qv hd => (c_Fuse hd a b c).mono fun e w' ⟨he, hd', hk⟩ => ⟨he, m, qv, hd', keptP hk, Moved.refl _ _ _⟩
theorem q_Fuse (h : PS w0 p g m qv r g2 bc qv2 nb O w D1 D2) (a b c : Int) : Calls Try.prog 40 #[.pointer (some ⟨r, 0, none⟩), .int .i64 a, .int .i64 b, .int .i64 c] w fun e w' => e = .returned (.tuple #[]) ∧ PS w0 p g m qv r g2 bc qv2 nb O w' D1 (fuseS D2 a b c) :=
  h.rop fun qv hd => (r_SetFuse hd a b c).mono fun e w' ⟨he, hd', hk⟩ => ⟨he, qv, hd', keptQ hk, Went.refl _ _⟩
theorem p_Read (h : PS w0 p g m qv r g2 bc qv2 nb O w D1 D2) (a : Int) : Calls Try.prog 16 #[.pointer (some ⟨p, 0, none⟩), .int .i64 a] w fun e w' => e = .returned (.tuple #[.string (readS D1 a), .int .i64 (readE D1 a)]) ∧ PS w0 p g m qv r g2 bc qv2 nb O w' D1 D2 := by
  obtain ⟨m1, qv1, qv21, hd, _⟩ := h.ex
  exact (c_Read hd a).mono fun e w' ⟨he, hb⟩ => ⟨he, h.b hb⟩
theorem q_Read (h : PS w0 p g m qv r g2 bc qv2 nb O w D1 D2) (a : Int) : Calls Try.prog 36 #[.pointer (some ⟨r, 0, none⟩), .int .i64 a] w fun e w' => e = .returned (.tuple #[.string (readS D2 a), .int .i64 (readE D2 a)]) ∧ w = w' := by
  obtain ⟨m1, qv1, qv21, hd, hr, _⟩ := h.ex
  exact (r_Read hr a).mono fun e w' ⟨he, hw⟩ => ⟨he, hw.symm⟩
theorem p_looks (h : PS w0 p g m qv r g2 bc qv2 nb O w D1 D1) : Calls Try.prog 32 #[.pointer (some ⟨p, 0, none⟩), .pointer (some ⟨r, 0, none⟩)] w fun e w' => e = .returned (.bool true) ∧ PS w0 p g m qv r g2 bc qv2 nb O w' D1 D1 := by
  obtain ⟨m1, qv1, qv21, hd, hr, _⟩ := h.ex
  exact (c_looks hd hr rfl).mono fun e w' ⟨he, hb⟩ => ⟨he, h.b hb⟩
/-- what a step does -/
def stepD (D : Dm) (kind a b c : Int) (data : ByteArray) : Dm :=
  if kind = 1 then writeD D a data else if kind = 2 then D else if kind = 3 then syncD D else if kind = 4 then crashS D a b else if kind = 5 then { D with on := true } else if kind = 6 then { D with room := roomS a } else if kind = 7 then fuseS D a b c else D
end Go.Proofs.YtcbaflnmfiofeaaDk
namespace Go.Proofs.YtcbaflnmfiofeaaDk
open Go.RowKit Go.Maps Go.Proofs.YtcbaflnmfiofeaaKp Go.Proofs.YtcbaflnmfiofeaaCm
set_option linter.unusedVariables false
set_option linter.unusedSimpArgs false
theorem PS.start {w : World} {p g m : Nat} {qv : Value} {r g2 bc : Nat} {qv2 : Value} {D : Dm} (h : Dsk w p g m qv D) (h2 : Rf w r g2 bc qv2 D) (hdis : ∀ k, fp p g m qv k → ¬ rfp r g2 qv2 k) (cs : Array Value) (t : TypeId) :
    PS w p g m qv r g2 bc qv2 w.heap.size (.cells cs t (0, 0)) (w.alloc (.cells cs t)) D D :=
  ⟨⟨m, qv, qv2, h.at (fun k hk => Below.heap_alloc _ _ _ (h.lt k hk)), h2.at (fun k hk => Below.heap_alloc _ _ _ (h2.lt k hk)), Moved.refl _ _ _, Went.refl _ _, hdis, fun hf => by have := h.lt _ hf; omega, fun hf => by have := h2.lt _ hf; omega⟩, (Kept.refl _ _).alloc _, heap_alloc_new _ _⟩
theorem PS.roff {w0 w : World} {p g m : Nat} {qv : Value} {r g2 bc : Nat} {qv2 : Value} {nb : Nat} {O : Obj} {D1 D2 : Dm} (h : PS w0 p g m qv r g2 bc qv2 nb O w D1 D2) : PS w0 p g m qv r g2 bc qv2 nb O (w.setCell ⟨r, 2, none⟩ (.bool false)) D1 { D2 with on := true } := by
  obtain ⟨m1, qv1, qv21, hd, hr, hm, hw, hdis, hn1, hn2⟩ := h.ex
  have hk : ∀ k, k ≠ r → (w.setCell ⟨r, 2, none⟩ (.bool false)).heap[k]? = w.heap[k]? := fun k hk => Below.heap_setCell _ _ _ _ hk
  exact ⟨⟨m1, qv1, qv21, hd.at (fun j hj => hk j (fun e => hdis j hj (.inl e))), hr.field 2 _ rfl rfl hr.fz (fun fk ft hf => ⟨fk, ft, rfl, hf⟩), hm, hw, hdis, hn1, hn2⟩, h.kept.setCell (a := ⟨r, 2, none⟩) (fun _ => .inr (.inl rfl)) _, by rw [hk nb (fun e => hn2 (.inl e))]; exact h.box⟩
theorem PS.roffc {w0 w : World} {p g m : Nat} {qv : Value} {r g2 bc : Nat} {qv2 : Value} {nb : Nat} {O : Obj} {D1 D2 : Dm} (h : PS w0 p g m qv r g2 bc qv2 nb O w D1 D2) : w.cell? ⟨r, 2, none⟩ = some (.bool (!D2.on)) ∧ w.frozen? ⟨r, 2, none⟩ = false := by
  obtain ⟨m1, qv1, qv21, hd, hr, _⟩ := h.ex
  exact ⟨hr.cells.2.2.1, hr.frozen 2⟩
/-- the cells of a step's box -/
theorem PS.boxc {w0 w : World} {p g m : Nat} {qv : Value} {r g2 bc : Nat} {qv2 : Value} {nb : Nat} {cs : Array Value} {t : TypeId} {D1 D2 : Dm} (h : PS w0 p g m qv r g2 bc qv2 nb (.cells cs t (0, 0)) w D1 D2) (j : Nat) : w.cell? ⟨nb, j, none⟩ = cs[j]? := cell_of_row _ _ _ _ _ _ h.box
theorem stepD_1 {D : Dm} {a b c : Int} {s : ByteArray} : stepD D 1 a b c s = writeD D a s := rfl
theorem stepD_2 {D : Dm} {a b c : Int} {s : ByteArray} : stepD D 2 a b c s = D := rfl
theorem stepD_3 {D : Dm} {a b c : Int} {s : ByteArray} : stepD D 3 a b c s = syncD D := rfl
theorem stepD_4 {D : Dm} {a b c : Int} {s : ByteArray} : stepD D 4 a b c s = crashS D a b := rfl
theorem stepD_5 {D : Dm} {a b c : Int} {s : ByteArray} : stepD D 5 a b c s = { D with on := true } := rfl
theorem stepD_6 {D : Dm} {a b c : Int} {s : ByteArray} : stepD D 6 a b c s = { D with room := roomS a } := rfl
theorem stepD_7 {D : Dm} {a b c : Int} {s : ByteArray} : stepD D 7 a b c s = fuseS D a b c := rfl
attribute [local go_sem ↓] Go.wp_at_zero Go.wp_at_succ
set_option maxRecDepth 100000 in
set_option maxHeartbeats 4000000 in
theorem c_step {w : World} {p g m : Nat} {qv : Value} {r g2 bc : Nat} {qv2 : Value} {D : Dm} (h : Dsk w p g m qv D) (h2 : Rf w r g2 bc qv2 D) (hdis : ∀ k, fp p g m qv k → ¬ rfp r g2 qv2 k) (hok : DOk D) (kind who a b c : Int) (s : ByteArray) :
    Calls Try.prog 31 #[.pointer (some ⟨p, 0, none⟩), .pointer (some ⟨r, 0, none⟩), .agg #[.int .i64 kind, .int .i64 who, .int .i64 a, .int .i64 b, .int .i64 c, .string s]] w fun e w' =>
      e = .returned (.bool true) ∧ PS w p g m qv r g2 bc qv2 w.heap.size (.cells #[.int .i64 kind, .int .i64 who, .int .i64 a, .int .i64 b, .int .i64 c, .string s] 68 (0, 0)) w' (stepD D kind a b c s) (stepD D kind a b c s) := by
  have HS := Lib.hid (PS.start h h2 hdis #[.int .i64 kind, .int .i64 who, .int .i64 a, .int .i64 b, .int .i64 c, .string s] 68)
  have hbc := fun (w1 : World) (D1 D2 : Dm) (h : PS w p g m qv r g2 bc qv2 w.heap.size (.cells #[.int .i64 kind, .int .i64 who, .int .i64 a, .int .i64 b, .int .i64 c, .string s] 68 (0, 0)) w1 D1 D2) =>
    And.intro ((h.boxc 2).trans rfl : w1.cell? ⟨w.heap.size, 2, none⟩ = some (.int .i64 a)) (And.intro ((h.boxc 3).trans rfl : w1.cell? ⟨w.heap.size, 3, none⟩ = some (.int .i64 b)) (And.intro ((h.boxc 4).trans rfl : w1.cell? ⟨w.heap.size, 4, none⟩ = some (.int .i64 c)) ((h.boxc 5).trans rfl : w1.cell? ⟨w.heap.size, 5, none⟩ = some (.string s))))
  have HB := Lib.hid hbc
  have hok := Lib.hid hok
  clear h h2 hdis hbc
  by_cases k1 : kind = 1
  · subst k1
    rw [stepD_1]
    go_enter Try.func31, Try.ntmps31
    go_wp2_with fail
    generalize (w.alloc (.cells #[.int .i64 1, .int .i64 who, .int .i64 a, .int .i64 b, .int .i64 c, .string s] 68)) = w1 at *
    obtain ⟨b2, b3, b4, b5⟩ := HB.out _ _ _ HS.out
    have HD := Lib.hid HS.out.drew
    go_region_held3 (fun W => W.cell? ⟨w.heap.size, 2, none⟩ = some (.int .i64 a) ∧ W.cell? ⟨w.heap.size, 5, none⟩ = some (.string s))
      (first | go_keep | exact ⟨x2, x5⟩)
      (first
        | (go_at_call 13; refine (p_Write HD.out hok.out _ _).mono ?_; rintro e w2 ⟨rfl, hs⟩; have hcz := HB.out _ _ _ hs; have x2 := hcz.1; have x5 := hcz.2.2.2; have HD2 := Lib.hid hs; clear hs hcz)
        | (go_at_call 35; refine (q_Write HD2.out hok.out _ _).mono ?_; rintro e w3 ⟨rfl, hs⟩; have hcz := HB.out _ _ _ hs; have x2 := hcz.1; have x5 := hcz.2.2.2; have HD3 := Lib.hid hs; clear hs hcz))
    go_wp2_with fail
    go_ret
    exact ⟨rfl, HD3.out⟩
  have f1 : (kind == 1) = false := by simpa using k1
  by_cases k2 : kind = 2
  · subst k2
    rw [stepD_2]
    clear f1 k1
    go_enter Try.func31, Try.ntmps31
    go_upto_region 6 with fail
    generalize (w.alloc (.cells #[.int .i64 2, .int .i64 who, .int .i64 a, .int .i64 b, .int .i64 c, .string s] 68)) = w1 at *
    obtain ⟨b2, b3, b4, b5⟩ := HB.out _ _ _ HS.out
    go_wp2_with (first
      | (go_at_call 16; refine (p_Read HS.out _).mono ?_; rintro e w2 ⟨rfl, hs⟩; have hcz := HB.out _ _ _ hs; have x2 := hcz.1; have HS2 := Lib.hid hs; clear hs hcz)
      | (go_at_call 36; refine (q_Read HS2.out _).mono ?_; rintro e w3 ⟨rfl, hw⟩; subst hw))
    go_ret
    exact ⟨rfl, HS2.out⟩
  have f2 : (kind == 2) = false := by simpa using k2
  by_cases k3 : kind = 3
  · subst k3
    rw [stepD_3]
    clear f1 k1 f2 k2
    go_enter Try.func31, Try.ntmps31
    go_upto_region 10 with fail
    generalize (w.alloc (.cells #[.int .i64 3, .int .i64 who, .int .i64 a, .int .i64 b, .int .i64 c, .string s] 68)) = w1 at *
    go_wp2_with (first
      | (go_at_call 12; refine (p_Sync HS.out hok.out).mono ?_; rintro e w2 ⟨rfl, hs⟩; have HS2 := Lib.hid hs; clear hs)
      | (go_at_call 37; refine (q_Sync HS2.out hok.out).mono ?_; rintro e w3 ⟨rfl, hs⟩; have HS3 := Lib.hid hs; clear hs))
    go_ret
    exact ⟨rfl, HS3.out⟩
  have f3 : (kind == 3) = false := by simpa using k3
  by_cases k4 : kind = 4
  · subst k4
    rw [stepD_4]
    clear f1 k1 f2 k2 f3 k3
    go_enter Try.func31, Try.ntmps31
    go_upto_region 12 with fail
    generalize (w.alloc (.cells #[.int .i64 4, .int .i64 who, .int .i64 a, .int .i64 b, .int .i64 c, .string s] 68)) = w1 at *
    obtain ⟨b2, b3, b4, b5⟩ := HB.out _ _ _ HS.out
    go_wp2_with (first
      | (go_at_call 14; refine (p_Crash HS.out _ _).mono ?_; rintro e w2 ⟨rfl, hs⟩; have hcz := HB.out _ _ _ hs; have x2 := hcz.1; have x3 := hcz.2.1; have HS2 := Lib.hid hs; clear hs hcz)
      | (go_at_call 38; refine (q_Crash HS2.out _ _).mono ?_; rintro e w3 ⟨rfl, hs⟩; have HS3 := Lib.hid hs; clear hs))
    go_ret
    exact ⟨rfl, HS3.out⟩
  have f4 : (kind == 4) = false := by simpa using k4
  by_cases k5 : kind = 5
  · subst k5
    rw [stepD_5]
    clear f1 k1 f2 k2 f3 k3 f4 k4
    go_enter Try.func31, Try.ntmps31
    go_upto_region 15 with fail
    generalize (w.alloc (.cells #[.int .i64 5, .int .i64 who, .int .i64 a, .int .i64 b, .int .i64 c, .string s] 68)) = w1 at *
    go_wp2_with (first
      | (go_at_call 15; refine (p_Restore HS.out).mono ?_; rintro e w2 ⟨rfl, hs⟩; have y2 := hs.roffc.1; have z2 := hs.roffc.2; have HS2 := Lib.hid hs.roff; clear hs))
    go_ret
    exact ⟨rfl, HS2.out⟩
  have f5 : (kind == 5) = false := by simpa using k5
  by_cases k6 : kind = 6
  · subst k6
    rw [stepD_6]
    clear f1 k1 f2 k2 f3 k3 f4 k4 f5 k5
    go_enter Try.func31, Try.ntmps31
    go_upto_region 18 with fail
    generalize (w.alloc (.cells #[.int .i64 6, .int .i64 who, .int .i64 a, .int .i64 b, .int .i64 c, .string s] 68)) = w1 at *
    obtain ⟨b2, b3, b4, b5⟩ := HB.out _ _ _ HS.out
    go_wp2_with (first
      | (go_at_call 18; refine (p_Room HS.out _).mono ?_; rintro e w2 ⟨rfl, hs⟩; have hcz := HB.out _ _ _ hs; have x2 := hcz.1; have HS2 := Lib.hid hs; clear hs hcz)
      | (go_at_call 39; refine (q_Room HS2.out _).mono ?_; rintro e w3 ⟨rfl, hs⟩; have HS3 := Lib.hid hs; clear hs))
    go_ret
    exact ⟨rfl, HS3.out⟩
  have f6 : (kind == 6) = false := by simpa using k6
  by_cases k7 : kind = 7
  · subst k7
    rw [stepD_7]
    clear f1 k1 f2 k2 f3 k3 f4 k4 f5 k5 f6 k6
    go_enter Try.func31, Try.ntmps31
    go_upto_region 21 with fail
    generalize (w.alloc (.cells #[.int .i64 7, .int .i64 who, .int .i64 a, .int .i64 b, .int .i64 c, .string s] 68)) = w1 at *
    obtain ⟨b2, b3, b4, b5⟩ := HB.out _ _ _ HS.out
    go_wp2_with (first
      | (go_at_call 20; refine (p_Fuse HS.out _ _ _).mono ?_; rintro e w2 ⟨rfl, hs⟩; have hcz := HB.out _ _ _ hs; have x2 := hcz.1; have x3 := hcz.2.1; have x4 := hcz.2.2.1; have HS2 := Lib.hid hs; clear hs hcz)
      | (go_at_call 40; refine (q_Fuse HS2.out _ _ _).mono ?_; rintro e w3 ⟨rfl, hs⟩; have HS3 := Lib.hid hs; clear hs))
    go_ret
    exact ⟨rfl, HS3.out⟩
  have f7 : (kind == 7) = false := by simpa using k7
  have he : stepD D kind a b c s = D := by
    unfold stepD
    rw [if_neg k1, if_neg k2, if_neg k3, if_neg k4, if_neg k5, if_neg k6, if_neg k7]
  rw [he]
  clear he k1 k2 k3 k4 k5 k6 k7
  go_enter Try.func31, Try.ntmps31
  go_wp2_with (first
    | (go_at_call 32; refine (p_looks HS.out).mono ?_; rintro e w2 ⟨rfl, hs⟩; have HS2 := Lib.hid hs; clear hs))
  go_ret
  exact ⟨rfl, HS2.out⟩
end Go.Proofs.YtcbaflnmfiofeaaDk
