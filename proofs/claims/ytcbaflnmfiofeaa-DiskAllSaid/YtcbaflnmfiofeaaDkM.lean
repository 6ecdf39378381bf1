/-
  vdisk: a disk that the call itself has made: its state, and the contracts over it; alive. Condition: none.
-/
import Derived.Test.YtcbaflnmfiofeaaDkL
import Derived.Test.YtcbaflnmfiofeaaDkR
namespace Go.Proofs.YtcbaflnmfiofeaaDk
open Go.RowKit Go.Maps Go.Proofs.YtcbaflnmfiofeaaKp Go.Proofs.YtcbaflnmfiofeaaCm Go.Proofs.YtcbaflnmfiofeaaW.PrintWords
set_option linter.unusedVariables false
set_option linter.unusedSimpArgs false
/-- the call began in w0; in w block p is a disk of the call's own, the blocks of B are as told and none of the disk's -/
structure St (w0 w : World) (p : Nat) (D : Dm) (B : List (Nat × Obj)) : Prop where
  ex : ∃ g m qv, Dsk w p g m qv D ∧ (∀ k, fp p g m qv k → w0.heap.size ≤ k) ∧ ∀ x ∈ B, w.heap[x.1]? = some x.2 ∧ ¬ fp p g m qv x.1
  below : Below w0.heap.size w0 w
variable {w0 w : World} {p : Nat} {D : Dm} {B : List (Nat × Obj)}
theorem St.size (h : St w0 w p D B) : w0.heap.size ≤ w.heap.size := h.below.size
theorem St.b (h : St w0 w p D B) {w1 : World} (k : Below w.heap.size w w1) : St w0 w1 p D B := by
  obtain ⟨g, m, qv, hd, hn, hB⟩ := h.ex
  refine ⟨⟨g, m, qv, hd.at (fun j hj => k.block j (hd.lt j hj)), hn, fun x hx => ⟨?_, (hB x hx).2⟩⟩, h.below.trans (k.mono h.below.size)⟩
  rw [k.block _ (lt_of_at (hB x hx).1)]
  exact (hB x hx).1
theorem St.op (h : St w0 w p D B) {w1 : World} {D' : Dm} (k : ∀ g m qv, Dsk w p g m qv D → ∃ m' qv', Dsk w1 p g m' qv' D' ∧ Kept (fp p g m qv) w w1 ∧ Moved w m qv m' qv') : St w0 w1 p D' B := by
  obtain ⟨g, m, qv, hd, hn, hB⟩ := h.ex
  obtain ⟨m', qv', hd', hK, hM⟩ := k g m qv hd
  refine ⟨⟨g, m', qv', hd', fun j hj => ?_, fun x hx => ⟨?_, fun hf => ?_⟩⟩, h.below.trans ?_⟩
  · rcases Nat.lt_or_ge j w.heap.size with hl | hl
    · exact hn j (hM.fp hl hj)
    · exact Nat.le_trans h.below.size hl
  · exact hK.at (hB x hx).1 (hB x hx).2
  · exact (hB x hx).2 (hM.fp (lt_of_at (hB x hx).1) hf)
  · exact ⟨hK.os, hK.tape, hK.output, hK.size, fun j hj => hK.block j (Nat.lt_of_lt_of_le hj h.below.size) (fun hf => by have := hn j hf; omega)⟩
theorem St.drew (h : St w0 w p D B) : St w0 w.drew p D B := h.b (⟨rfl, rfl, rfl, Nat.le_refl _, fun _ _ => rfl⟩)
theorem St.alloc (h : St w0 w p D B) (cs : Array Value) (t : TypeId) : St w0 (w.alloc (.cells cs t)) p D ((w.heap.size, .cells cs t (0, 0)) :: B) := by
  have hb : Below w.heap.size w (w.alloc (.cells cs t)) := (Below.refl _ _).alloc (Nat.le_refl _) _
  obtain ⟨g, m, qv, hd, hn, hB⟩ := (h.b hb).ex
  obtain ⟨g0, m0, qv0, hd0, hn0, hB0⟩ := h.ex
  refine ⟨⟨g0, m0, qv0, hd0.at (fun j hj => hb.block j (hd0.lt j hj)), hn0, fun x hx => ?_⟩, (h.b hb).below⟩
  rcases List.mem_cons.1 hx with rfl | hx
  · exact ⟨heap_alloc_new _ _, fun hf => by have := hd0.lt _ hf; simp at this⟩
  · exact ⟨by rw [hb.block _ (lt_of_at (hB0 x hx).1)]; exact (hB0 x hx).1, (hB0 x hx).2⟩
theorem St.set {b : Nat} {cs : Array Value} {t : TypeId} (h : St w0 w p D ((b, .cells cs t (0, 0)) :: B)) (hb : w0.heap.size ≤ b) (hne : ∀ x ∈ B, x.1 ≠ b) (j : Nat) (v : Value) :
    St w0 (w.setCell ⟨b, j, none⟩ v) p D ((b, .cells (cs.setIfInBounds j v) t (0, 0)) :: B) := by
  obtain ⟨g, m, qv, hd, hn, hB⟩ := h.ex
  have h0 := hB _ List.mem_cons_self
  refine ⟨⟨g, m, qv, hd.at (fun k hk => Below.heap_setCell _ _ _ _ (fun e => h0.2 (by subst e; exact hk))), hn, fun x hx => ?_⟩, h.below.setCell hb _⟩
  rcases List.mem_cons.1 hx with rfl | hx
  · exact ⟨heap_setCell_same w b j cs t v h0.1, h0.2⟩
  · exact ⟨by rw [Below.heap_setCell _ _ _ _ (hne x hx)]; exact (hB x (List.mem_cons_of_mem _ hx)).1, (hB x (List.mem_cons_of_mem _ hx)).2⟩
theorem St.sub {B' : List (Nat × Obj)} (h : St w0 w p D B) (hs : ∀ x ∈ B', x ∈ B) : St w0 w p D B' := by
  obtain ⟨g, m, qv, hd, hn, hB⟩ := h.ex
  exact ⟨⟨g, m, qv, hd, hn, fun x hx => hB x (hs x hx)⟩, h.below⟩
theorem St.at (h : St w0 w p D B) {x : Nat × Obj} (hx : x ∈ B) : w.heap[x.1]? = some x.2 := by
  obtain ⟨g, m, qv, hd, hn, hB⟩ := h.ex
  exact (hB x hx).1
theorem Calls.op {f : FuncId} {args : Array Value} {v : Value} {D' : Dm} (h : St w0 w p D B)
    (k : ∀ g m qv, Dsk w p g m qv D → Calls Try.prog f args w fun e w' => e = .returned v ∧ ∃ m' qv', Dsk w' p g m' qv' D' ∧ Kept (fp p g m qv) w w' ∧ Moved w m qv m' qv') :
    Calls Try.prog f args w fun e w' => e = .returned v ∧ St w0 w' p D' B := by
  obtain ⟨g, m, qv, hd, hn, hB⟩ := h.ex
  refine (k g m qv hd).mono fun e w' ⟨he, m', qv', hd', hK, hM⟩ => ⟨he, ?_⟩
  refine ⟨⟨g, m', qv', hd', fun j hj => ?_, fun x hx => ⟨?_, fun hf => ?_⟩⟩, h.below.trans ?_⟩
  · rcases Nat.lt_or_ge j w.heap.size with hl | hl
    · exact hn j (hM.fp hl hj)
    · exact Nat.le_trans h.below.size hl
  · exact hK.at (hB x hx).1 (hB x hx).2
  · exact (hB x hx).2 (hM.fp (lt_of_at (hB x hx).1) hf)
  · exact ⟨hK.os, hK.tape, hK.output, hK.size, fun j hj => hK.block j (Nat.lt_of_lt_of_le hj h.below.size) (fun hf => by have := hn j hf; omega)⟩
/-- a call that turns nothing that was there -/
theorem Calls.ob {f : FuncId} {args : Array Value} {v : Value} (h : St w0 w p D B) (k : Calls Try.prog f args w fun e w' => e = .returned v ∧ Below w.heap.size w w') :
    Calls Try.prog f args w fun e w' => e = .returned v ∧ St w0 w' p D B := k.mono fun e w' ⟨he, hb⟩ => ⟨he, h.b hb⟩
theorem keptP {w w1 : World} {g m : Nat} {qv : Value} (h : Kept (fun k => k = p) w w1) : Kept (fp p g m qv) w w1 := h.mono fun i _ e => .inl e
theorem s_Write (h : St w0 w p D B) (hok : DOk D) (a : Int) (s : ByteArray) : Calls Try.prog 13 #[.pointer (some ⟨p, 0, none⟩), .int .i64 a, .string s] w fun e w' => e = .returned (.int .i64 (writeE D a s)) ∧ St w0 w' p (writeD D a s) B :=
  Calls.op h fun g m qv hd => c_Write hd hok a s
theorem s_Sync (h : St w0 w p D B) (hok : DOk D) : Calls Try.prog 12 #[.pointer (some ⟨p, 0, none⟩)] w fun e w' => e = .returned (.int .i64 (syncE D)) ∧ St w0 w' p (syncD D) B :=
  Calls.op h fun g m qv hd => c_Sync hd hok
theorem s_Crash (h : St w0 w p D B) (keep torn : Int) : Calls Try.prog 14 #[.pointer (some ⟨p, 0, none⟩), .int .i64 keep, .int .i64 torn] w fun e w' => e = .returned (.tuple #[]) ∧ St w0 w' p (crashS D keep torn) B :=
  Calls.op h fun g m qv hd => c_Crash hd keep torn
theorem s_Restore (h : St w0 w p D B) : Calls Try.prog 15 #[.pointer (some ⟨p, 0, none⟩)] w fun e w' => e = .returned (.tuple #[]) ∧ St w0 w' p { D with on := true } B :=
  Calls.op h fun g m qv hd => (c_Restore hd).mono fun e w' ⟨he, hd', hk⟩ => ⟨he, m, qv, hd', keptP hk, Moved.refl _ _ _⟩
theorem s_Room (h : St w0 w p D B) (n : Int) : Calls Try.prog 18 #[.pointer (some ⟨p, 0, none⟩), .int .i64 n] w fun e w' => e = .returned (.tuple #[]) ∧ St w0 w' p { D with room := roomS n } B :=
  Calls.op h fun g m qv hd => (c_Room hd n).mono fun e w' ⟨he, hd', hk⟩ => ⟨he, m, qv, hd', keptP hk, Moved.refl _ _ _⟩
theorem s_Fuse (h : St w0 w p D B) (n k t : Int) : Calls Try.prog 20 #[.pointer (some ⟨p, 0, none⟩), .int .i64 n, .int .i64 k, .int .i64 t] w fun e w' => e = .returned (.tuple #[]) ∧ St w0 w' p (fuseS D n k t) B :=
  Calls.op h fun g m qv hd => (c_Fuse hd n k t).mono fun e w' ⟨he, hd', hk⟩ => ⟨he, m, qv, hd', keptP hk, Moved.refl _ _ _⟩
theorem Calls.oq {f : FuncId} {args : Array Value} {v : Value} (h : St w0 w p D B) (k : ∀ g m qv, Dsk w p g m qv D → Calls Try.prog f args w fun e w' => e = .returned v ∧ w' = w) :
    Calls Try.prog f args w fun e w' => e = .returned v ∧ w = w' := by
  obtain ⟨g, m, qv, hd, _⟩ := h.ex
  exact (k g m qv hd).mono fun e w' ⟨he, hw⟩ => ⟨he, hw.symm⟩
theorem s_On (h : St w0 w p D B) : Calls Try.prog 21 #[.pointer (some ⟨p, 0, none⟩)] w fun e w' => e = .returned (.bool D.on) ∧ w = w' := Calls.oq h fun g m qv hd => c_On hd
theorem s_Sectors (h : St w0 w p D B) : Calls Try.prog 23 #[.pointer (some ⟨p, 0, none⟩)] w fun e w' => e = .returned (.int .i64 D.secs.length) ∧ w = w' := Calls.oq h fun g m qv hd => c_Sectors hd
theorem s_Queue (h : St w0 w p D B) : Calls Try.prog 17 #[.pointer (some ⟨p, 0, none⟩)] w fun e w' => e = .returned (.int .i64 D.q.length) ∧ w = w' := Calls.oq h fun g m qv hd => c_Queue hd
theorem s_Writes (h : St w0 w p D B) : Calls Try.prog 19 #[.pointer (some ⟨p, 0, none⟩)] w fun e w' => e = .returned (.int .i64 D.writes) ∧ w = w' := Calls.oq h fun g m qv hd => c_Writes hd
theorem s_Read (h : St w0 w p D B) (a : Int) : Calls Try.prog 16 #[.pointer (some ⟨p, 0, none⟩), .int .i64 a] w fun e w' => e = .returned (.tuple #[.string (readS D a), .int .i64 (readE D a)]) ∧ St w0 w' p D B := by
  obtain ⟨g, m, qv, hd, _⟩ := h.ex
  exact Calls.ob h (c_Read hd a)
theorem s_Image (h : St w0 w p D B) : Calls Try.prog 24 #[.pointer (some ⟨p, 0, none⟩)] w fun e w' => e = .returned (.string (strOfNums D.secs.flatten)) ∧ St w0 w' p D B := by
  obtain ⟨g, m, qv, hd, _⟩ := h.ex
  exact Calls.ob h (c_Image hd)
theorem s_New (hb : Below w0.heap.size w0 w) (n : Nat) (h1 : 1 ≤ n) (h2 : n ≤ 65536) (hB : ∀ x ∈ B, w.heap[x.1]? = some x.2) : Calls Try.prog 10 #[.int .i64 n] w fun e w' => ∃ p, e = .returned (.tuple #[.pointer (some ⟨p, 0, none⟩), .int .i64 0]) ∧ St w0 w' p (newD n) B :=
  (c_New n h1 h2 w).mono fun e w' ⟨p, g, m, he, hd, hp, hg, hm, hbl⟩ => by
    have hfp : ∀ k, fp p g m (.slice none 0 0) k → w.heap.size ≤ k := by
      rintro k (rfl | rfl | rfl | e)
      · exact hp
      · exact hg
      · exact hm
      · simp [Value.ownBlock] at e
    refine ⟨p, he, ⟨g, m, _, hd, fun k hk => Nat.le_trans hb.size (hfp k hk), fun x hx => ⟨?_, fun hf => ?_⟩⟩, hb.trans (hbl.mono hb.size)⟩
    · rw [hbl.block _ (lt_of_at (hB x hx))]; exact hB x hx
    · have := hfp _ hf
      have := lt_of_at (hB x hx)
      omega
theorem s_row (h : St w0 w p D B) (v : Int) : Calls Try.prog 11 #[.int .i64 v] w fun e w' => e = .returned (.string (strOfNums (List.replicate 64 (v % 256)))) ∧ St w0 w' p D B := Calls.ob h (c_row v w)
end Go.Proofs.YtcbaflnmfiofeaaDk
