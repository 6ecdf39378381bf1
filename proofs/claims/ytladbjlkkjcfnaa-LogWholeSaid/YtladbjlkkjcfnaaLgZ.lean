/-
  LogWhole: the state of the walk: a disk, a log, the rows 'now' and 'ahead'. LogWhole: the generations as they are handed in; two rows of texts compared; a text's row cut. LogWhole: the state of the walk, call by call. Condition: none.
-/
import Derived.Test.YtladbjlkkjcfnaaLgP
import Derived.Test.YtladbjlkkjcfnaaLgK
import Derived.SliceStrings
import Derived.Deep.Slices
namespace Go.Proofs.YtladbjlkkjcfnaaLg
open Go.RowKit Go.Proofs.YtladbjlkkjcfnaaW.PrintWords Go.Proofs.YtladbjlkkjcfnaaW.PrintMore Go.Proofs.Ytladbjlkkjcfnaa.PU Go.Proofs.YtladbjlkkjcfnaaOc Go.Proofs.YtladbjlkkjcfnaaKp Go.Proofs.YtladbjlkkjcfnaaCm Go.Proofs.YtladbjlkkjcfnaaDk
set_option linter.unusedVariables false
set_option linter.unusedSimpArgs false
variable {w0 w w1 : World} {p l : Nat} {D D' : Dm} {L L' : Lm} {B : List (Nat × Obj)} {R AH : List ByteArray} {nv av : Value}
/-- a row of texts of the call's own, as a box -/
def RowB (v : Value) (xs : List ByteArray) (b : List (Nat × Obj)) : Prop := (v = .slice none 0 0 ∧ xs = [] ∧ b = []) ∨
  ∃ g cap cur, v = .slice (some ⟨g, 0, none⟩) xs.length cap ∧ b = [(g, .cells cur 9 (0, 0))] ∧ xs.length ≤ cap ∧ cap ≤ maxLen ∧ cur.size = cap ∧ cur.toList.take xs.length = txts xs
def LW (w0 w : World) (p l : Nat) (D : Dm) (L : Lm) (R AH : List ByteArray) (nv av : Value) : Prop := ∃ nb ab, Lg w0 w p l D L (nb ++ ab) ∧ RowB nv R nb ∧ RowB av AH ab ∧ (∀ x ∈ nb, w0.heap.size ≤ x.1) ∧ ∀ x ∈ nb, ∀ y ∈ ab, x.1 ≠ y.1
theorem RowB.own {v : Value} {xs : List ByteArray} {b : List (Nat × Obj)} (h : RowB v xs b) (hb : ∀ x ∈ b, w.heap[x.1]? = some x.2) : w.ownsRow 0 9 1 v xs.length (txts xs) := by
  refine ⟨by simp [txts], ?_⟩
  rcases h with ⟨rfl, rfl, _⟩ | ⟨g, cap, cur, rfl, rfl, h1, h2, h3, h4⟩
  · exact .inl ⟨rfl, rfl⟩
  · exact .inr ⟨g, cap, cur, rfl, Nat.zero_le _, hb _ List.mem_cons_self, h1, h2, by omega, by rw [Nat.mul_one]; exact h4⟩
theorem RowB.form {v : Value} {xs : List ByteArray} {b : List (Nat × Obj)} (h : RowB v xs b) : ∃ A c, v = .slice A xs.length c ∧ xs.length ≤ c := by
  rcases h with ⟨rfl, rfl, _⟩ | ⟨g, cap, cur, rfl, rfl, h1, _⟩
  · exact ⟨none, 0, rfl, Nat.le_refl _⟩
  · exact ⟨_, _, rfl, h1⟩
theorem LW.lift {f : FuncId} {args : Array Value} {v : Value} (h : LW w0 w p l D L R AH nv av) (k : ∀ B, Lg w0 w p l D L B → Calls Try.prog f args w fun e w' => e = .returned v ∧ Lg w0 w' p l D' L' B) :
    Calls Try.prog f args w fun e w' => e = .returned v ∧ LW w0 w' p l D' L' R AH nv av := by
  obtain ⟨nb, ab, h1, h2⟩ := h
  exact (k _ h1).mono fun e w' ⟨he, h'⟩ => ⟨he, nb, ab, h', h2⟩
theorem LW.below (h : LW w0 w p l D L R AH nv av) : Below w0.heap.size w0 w := by
  obtain ⟨nb, ab, h1, _⟩ := h
  exact h1.below
theorem LW.start (h : Lg w0 w p l D L []) : LW w0 w p l D L [] [] (.slice none 0 0) (.slice none 0 0) := ⟨[], [], h, .inl ⟨rfl, rfl, rfl⟩, .inl ⟨rfl, rfl, rfl⟩, (fun x hx => by cases hx), (fun x hx => by cases hx)⟩
/-- a new generation: 'now' is empty, 'ahead' as it was -/
theorem LW.keep (h : LW w0 w p l D L R AH nv av) : LW w0 w p l D L [] AH (.slice none 0 0) av := by
  obtain ⟨nb, ab, h1, _, h3, _⟩ := h
  exact ⟨[], ab, h1.sub (fun x hx => List.mem_append_right _ hx), .inl ⟨rfl, rfl, rfl⟩, h3, (fun x hx => by cases hx), (fun x hx => by cases hx)⟩
/-- a new generation: 'ahead' is what 'now' was -/
theorem LW.swap (h : LW w0 w p l D L R AH nv av) : LW w0 w p l D L [] R (.slice none 0 0) nv := by
  obtain ⟨nb, ab, h1, h2, _, _⟩ := h
  exact ⟨[], nb, h1.sub (fun x hx => List.mem_append_left _ hx), .inl ⟨rfl, rfl, rfl⟩, h2, (fun x hx => by cases hx), (fun x hx => by cases hx)⟩
/-- a text joins 'now': append's run, and the state behind it -/
theorem LW.grow (h : LW w0 w p l D L R AH nv av) (x : ByteArray) (hrc : R.length ≤ 65536) :
    ∃ ga cap w9, (apR #[nv, .slice (some ⟨w.heap.size, 0, none⟩) 1 1]).run Try.prog (w.alloc (.cells #[.string x] 9)) = .ok (.slice (some ⟨ga, 0, none⟩) (R.length + 1) cap) w9 ∧ R.length + 1 ≤ cap ∧
      LW w0 w9 p l D L (R ++ [x]) AH (.slice (some ⟨ga, 0, none⟩) (R.length + 1) cap) av := by
  obtain ⟨nb, ab, h1, h2, h3, h4, h5⟩ := h
  obtain ⟨i0, hi0, hz0, hz1, hz2⟩ := info_parts infoS
  have hb2 : Below w.heap.size w (w.alloc (.cells #[.string x] 9)) := (Below.refl _ _).alloc (Nat.le_refl _) _
  have hL := h1.b hb2
  have hown := h2.own (w := w.alloc (.cells #[.string x] 9)) (fun y hy => hL.at (List.mem_append_left _ hy))
  obtain ⟨ga, cap, w9, hrun, hown9, hgrow, hat, hlt⟩ := run_append_lies (P := Try.prog) (w.alloc (.cells #[.string x] 9)) 34 34 0 9 i0 _ 1 16 Try.underlying34 hi0 hz0 hz1 hz2 rfl (by omega) nv R.length (txts R) hown ⟨w.heap.size, 0, none⟩ 1 1 [.string x] rfl (World.news_of_block (cs := #[.string x]) (t := 9) (fr := (0, 0)) (heap_alloc_new w _)) (by simp [Value.oneCell']) (by omega) (by unfold maxLen; omega) (by omega) (Nat.zero_le _) (w.heap.size + 1) (by simp)
  have K : Kept (fun j => nv.ownBlock = some j) w w9 := (Go.Proofs.YtladbjlkkjcfnaaKp.Kept.of_below hb2).grown hgrow (fun k e _ => e)
  have e1 : (R ++ [x]).length = R.length + 1 := by simp
  have e2 : txts (R ++ [x]) = txts R ++ [.string x] := by simp [txts]
  obtain ⟨_, ⟨e0, _⟩ | ⟨g9, cap9, cur9, e0, _, hcur9, hn9, hm9, hc9, ht9⟩⟩ := hown9
  · cases e0
  simp only [Value.slice.injEq, Option.some.injEq, Addr.mk.injEq, and_true, true_and] at e0
  obtain ⟨rfl, rfl⟩ := e0
  have hga : (∃ y ∈ nb, y.1 = ga) ∨ w.heap.size ≤ ga := by
    rcases hat with e | e
    · rcases h2 with ⟨rfl, _, _⟩ | ⟨g, c, cur, rfl, rfl, _⟩
      · simp [Value.ownBlock] at e
      · simp only [Value.ownBlock, Option.some.injEq] at e
        exact .inl ⟨_, List.mem_cons_self, e⟩
    · right; omega
  have hnv : ∀ j, nv.ownBlock = some j → ∃ y ∈ nb, y.1 = j := by
    intro j hj
    rcases h2 with ⟨rfl, _, _⟩ | ⟨g, c, cur, rfl, rfl, _⟩
    · simp [Value.ownBlock] at hj
    · simp only [Value.ownBlock, Option.some.injEq] at hj
      exact ⟨_, List.mem_cons_self, hj⟩
  obtain ⟨g, m, qv, rv, hV⟩ := h1
  have hnn : ∀ y ∈ nb, ¬ fp p g m qv y.1 ∧ y.1 ≠ l ∧ rv.ownBlock ≠ some y.1 := fun y hy => (hV.box y (List.mem_append_left _ hy)).2
  have hkeep : ∀ j, j < w.heap.size → (∀ y ∈ nb, y.1 ≠ j) → w9.heap[j]? = w.heap[j]? := fun j hj hn => K.block j hj (fun e => by obtain ⟨y, hy, he⟩ := hnv j e; exact hn y hy he)
  have hsz := hV.below.size
  refine ⟨ga, cap, w9, hrun, hn9, [(ga, .cells cur9 9 (0, 0))], ab, ⟨g, m, qv, rv, ?_⟩, .inr ⟨ga, cap, cur9, by rw [e1], rfl, by rw [e1]; exact hn9, hm9, by omega, by rw [e1, e2]; rw [Nat.mul_one] at ht9; exact ht9⟩, h3, ?_, ?_⟩
  · refine ⟨hV.dsk.at (fun j e => hkeep j (hV.dsk.lt j e) (fun y hy he => (hnn y hy).1 (by rw [he]; exact e))), ?_, ownsRow_at hV.rcs (fun j e => hkeep j (ownRow_lt hV.rcs j e) (fun y hy he => (hnn y hy).2.2 (by rw [he]; exact e))), hV.fpn, hV.rl, hV.rn, hV.ln, fun y hy => ?_, hV.below.trans ⟨K.os, K.tape, K.output, K.size, fun j hj => hkeep j (by omega) (fun y hy he => by have := h4 y hy; omega)⟩⟩
    · rw [hkeep l (lt_of_at hV.row) (fun y hy he => (hnn y hy).2.1 he)]
      exact hV.row
    · rcases List.mem_append.1 hy with hy | hy
      · obtain rfl := List.mem_singleton.1 hy
        refine ⟨hcur9, ?_⟩
        rcases hga with ⟨y, hy, he⟩ | he
        · have := hnn y hy
          rw [he] at this
          exact this
        · exact ⟨fun e => by have := hV.dsk.lt _ e; simp at this; omega, fun e => by have := lt_of_at hV.row; simp at e; omega, fun e => by have := ownRow_lt hV.rcs _ e; simp at this; omega⟩
      · have hb := hV.box y (List.mem_append_right _ hy)
        refine ⟨?_, hb.2⟩
        rw [hkeep y.1 (lt_of_at hb.1) (fun z hz he => h5 z hz y hy he)]
        exact hb.1
  · intro y hy
    obtain rfl := List.mem_singleton.1 hy
    rcases hga with ⟨y, hy, he⟩ | he
    · have := h4 y hy
      simp only
      omega
    · simp only
      omega
  · intro y hy z hz he
    obtain rfl := List.mem_singleton.1 hy
    rcases hga with ⟨y, hy, hye⟩ | hge
    · exact h5 y hy z hz (by rw [hye]; exact he)
    · have := lt_of_at (hV.box z (List.mem_append_right _ hz)).1
      simp only at he
      omega
end Go.Proofs.YtladbjlkkjcfnaaLg
namespace Go.Proofs.YtladbjlkkjcfnaaLg
open Go.RowKit Go.Proofs.YtladbjlkkjcfnaaW.PrintWords Go.Proofs.YtladbjlkkjcfnaaW.PrintMore Go.Proofs.Ytladbjlkkjcfnaa.PU Go.Proofs.YtladbjlkkjcfnaaOc Go.Proofs.YtladbjlkkjcfnaaKp Go.Proofs.YtladbjlkkjcfnaaCm Go.Proofs.YtladbjlkkjcfnaaDk
set_option linter.unusedVariables false
set_option linter.unusedSimpArgs false
variable {w0 w w1 : World} {p l : Nat} {D D' : Dm} {L L' : Lm} {B : List (Nat × Obj)} {R AH : List ByteArray} {nv av : Value}
def TextsAt (w : World) (A : Option Addr) (n c : Nat) : Prop := n ≤ c ∧ ∀ j, j < n → ∃ bd s, A = some bd ∧ w.cell? (bd.add j) = some (.string s)
def GensIn (w : World) (A : Option Addr) (len cap : Nat) : Prop := len ≤ cap ∧ ∀ i, i < len → ∃ ad A1 n1 c1, A = some ad ∧ w.cell? (ad.add i) = some (.slice A1 n1 c1) ∧ TextsAt w A1 n1 c1
theorem same_loop (a b : List ByteArray) (hab : a.length = b.length) (hl : a.length ≤ 1000000) : ∀ (m i k : Nat), a.length - i ≤ m → i ≤ a.length → m < k → chancerybook_SameTexts.l0 k a b (i : Int) = some (decide (a.drop i = b.drop i)) := by
  intro m
  induction m with
  | zero =>
    intro i k hm hi hk
    obtain rfl : i = a.length := by omega
    obtain ⟨k, rfl⟩ : ∃ j, k = j + 1 := ⟨k - 1, by omega⟩
    rw [chancerybook_SameTexts.l0, if_neg (by omega), List.drop_length, hab, List.drop_length]
    simp
  | succ m ih =>
    intro i k hm hi hk
    obtain ⟨k, rfl⟩ : ∃ j, k = j + 1 := ⟨k - 1, by omega⟩
    rw [chancerybook_SameTexts.l0]
    by_cases h : i < a.length
    · have hb : i < b.length := by omega
      rw [if_pos (by omega), if_pos (by omega), if_pos (by omega)]
      have ha : rdOf ByteArray.empty a (i : Int) = a[i] := by simp [rdOf, h]
      have hb' : rdOf ByteArray.empty b (i : Int) = b[i] := by simp [rdOf, hb]
      have hiff : (a.drop i = b.drop i) ↔ (a[i] = b[i] ∧ a.drop (i + 1) = b.drop (i + 1)) := by rw [List.drop_eq_getElem_cons h, List.drop_eq_getElem_cons hb, List.cons.injEq]
      rw [ha, hb']
      by_cases he : a[i] = b[i]
      · rw [if_pos (by rw [he]), show wrap64 ((i : Int) + 1) = ((i + 1 : Nat) : Int) by rw [w64 (by omega)]; omega, ih (i + 1) k (by omega) (by omega) (by omega)]
        simp [hiff, he]
      · have hn : ¬ (a[i].toList = b[i].toList) := fun e => he (ByteArray.ext (Array.toList_inj.1 (by rw [ByteArray.toList_eq, ByteArray.toList_eq] at e; exact e)))
        rw [if_neg hn]
        simp [hiff, he]
    · obtain rfl : i = a.length := by omega
      rw [if_neg (by omega), List.drop_length, hab, List.drop_length]
      simp
theorem same_f (a b : List ByteArray) (hl : a.length ≤ 1000000) : chancerybook_SameTexts.f (a.length + 1) a b = some (decide (a = b)) := by
  unfold chancerybook_SameTexts.f
  by_cases h : a.length = b.length
  · rw [if_pos (by omega)]
    have := same_loop a b h hl a.length 0 (a.length + 1) (by omega) (by omega) (by omega)
    simpa using this
  · rw [if_neg (by omega)]
    have : ¬ a = b := fun e => h (by rw [e])
    simp [this]
theorem c_same (A0 : Option Addr) (c0 : Nat) (a : List ByteArray) (A1 : Option Addr) (c1 : Nat) (b : List ByteArray) (w : World) (h0 : Kd.C Kd.string w A0 a.length a) (hc0 : a.length ≤ c0) (h1 : Kd.C Kd.string w A1 b.length b) (hc1 : b.length ≤ c1) (hl : a.length ≤ 1000000) (r : Bool) (hr : decide (a = b) = r) :
    Calls Try.prog 18 #[.slice A0 a.length c0, .slice A1 b.length c1] w fun e w' => e = .returned (.bool r) ∧ Below w.heap.size w w' :=
  (chancerybook_SameTexts.calls (a.length + 1) A0 c0 a A1 c1 b r w h0 hc0 h1 hc1 (by rw [same_f a b hl, hr])).mono fun e w' ⟨he, hd⟩ => ⟨he, hd.below⟩
theorem C_own {A : Option Addr} {c b : Nat} {xs : List ByteArray} (h : w.ownsRow b 9 1 (.slice A xs.length c) xs.length (txts xs)) (hx : xs.length ≤ 9223372036854775807) : Kd.C Kd.string w A xs.length xs := by
  refine Kd.C_of_reads (d := ByteArray.empty) ⟨rfl, hx, fun hn => ?_⟩
  rcases h.2 with ⟨h1, h2⟩ | ⟨g, cap, cur, h1, _, hcur, _, _, hsz, htk⟩
  · omega
  · simp only [Value.slice.injEq] at h1
    obtain ⟨rfl, _, rfl⟩ := h1
    refine ⟨_, rfl, fun j hj => ?_⟩
    have := txt_cells hcur htk j hj
    rw [show (Addr.add ⟨g, 0, none⟩ j : Addr) = ⟨g, j, none⟩ by unfold Addr.add; by_cases h0 : j = 0 <;> simp [h0]]
    exact this
end Go.Proofs.YtladbjlkkjcfnaaLg
namespace Go.Proofs.YtladbjlkkjcfnaaLg
open Go.RowKit Go.Proofs.YtladbjlkkjcfnaaW.PrintWords Go.Proofs.YtladbjlkkjcfnaaW.PrintMore Go.Proofs.Ytladbjlkkjcfnaa.PU Go.Proofs.YtladbjlkkjcfnaaOc Go.Proofs.YtladbjlkkjcfnaaKp Go.Proofs.YtladbjlkkjcfnaaCm Go.Proofs.YtladbjlkkjcfnaaDk
set_option linter.unusedVariables false
set_option linter.unusedSimpArgs false
variable {w0 w w1 : World} {p l : Nat} {D D' : Dm} {L L' : Lm} {B : List (Nat × Obj)} {R AH : List ByteArray} {nv av : Value}
/-- so many records' pieces are synced -/
def Sure (R : List ByteArray) (S n : Nat) : Prop := n ≤ R.length ∧ ((R.take n).flatMap pk).length ≤ S
def L00 : Lm := ⟨3, 30, 0, false, 0, []⟩
def St0 (D : Dm) (L : Lm) (R AH : List ByteArray) (sure i : Nat) : Prop := (i = 0 ∧ D = newD 40 ∧ L = L00 ∧ R = [] ∧ AH = [] ∧ sure = 0) ∨ ∃ G S c, G ≤ (i : Int) ∧ WS D L G R S c 30 AH ∧ Sure R S sure
def Rdy (D : Dm) (L : Lm) (R AH : List ByteArray) (i : Nat) : Prop := (i = 0 ∧ D = newD 40 ∧ L = L00 ∧ R = [] ∧ AH = []) ∨ ∃ G S, G ≤ (i : Int) ∧ WS D L G R S 0 30 AH
theorem WS.norm {G : Int} {S c k : Nat} (h : WS D L G R S c k AH) : WS D L G R S c 30 AH := by
  refine ⟨⟨h.hl.on, h.hl.room, h.hl.fset, h.hl.fn, ?_⟩, h.wr, h.q, h.sc, h.lg⟩
  have h1 : D.q.length = c := by rw [h.q]; simp [que]
  have := h.sc
  have := h.wr.fit
  omega
theorem WS.dok {G : Int} {S c : Nat} (h : WS D L G R S c 30 AH) : DOk D := h.hl.ok (by omega)
theorem WS.lok {G : Int} {S c k : Nat} (h : WS D L G R S c k AH) : LOk L := by
  have h1 := h.wr.g1
  have h2 := h.wr.g2
  have h3 := h.wr.fit
  have h4 : R.length ≤ (R.flatMap pk).length := by
    clear h h1 h2 h3
    induction R with
    | nil => simp
    | cons r R ih =>
      have := pk_pos r
      rw [List.flatMap_cons, List.length_append, List.length_cons]
      omega
  rw [h.lg]
  exact ⟨by simp, by simp, by simp, by simp, by simp only; omega, by simp only; omega, by simp only; omega, by simp only; omega, by simp only; omega⟩
theorem WS.rlen {G : Int} {S c k : Nat} (h : WS D L G R S c k AH) : R.length ≤ 65536 := by
  have := h.lok.rc
  rw [h.lg] at this
  exact this
theorem St0.sync {sure i : Nat} (h : St0 D L R AH sure i) : syncE D = 0 ∧ DOk D ∧ Rdy (syncD D) L R AH i := by
  rcases h with ⟨rfl, rfl, rfl, rfl, rfl, rfl⟩ | ⟨G, S, c, h1, h2, h3⟩
  · exact ⟨rfl, (new_hl 40).ok (by omega), .inl ⟨rfl, rfl, rfl, rfl, rfl⟩⟩
  · obtain ⟨e, hs⟩ := h2.sync
    exact ⟨e, h2.dok, .inr ⟨G, _, h1, hs.norm⟩⟩
theorem Rdy.reset {i : Nat} (h : Rdy D L R AH i) (hi : i ≤ 4) : LOk L ∧ D.on = true ∧ L.gen < 4294967295 ∧ ∃ G, G ≤ (i : Int) + 1 ∧ WS D (resetL L) G [] 0 0 30 (nextA R AH) := by
  rcases h with ⟨rfl, rfl, rfl, rfl, rfl⟩ | ⟨G, S, h1, h2⟩
  · exact ⟨⟨by decide, by decide, by decide, by decide, by decide, by decide, by decide, by decide, by decide⟩, rfl, by decide, 1, by omega, WS.start.norm⟩
  · refine ⟨h2.lok, h2.hl.on, ?_, G + 1, by omega, (h2.reset (by omega)).norm⟩
    rw [h2.lg]
    show G < _
    omega
def OS (w0 w : World) (p l : Nat) (nv av : Value) (sure i : Nat) : Prop := ∃ R AH D L, LW w0 w p l D L R AH nv av ∧ St0 D L R AH sure i
def IS (w0 w : World) (p l : Nat) (nv av : Value) (sure i : Nat) : Prop := ∃ R AH D L G S c, LW w0 w p l D L R AH nv av ∧ G ≤ (i : Int) + 1 ∧ WS D L G R S c 30 AH ∧ Sure R S sure
theorem IS.out {sure i : Nat} (h : IS w0 w p l nv av sure i) : OS w0 w p l nv av sure (i + 1) := by
  obtain ⟨R, AH, D, L, G, S, c, h1, h2, h3, h4⟩ := h
  exact ⟨R, AH, D, L, h1, .inr ⟨G, S, c, by omega, h3, h4⟩⟩
theorem w_Sync (h : LW w0 w p l D L R AH nv av) (hok : DOk D) (he : syncE D = 0) : Calls Try.prog 14 #[.pointer (some ⟨l, 0, none⟩)] w fun e w' => e = .returned (.int .i64 0) ∧ LW w0 w' p l (syncD D) L R AH nv av := by
  have := h.lift fun B hB => l_Sync hB hok
  rwa [he] at this
theorem w_Reset (h : LW w0 w p l D L R AH nv av) (hL : LOk L) (ho : D.on = true) (hg : L.gen < 4294967295) : Calls Try.prog 9 #[.pointer (some ⟨l, 0, none⟩)] w fun e w' => e = .returned (.int .i64 0) ∧ LW w0 w' p l D (resetL L) R AH nv av :=
  h.lift fun B hB => l_Reset hB hL ho hg
theorem w_alive (h : LW w0 w p l D L R AH nv av) : Calls Try.prog 6 #[] w fun e w' => e = .returned (.bool true) ∧ LW w0 w' p l D L R AH nv av :=
  h.lift fun B hB => l_alive hB
theorem w_App {G : Int} {S c : Nat} (h : LW w0 w p l D L R AH nv av) (hW : WS D L G R S c 30 AH) (rec : ByteArray) (hs : rec.size ≤ 1000000) (hf : (R.flatMap pk).length + (pcs rec).length ≤ 30) :
    Calls Try.prog 11 #[.pointer (some ⟨l, 0, none⟩), .string rec] w fun e w' => e = .returned (.int .i64 0) ∧ ∃ D' L' c', LW w0 w' p l D' L' R AH nv av ∧ WS D' L' G (R ++ [rec]) S c' 30 AH := by
  have hl := hW.lg
  have h40 := hW.wr.len
  have := h.lift fun B hB => l_Append hB hW.lok rec hs (by rw [hl]) (by rw [hl]; simp only; omega) hW.hl (by omega) (by rw [hl, h40]; simp) (by omega)
  exact this.mono fun e w' ⟨he, h'⟩ => ⟨he, _, _, _, h', (hW.app rec hf).norm⟩
theorem w_App_full {G : Int} {S c : Nat} (h : LW w0 w p l D L R AH nv av) (hW : WS D L G R S c 30 AH) (rec : ByteArray) (hs : rec.size ≤ 1000000) (hf : 30 < (R.flatMap pk).length + (pcs rec).length) :
    Calls Try.prog 11 #[.pointer (some ⟨l, 0, none⟩), .string rec] w fun e w' => e = .returned (.int .i64 83) ∧ LW w0 w' p l D L R AH nv av := by
  have hl := hW.lg
  exact h.lift fun B hB => l_Append_full hB hW.lok rec (by omega) (by rw [hl]) (by rw [hl]; simp only; omega)
/-- behind Sync all records of now are sure -/
theorem WS.allsure {G : Int} {S c : Nat} (h : WS D L G R S c 30 AH) : syncE D = 0 ∧ DOk D ∧ WS (syncD D) L G R (S + c) 0 30 AH ∧ Sure R (S + c) R.length := by
  obtain ⟨e, hs⟩ := h.sync
  exact ⟨e, h.dok, hs.norm, Nat.le_refl _, by rw [List.take_length, h.sc]; exact Nat.le_refl _⟩
theorem Sure.snoc {S n : Nat} (h : Sure R S n) (x : ByteArray) : Sure (R ++ [x]) S n := by
  refine ⟨by have := h.1; simp; omega, ?_⟩
  rw [List.take_append_of_le_length h.1]
  exact h.2
theorem LW.b (h : LW w0 w p l D L R AH nv av) (k : Below w.heap.size w w1) : LW w0 w1 p l D L R AH nv av := by
  obtain ⟨nb, ab, h1, h2⟩ := h
  exact ⟨nb, ab, h1.b k, h2⟩
theorem IS.below {sure i : Nat} (h : IS w0 w p l nv av sure i) : Below w0.heap.size w0 w := by
  obtain ⟨R, AH, D, L, G, S, c, h1, _⟩ := h
  exact h1.below
theorem w_Crash (h : LW w0 w p l D L R AH nv av) (keep torn : Int) : Calls Try.prog 16 #[.pointer (some ⟨p, 0, none⟩), .int .i64 keep, .int .i64 torn] w fun e w' => e = .returned (.tuple #[]) ∧ LW w0 w' p l (crashS D keep torn) L R AH nv av :=
  h.lift fun B hB => hB.dop fun g m qv hd => c_Crash hd keep torn
theorem w_Restore (h : LW w0 w p l D L R AH nv av) : Calls Try.prog 17 #[.pointer (some ⟨p, 0, none⟩)] w fun e w' => e = .returned (.tuple #[]) ∧ LW w0 w' p l { D with on := true } L R AH nv av :=
  h.lift fun B hB => hB.dop fun g m qv hd => (c_Restore hd).mono fun e w' ⟨he, hd', hk⟩ => ⟨he, m, qv, hd', hk.mono (fun i _ e => .inl e), Moved.refl _ _ _⟩
theorem w_Open (h : LW w0 w p l D L R AH nv av) (hon : D.on = true) (h40 : D.secs.length = 40) : Calls Try.prog 8 #[.pointer (some ⟨p, 0, none⟩), .int .i64 3, .int .i64 30] w fun e w' => ∃ m, e = .returned (.tuple #[.pointer (some ⟨m, 0, none⟩), .int .i64 0]) ∧ LW w0 w' p m D (openL D 3 30) R AH nv av := by
  obtain ⟨nb, ab, h1, h2⟩ := h
  have h3 := l_Open h1.ds hon 3 30 (by omega) (by omega) (by omega)
  rw [show ((3 : Nat) : Int) = 3 from rfl, show ((30 : Nat) : Int) = 30 from rfl] at h3
  refine h3.mono ?_
  rintro e w' ⟨m, he, h'⟩
  exact ⟨m, he, nb, ab, h', h2⟩
theorem open_few (D : Dm) : (openL D 3 30).recs.length ≤ 30 := by
  unfold openL
  dsimp only
  split
  · exact (scI_bounds _ _ 30).2.1
  · exact Nat.zero_le _
/-- behind Records: the rows that are compared -/
def TS (w0 w : World) (p l : Nat) (R AH : List ByteArray) (nv av : Value) (A : Option Addr) (x : List ByteArray) : Prop := (∃ D L, LW w0 w p l D L R AH nv av) ∧ Kd.C Kd.string w A x.length x
theorem w_Records (h : LW w0 w p l D L R AH nv av) (hl : L.recs.length ≤ 65536) {x : List ByteArray} (hx : L.recs = x) : Calls Try.prog 12 #[.pointer (some ⟨l, 0, none⟩)] w fun e w' => ∃ A c, e = .returned (.slice A x.length c) ∧ x.length ≤ c ∧ TS w0 w' p l R AH nv av A x := by
  subst hx
  obtain ⟨nb, ab, h1, h2⟩ := id h
  refine (l_RecordsR h1 hl).mono fun e w' ⟨A, c, he, ho, hb⟩ => ⟨A, c, he, ?_, ⟨D, L, h.b hb⟩, C_own ho (by omega)⟩
  rcases ho.2 with ⟨h1, h2⟩ | ⟨g, cap, cur, h1, _, _, hn, _⟩
  · simp only [Value.slice.injEq] at h1
    omega
  · simp only [Value.slice.injEq] at h1
    obtain ⟨_, _, rfl⟩ := h1
    exact hn
theorem TS.b {A : Option Addr} {x : List ByteArray} (h : TS w0 w p l R AH nv av A x) (k : Below w.heap.size w w1) : TS w0 w1 p l R AH nv av A x := by
  obtain ⟨⟨D, L, h1⟩, h2⟩ := h
  exact ⟨⟨D, L, h1.b k⟩, Kd.C_below h2 k⟩
theorem TS.below {A : Option Addr} {x : List ByteArray} (h : TS w0 w p l R AH nv av A x) : Below w0.heap.size w0 w := by
  obtain ⟨⟨D, L, h1⟩, _⟩ := h
  exact h1.below
theorem TS.now {A nA : Option Addr} {nc : Nat} {x : List ByteArray} (h : TS w0 w p l R AH (.slice nA R.length nc) av A x) (hR : R.length ≤ 65536) : Kd.C Kd.string w nA R.length R := by
  obtain ⟨⟨D, L, nb, ab, h1, h2, _⟩, _⟩ := h
  exact C_own (h2.own (fun y hy => h1.at (List.mem_append_left _ hy))) (by omega)
theorem RowB.few {v : Value} {xs : List ByteArray} {b : List (Nat × Obj)} (h : RowB v xs b) : xs.length ≤ 9223372036854775807 := by
  rcases h with ⟨_, rfl, _⟩ | ⟨g, cap, cur, _, _, h1, h2, _⟩
  · simp
  · unfold maxLen at h2
    omega
theorem TS.ahead {A nA : Option Addr} {nc : Nat} {x : List ByteArray} (h : TS w0 w p l R AH nv (.slice nA AH.length nc) A x) : Kd.C Kd.string w nA AH.length AH := by
  obtain ⟨⟨D, L, nb, ab, h1, _, h3, _⟩, _⟩ := h
  exact C_own (h3.own (fun y hy => h1.at (List.mem_append_right _ hy))) h3.few
theorem LW.forms (h : LW w0 w p l D L R AH nv av) : (∃ A c, nv = .slice A R.length c ∧ R.length ≤ c) ∧ ∃ A c, av = .slice A AH.length c ∧ AH.length ≤ c := by
  obtain ⟨_, _, _, h2, h3, _⟩ := h
  exact ⟨h2.form, h3.form⟩
/-- what is found, in the law's cases -/
theorem St0.found {sure i : Nat} (h : St0 D L R AH sure i) (hi : i ≠ 0) (keep torn : Int) : (crashS D keep torn).secs.length = 40 ∧ R.length ≤ 65536 ∧ sure ≤ R.length ∧ ∃ x, (openL { crashS D keep torn with on := true } 3 30).recs = x ∧
    ((sure = 0 ∧ x = AH) ∨ (R ≠ [] ∧ ∃ j, sure ≤ j ∧ j ≤ R.length ∧ x = R.take j)) := by
  rcases h with ⟨h0, _⟩ | ⟨G, S, c, h1, h2, h3⟩
  · exact absurd h0 hi
  · have hl : (crashS D keep torn).secs.length = 40 := by
      unfold crashS
      rw [if_pos h2.hl.on]
      show (crashSecs D _ _).length = 40
      unfold crashSecs
      split
      · rw [tornS, List.length_set, layK_length]; exact h2.wr.len
      · rw [layK_length]; exact h2.wr.len
    obtain ⟨x, hx, hc⟩ := whole h2 keep torn
    refine ⟨hl, h2.rlen, h3.1, x, hx, ?_⟩
    rcases hc with ⟨hS, he⟩ | ⟨hR, j, hj, he, hall⟩
    · refine .inl ⟨?_, he⟩
      have h4 := h3.2
      rw [hS] at h4
      rcases Nat.eq_zero_or_pos sure with h5 | h5
      · exact h5
      · obtain ⟨r, R', rfl⟩ : ∃ r R', R = r :: R' := by
          cases R with
          | nil => have := h3.1; simp at this; omega
          | cons r R' => exact ⟨r, R', rfl⟩
        obtain ⟨n, rfl⟩ : ∃ n, sure = n + 1 := ⟨sure - 1, by omega⟩
        rw [List.take_succ_cons, List.flatMap_cons, List.length_append] at h4
        have := pk_pos r
        omega
    · exact .inr ⟨hR, j, hall sure h3.1 h3.2, hj, he⟩
end Go.Proofs.YtladbjlkkjcfnaaLg
