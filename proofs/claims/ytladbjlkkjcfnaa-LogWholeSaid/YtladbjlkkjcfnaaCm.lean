/-
  Small laws for walks: copy of a string at the list of a plain region's operations; a whole row in a new block. Condition: none.
-/
import Derived.Test.YtladbjlkkjcfnaaKp
import Derived.Test.YtladbjlkkjcfnaaChecked
import Derived.WalkKit
import Derived.OwnWalk
import Derived.Lib.LazyBuf
import Derived.Great.BuildSlice
import Derived.Maps.AppendAt
import Derived.Laws.AppendOwnNone
import Derived.Laws.BitsLemmas
namespace Go.Proofs.YtladbjlkkjcfnaaCm
open Go.RowKit Go.Proofs.YtladbjlkkjcfnaaKp
set_option linter.unusedVariables false
set_option linter.unusedSimpArgs false
theorem wpList_copy_string {P : Program} {w : World} {ops : Array Oper} {rest : List Oper} {o : Oper} {a : Act} {Q : Exit → Act → World → Prop} (hgd : o.guard = none) (d x : Operand) (dT sT : TypeId)
    (ho : o.op = .call { callee := .builtin .copy, args := #[d, x], argTypes := #[dT, sT] }) (elem : TypeId) (hu : P.underlying dT = some (.slice elem)) (hz : ∀ w, (Go.sizeOf elem).run P w = .ok 1 w)
    (b off dLen dCap : Nat) (hd : a.eval d = .slice (some ⟨b, off, none⟩) dLen dCap) (t : ByteArray) (hx : a.eval x = .string t) (hle : t.size ≤ dLen)
    (ht : w.there b off t.size)
    (h : wpList P ops Q rest (a.put o.dst (goInt t.size)) (w.setCells b off (t.data.toList.map fun x => Value.int .u8 (x.toNat : Int)))) : wpList P ops Q (o :: rest) a w := by
  refine wpList_plain hgd fun K hK => ?_
  have hrun := run_copy_string (P := P) w dT sT o.type elem b off dLen dCap t hu hz hle (fun j hj => (ht j hj).1) (fun j hj => (ht j hj).2)
  unfold Oper.wp
  simp [execOp, ho, resolve, invoke, builtin, hd, hx, hrun, Result.andThen]
  exact hK _ _ h
theorem wpList_copy_cells {P : Program} {w : World} {ops : Array Oper} {rest : List Oper} {o : Oper} {a : Act} {Q : Exit → Act → World → Prop} (hgd : o.guard = none) (d x : Operand) (dT sT : TypeId)
    (ho : o.op = .call { callee := .builtin .copy, args := #[d, x], argTypes := #[dT, sT] }) (elem : TypeId) (hu : P.underlying dT = some (.slice elem)) (hsz : (P.info? elem).map (·.size) = some 1)
    (b off dLen dCap : Nat) (hd : a.eval d = .slice (some ⟨b, off, none⟩) dLen dCap) (ad : Addr) (sLen sCap : Nat) (hx : a.eval x = .slice (some ad) sLen sCap) (cs : List Value) (hn : cs.length = Nat.min sLen dLen)
    (hsrc : ∀ j v, cs[j]? = some v → w.cell? (ad.add j) = some v) (ht : w.there b off cs.length) (h1 : ∀ v ∈ cs, v.oneCell' = true)
    (h : wpList P ops Q rest (a.put o.dst (goInt cs.length)) (w.setCells b off cs)) : wpList P ops Q (o :: rest) a w := by
  refine wpList_plain hgd fun K hK => ?_
  have hrun := run_copy_cells (P := P) w dT sT o.type elem b off dLen dCap ad sLen sCap cs hu hsz hn hsrc (fun j hj => (ht j hj).1) (fun j hj => (ht j hj).2) h1
  unfold Oper.wp
  simp [execOp, ho, resolve, invoke, builtin, hd, hx, hrun, Result.andThen]
  exact hK _ _ h
theorem list_set_fold : ∀ (L : List Value) (k : Nat) (Pr R : List Value), Pr.length = k → R.length = L.length →
    (L.zipIdx k).foldl (fun (a : Array Value) (x : Value × Nat) => a.setIfInBounds (0 + x.2) x.1) (Pr ++ R).toArray = (Pr ++ L).toArray
  | [], k, Pr, R, _, hR => by
    obtain rfl : R = [] := List.eq_nil_of_length_eq_zero hR
    rfl
  | v :: L, k, Pr, [], _, hR => by cases hR
  | v :: L, k, Pr, r :: R, hP, hR => by
    rw [List.zipIdx_cons, List.foldl_cons]
    have e : (Pr ++ r :: R).toArray.setIfInBounds (0 + k) v = ((Pr ++ [v]) ++ R).toArray := by
      rw [Nat.zero_add, List.setIfInBounds_toArray, List.set_append_right _ _ (by omega), hP, Nat.sub_self, List.set_cons_zero, List.append_assoc]
      rfl
    simp only [e]
    rw [list_set_fold L (k + 1) (Pr ++ [v]) R (by simp [hP]) (by simpa using hR), List.append_assoc]
    rfl
theorem fill_one (n : Nat) (Z cs : Array Value) (hc : cs.size = n) (hZ : Z.size = n) : Instr.fill (fun i => some (i * n, n)) Z [(0, .agg cs)] = some cs := by
  have h1 : (Value.agg cs).cells = cs := rfl
  have h2 : (cs.zipIdx.foldl (fun (a : Array Value) (x : Value × Nat) => a.setIfInBounds (0 + x.2) x.1) Z) = cs := by
    have := list_set_fold cs.toList 0 [] Z.toList rfl (by simp [hc, hZ])
    simp only [List.nil_append, Array.toArray_toList] at this
    rw [← Array.foldl_toList, Array.toList_zipIdx]
    exact this
  simp only [Instr.fill, h1, Nat.zero_mul]
  rw [if_neg (by simp [hc, hZ])]
  simp only [h2]
/-- a slice literal of one element that is an aggregate -/
theorem run_buildSlice_one {P : Program} (w : World) (t e : TypeId) (cs z : Array Value) (hu : P.underlying t = some (.slice e)) (hi : (P.info? e).map (fun i => (i.zero, i.size)) = some (some (.agg z), cs.size)) (hz : z.size = cs.size) (hp : 0 < cs.size) (hsm : cs.size ≤ 1000) :
    (Instr.buildSlice t 1 #[(0, .agg cs)]).run P w = .ok (.slice (some ⟨w.heap.size, 0, none⟩) 1 1) (w.alloc (.cells cs e)) := by
  cases hq : P.info? e with
  | none => simp [hq] at hi
  | some ie =>
    simp only [hq, Option.map_some, Option.some.injEq, Prod.mk.injEq] at hi
    refine run_buildSlice w t e 1 _ cs ie _ hu hq hi.1 (by rw [hi.2]; omega) (by rw [hi.2]; omega) ?_
    rw [hi.2]
    exact fill_one _ _ _ rfl (by simp)
/-! ### whole rows in the midst of a block, as the walk reads and writes them -/
/-- the n cells from offset o on -/
def readN (w : World) (b o n : Nat) : Array Value := ((List.range n).map fun j => (w.cell? ⟨b, o + j, none⟩).getD undef).toArray
/-- n cells are there -/
def hasN (w : World) (b o n : Nat) : Bool := (List.range n).all fun j => (w.cell? ⟨b, o + j, none⟩).isSome
/-- n cells are there, and may be written -/
def openN (w : World) (b o n : Nat) : Bool := (List.range n).all fun j => (w.cell? ⟨b, o + j, none⟩).isSome && !(w.frozen? ⟨b, o + j, none⟩)
theorem hasN_of {w : World} {b o n : Nat} {cs : List Value} (h : w.rangeAt b o cs) (hn : cs.length = n) : hasN w b o n = true := by
  unfold hasN
  rw [List.all_eq_true]
  intro j hj
  have hj := List.mem_range.1 hj
  rw [h j cs[j] (List.getElem?_eq_getElem (by omega))]
  rfl
theorem readN_of {w : World} {b o n : Nat} {cs : List Value} (h : w.rangeAt b o cs) (hn : cs.length = n) : readN w b o n = cs.toArray := by
  unfold readN
  congr 1
  apply List.ext_getElem?
  intro j
  rw [List.getElem?_map]
  rcases Nat.lt_or_ge j n with hj | hj
  · rw [List.getElem?_range hj, List.getElem?_eq_getElem (by omega), Option.map_some, h j cs[j] (List.getElem?_eq_getElem (by omega))]
    rfl
  · rw [List.getElem?_eq_none (by simpa using hj), List.getElem?_eq_none (by omega)]
    rfl
theorem openN_of {w : World} {b o n : Nat} (h : w.there b o n) : openN w b o n = true := by
  unfold openN
  rw [List.all_eq_true]
  intro j hj
  obtain ⟨h1, h2⟩ := h j (List.mem_range.1 hj)
  rw [h1, h2]
  rfl
theorem there_of {w : World} {b o n : Nat} (h : openN w b o n = true) : w.there b o n := by
  unfold openN at h
  rw [List.all_eq_true] at h
  intro j hj
  have := h j (List.mem_range.2 hj)
  simpa using this
theorem range_of {w : World} {b o n : Nat} (h : hasN w b o n = true) : w.rangeAt b o (readN w b o n).toList := by
  unfold hasN at h
  rw [List.all_eq_true] at h
  intro j v hv
  simp only [readN] at hv
  rw [List.getElem?_map] at hv
  rcases Nat.lt_or_ge j n with hj | hj
  · rw [List.getElem?_range hj, Option.map_some] at hv
    have := h j (List.mem_range.2 hj)
    obtain ⟨u, hu⟩ := Option.isSome_iff_exists.1 this
    rw [hu] at hv ⊢
    exact hv
  · rw [List.getElem?_eq_none (by simpa using hj)] at hv
    cases hv
theorem readN_length (w : World) (b o n : Nat) : (readN w b o n).toList.length = n := by simp [readN]
theorem run_loadN {P : Program} (w : World) (b o n : Nat) (ty : TypeId) (d : TypeDesc) (hu : P.underlying ty = some d) (hd : d.isRow = true) (hi : (P.info? ty).map (·.size) = some n) (h : hasN w b o n = true) :
    (Instr.loadAt ty (.pointer (some ⟨b, o, none⟩))).run P w = .ok (.agg (readN w b o n)) w := by
  have := run_loadAt_mid w b o ty _ d (range_of h) hu hd (by rw [readN_length]; exact hi)
  simpa using this
theorem run_storeN {P : Program} (w : World) (b o n : Nat) (ty : TypeId) (cs : Array Value) (hi : (P.info? ty).map (·.size) = some n) (h : openN w b o n = true) (hc : cs.size = n) (h1 : cs.all (·.oneCell') = true) :
    (Instr.storeAt ty (.pointer (some ⟨b, o, none⟩)) (.agg cs)).run P w = .ok () (w.setCells b o cs.toList) :=
  run_storeAt_mid w b o ty cs (by rw [hc]; exact there_of h) (by rw [hc]; exact hi) h1
/-- a load, a store of a whole row: closed to the walk, which goes by its law -/
def ldR (ty : TypeId) (v : Value) : Sem Value := Instr.loadAt ty v
def stR (ty : TypeId) (v x : Value) : Sem Unit := Instr.storeAt ty v x
theorem run_ldR {P : Program} (w : World) (b o n : Nat) (ty : TypeId) (d : TypeDesc) (hu : P.underlying ty = some d) (hd : d.isRow = true) (hi : (P.info? ty).map (·.size) = some n) (h : hasN w b o n = true) :
    (ldR ty (.pointer (some ⟨b, o, none⟩))).run P w = .ok (.agg (readN w b o n)) w := run_loadN w b o n ty d hu hd hi h
theorem run_stR {P : Program} (w : World) (b o n : Nat) (ty : TypeId) (cs : Array Value) (hi : (P.info? ty).map (·.size) = some n) (h : openN w b o n = true) (hc : cs.size = n) (h1 : cs.all (·.oneCell') = true) :
    (stR ty (.pointer (some ⟨b, o, none⟩)) (.agg cs)).run P w = .ok () (w.setCells b o cs.toList) := run_storeN w b o n ty cs hi h hc h1
def bsR (t : TypeId) (n : Nat) (parts : Array (Nat × Value)) : Sem Value := Instr.buildSlice t n parts
/-- the bytes of a string, as numbers -/
def bts (s : ByteArray) : List Int := s.data.toList.map fun x => (x.toNat : Int)
theorem bts_length (s : ByteArray) : (bts s).length = s.size := by rw [bts, List.length_map, Array.length_toList]; rfl
theorem strOfNums_bts (s : ByteArray) : strOfNums (bts s) = s := by
  apply ByteArray.ext
  rw [strOfNums, bts, List.map_map]
  show (List.map ((fun n => UInt8.ofNat n.toNat) ∘ fun x : UInt8 => (x.toNat : Int)) s.data.toList).toArray = s.data
  have : ((fun n : Int => UInt8.ofNat n.toNat) ∘ fun x : UInt8 => (x.toNat : Int)) = id := by
    funext u
    simp
  rw [this, List.map_id, Array.toArray_toList]
theorem bts_strOfNums (xs : List Int) (h : ∀ x ∈ xs, 0 ≤ x ∧ x ≤ 255) : bts (strOfNums xs) = xs := by
  have : (strOfNums xs).data.toList = xs.map fun n => UInt8.ofNat n.toNat := strOfNums_data xs
  rw [bts, this, List.map_map]
  conv => rhs; rw [← List.map_id xs]
  apply List.map_congr_left
  intro x hx
  obtain ⟨h1, h2⟩ := h x hx
  simp
  omega
theorem bts_range (s : ByteArray) : ∀ x ∈ bts s, 0 ≤ x ∧ x ≤ 255 := by
  intro x hx
  obtain ⟨u, _, rfl⟩ := List.mem_map.1 hx
  have := u.toNat_lt
  omega
/-! ### a window of bytes, as a string -/
def byteOf (v : Option Value) : Int := match v with
  | some (.int .u8 n) => n
  | _ => 0
def isByte (v : Option Value) : Bool := match v with
  | some (.int .u8 _) => true
  | _ => false
def strN (w : World) (b o n : Nat) : ByteArray := strOfNums ((List.range n).map fun j => byteOf (w.cell? ⟨b, o + j, none⟩))
def isStrN (w : World) (b o n : Nat) : Bool := (List.range n).all fun j => isByte (w.cell? ⟨b, o + j, none⟩)
theorem isStrN_of {w : World} {b o n : Nat} {xs : List Int} (h : w.rangeAt b o (xs.map (.int .u8))) (hn : xs.length = n) : isStrN w b o n = true := by
  unfold isStrN
  rw [List.all_eq_true]
  intro j hj
  have hj := List.mem_range.1 hj
  rw [h j (.int .u8 xs[j]) (by rw [List.getElem?_map, List.getElem?_eq_getElem (by omega)]; rfl)]
  rfl
theorem strN_of {w : World} {b o n : Nat} {xs : List Int} (h : w.rangeAt b o (xs.map (.int .u8))) (hn : xs.length = n) : strN w b o n = strOfNums xs := by
  unfold strN
  congr 1
  apply List.ext_getElem?
  intro j
  rw [List.getElem?_map]
  rcases Nat.lt_or_ge j n with hj | hj
  · rw [List.getElem?_range hj, Option.map_some, h j (.int .u8 xs[j]) (by rw [List.getElem?_map, List.getElem?_eq_getElem (by omega)]; rfl), List.getElem?_eq_getElem (by omega)]
    rfl
  · rw [List.getElem?_eq_none (by simpa using hj), List.getElem?_eq_none (by omega)]
    rfl
theorem run_cvN {P : Program} (w : World) (src e dst : TypeId) (hs : P.underlying src = some (.slice e)) (he : P.underlying e = some (.int .u8)) (hd : P.underlying dst = some .string) (b o n c : Nat) (h : isStrN w b o n = true) :
    (convert src dst (.slice (some ⟨b, o, none⟩) n c)).run P w = .ok (.string (strN w b o n)) w := by
  refine run_convert_bytes_arg w src e hs he b o n c _ (by simp) (fun i hi => ?_) dst hd
  unfold isStrN at h
  rw [List.all_eq_true] at h
  have := h i (List.mem_range.2 hi)
  rw [List.getD_eq_getElem?_getD, List.getElem?_map, List.getElem?_range hi, Option.map_some, Option.getD_some]
  revert this
  cases w.cell? ⟨b, o + i, none⟩ with
  | none => intro h; cases h
  | some v => cases v <;> simp [isByte, byteOf]; rename_i k n; cases k <;> simp
/-- append of a row that is owned, nil or not, onto one of the call's own -/
theorem wpList_append_row {P : Program} {w : World} {ops : Array Oper} {rest : List Oper} {o : Oper} {a : Act} {Q : Exit → Act → World → Prop} (hgd : o.guard = none) (s x : Operand) (t : TypeId)
    (ho : o.op = .call { callee := .builtin .append, args := #[s, x], argTypes := #[t, t] })
    (base : Nat) (e : TypeId) (i : TypeInfo) (z : Value) (size bytes : Nat) (ht : P.underlying t = some (.slice e)) (hi : P.info? e = some i) (hz : i.zero = some z)
    (hsize : i.size = size) (hby : i.bytes = bytes) (hzs : z.cells.size = size) (hsz : 0 < size)
    (v : Value) (n : Nat) (xs : List Value) (hs : a.eval s = v) (hown : w.ownsRow base e size v n xs)
    (qv : Value) (hx : a.eval x = qv) (base2 : Nat) (m : Nat) (news : List Value) (hown2 : w.ownsRow base2 e size qv m news) (h1 : ∀ u ∈ news, u.oneCell' = true)
    (h63 : n + m ≤ maxLen) (hbytes : (n + m) * bytes ≤ 140737488355328) (hbase : base ≤ w.heap.size)
    (h : ∀ v' w', w'.ownsRow base e size v' (n + m) (xs ++ news) → w.grownBy w' v.ownBlock → (v'.ownBlock = v.ownBlock ∨ v'.ownBlock = some w.heap.size) → wpList P ops Q rest (a.put o.dst v') w') :
    wpList P ops Q (o :: rest) a w := by
  rcases hown2.2 with ⟨e0, h0⟩ | ⟨b, cap, cur, e0, hbb, hcur, _⟩
  · subst h0
    have hn : news = [] := List.eq_nil_of_length_eq_zero (by have := hown2.1; omega)
    subst hn
    refine wpList_append_own_none hgd s x t ho base e i size ht hi v n xs hs hown (by rw [hx, e0]) ?_
    exact h v w (by simpa using hown) ⟨rfl, rfl, rfl, Nat.le_refl _, fun _ _ _ => rfl⟩ (.inl rfl)
  · refine wpList_append_own_at w hgd s x t ho base e i z size bytes ht hi hz hsize hby hzs hsz v n xs hs hown ⟨b, 0, none⟩ m cap news (by rw [hx, e0]) hown2.1 (hown2.cells (by rw [e0]; rfl)) h1 h63 hbytes hbase ?_
    intro v' w' a1 a2 _ a4
    exact h v' w' a1 a2 a4
theorem i64_and3 (n : Int) : bits .and .i64 n 3 = n % 4 := by
  have h3 : (BitVec.ofInt 64 3).toNat = 2 ^ 2 - 1 := by decide
  have key : (BitVec.ofInt 64 n &&& BitVec.ofInt 64 3).toNat = (n % ((2 ^ 64 : Nat) : Int)).toNat % 2 ^ 2 := by
    rw [BitVec.toNat_and, BitVec.toNat_ofInt, h3, Nat.and_two_pow_sub_one_eq_mod]
  show IntKind.i64.wrap ((BitVec.ofInt 64 n &&& BitVec.ofInt 64 3).toNat : Nat) = n % 4
  rw [key, IntKind.wrap_i64]
  omega
theorem i64_and7 (n : Int) : bits .and .i64 n 7 = n % 8 := by
  have h3 : (BitVec.ofInt 64 7).toNat = 2 ^ 3 - 1 := by decide
  have key : (BitVec.ofInt 64 n &&& BitVec.ofInt 64 7).toNat = (n % ((2 ^ 64 : Nat) : Int)).toNat % 2 ^ 3 := by
    rw [BitVec.toNat_and, BitVec.toNat_ofInt, h3, Nat.and_two_pow_sub_one_eq_mod]
  show IntKind.i64.wrap ((BitVec.ofInt 64 n &&& BitVec.ofInt 64 7).toNat : Nat) = n % 8
  rw [key, IntKind.wrap_i64]
  omega
end Go.Proofs.YtladbjlkkjcfnaaCm
