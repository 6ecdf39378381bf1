/-
  wal: form, pieces, generation as plain functions, and their contracts. Condition: a piece of at most 48 bytes.
-/
import Derived.Test.YtladbjlkkjcfnaaLgA
import Derived.Test.YtladbjlkkjcfnaaShf
import Derived.Test.YtladbjlkkjcfnaaDkK
import Derived.Deep.RegionWith
namespace Go.Proofs.YtladbjlkkjcfnaaLg
open Go.RowKit Go.Proofs.YtladbjlkkjcfnaaW.PrintWords Go.Proofs.YtladbjlkkjcfnaaW.PrintMore Go.Proofs.Ytladbjlkkjcfnaa.PU Go.Proofs.YtladbjlkkjcfnaaOc Go.Proofs.YtladbjlkkjcfnaaKp Go.Proofs.YtladbjlkkjcfnaaCm
set_option linter.unusedVariables false
set_option linter.unusedSimpArgs false
theorem bcell_ {W w1 : World} (hb : Below W.heap.size W w1) : ∀ b o, b < W.heap.size → w1.cell? ⟨b, o, none⟩ = W.cell? ⟨b, o, none⟩ := fun _ _ h => hb.cell h
theorem two_bytes (W : World) (n : Nat) (v : Int) (h : W.cell? ⟨n, 0, none⟩ = some (.int .u8 v)) (h1 : W.cell? ⟨n, 1, none⟩ = some (.int .u8 0)) : (convert 31 9 (.slice (some ⟨n, 0, none⟩) 2 2)).run Try.prog W = .ok (.string (strOfNums [v, 0])) W :=
  string_of_reads Try.underlying31 Try.underlying5 Try.underlying9 ⟨rfl, by omega, fun _ => ⟨_, rfl, fun j hj => by
    match j, hj with
    | 0, _ => simpa [Addr.add] using h
    | 1, _ => simpa [Addr.add] using h1⟩⟩
/-- k bytes of zero -/
def zeros (k : Nat) : ByteArray := ⟨(List.replicate k 0).toArray⟩
theorem c_Repeat0 (k : Nat) (hk : k ≤ 48) (w : World) : Calls Try.prog 36 #[.string ⟨#[0]⟩, .int .i64 k] w fun e w' => e = .returned (.string (zeros k)) ∧ Below w.heap.size w w' := by
  have h := Try.strings_Repeat ⟨#[0]⟩ k w (by omega) (by show 1 * k ≤ _; omega)
  have e : Lib.repeatL (⟨#[0]⟩ : ByteArray).data.toList k = List.replicate k 0 := by
    have := Lib.repeatL_replicate 0 1 k
    rwa [Nat.mul_one] at this
  rw [e] at h
  exact h
theorem zeros_size (k : Nat) : (zeros k).size = k := by
  show (List.replicate k (0 : UInt8)).toArray.size = k
  simp
theorem putS_size (v n : Int) : (putS v n).1.size ≤ 7 := by
  unfold putS
  split
  · exact Nat.zero_le _
  · rw [strOfNums_size, beL_length]
    omega
theorem fin1 {w w3 w4 : World} {o : Obj} (h : Below w.heap.size w w3) (k : Below w3.drew.heap.size w3.drew w4) : Below w.heap.size w (w4.alloc o) := by
  have e : Below w3.drew.heap.size w3 w4 := ⟨k.os, k.tape, k.output, k.size, k.block⟩
  exact h.trans ((e.alloc k.size o).mono h.size)
theorem fin2 {w w3 w4 : World} {o : Obj} (h : Below w.heap.size w w3) (k : Below (w3.alloc o).drew.heap.size (w3.alloc o).drew w4) : Below w.heap.size w w4 := by
  have e : Below (w3.alloc o).heap.size (w3.alloc o) w4 := ⟨k.os, k.tape, k.output, k.size, k.block⟩
  have h1 : Below w.heap.size w (w3.alloc o) := h.alloc h.size o
  exact h1.trans (e.mono h1.size)
def formS (s : ByteArray) (kind gen place : Int) : ByteArray := (putS gen 4).1 ++ (putS (s.size : Int) 2).1 ++ strOfNums [kind, 0] ++ s ++ zeros (48 - s.size) ++ (putS place 4).1 ++ (putS gen 4).1
set_option maxRecDepth 100000 in
set_option maxHeartbeats 2000000 in
theorem c_form (s : ByteArray) (kind gen place : Int) (hs : s.size ≤ 48) (hk : 0 ≤ kind ∧ kind ≤ 255) (w : World) :
    Calls Try.prog 27 #[.string s, .int .i64 kind, .int .i64 gen, .int .i64 place] w fun e w' => e = .returned (.string (formS s kind gen place)) ∧ Below w.heap.size w w' := by
  obtain ⟨g, hg⟩ : ∃ g, g = putS gen 4 := ⟨_, rfl⟩
  obtain ⟨z, hz⟩ : ∃ z, z = putS (s.size : Int) 2 := ⟨_, rfl⟩
  obtain ⟨a, ha⟩ : ∃ a, a = putS place 4 := ⟨_, rfl⟩
  have k1 := c_Put gen 4
  have k2 := c_Put (s.size : Int) 2
  have k3 := c_Put place 4
  rw [← hg] at k1
  rw [← hz] at k2
  rw [← ha] at k3
  replace k1 := Lib.hid k1
  replace k2 := Lib.hid k2
  replace k3 := Lib.hid k3
  have kr := Lib.hid (c_Repeat0 (48 - s.size) (by omega))
  have hF : formS s kind gen place = g.1 ++ z.1 ++ strOfNums [kind, 0] ++ s ++ zeros (48 - s.size) ++ a.1 ++ g.1 := by rw [formS, ← hg, ← hz, ← ha]
  rw [hF]
  obtain ⟨S2, hS2⟩ : ∃ S, S = strOfNums [kind, 0] := ⟨_, rfl⟩
  rw [← hS2]
  have hcv : ∀ (W : World) (n : Nat), W.cell? ⟨n, 0, none⟩ = some (.int .u8 kind) → W.cell? ⟨n, 1, none⟩ = some (.int .u8 0) → (convert 31 9 (.slice (some ⟨n, 0, none⟩) 2 2)).run Try.prog W = .ok (.string S2) W := fun W n h h1 => by rw [hS2]; exact two_bytes W n kind h h1
  have hkm : IntKind.u8.wrap kind = kind := by
    have : IntKind.u8.wrap kind = kind % 256 := by simp [IntKind.wrap, IntKind.bits, IntKind.signed]
    omega
  have hsub : IntKind.i64.wrap (48 - (s.size : Int)) = ((48 - s.size : Nat) : Int) := by rw [IntKind.wrap_i64]; omega
  have s1 : g.1.size ≤ 7 := by rw [hg]; exact putS_size _ _
  have s2 : z.1.size ≤ 7 := by rw [hz]; exact putS_size _ _
  have s3 : a.1.size ≤ 7 := by rw [ha]; exact putS_size _ _
  have s4 : S2.size = 2 := by rw [hS2, strOfNums_size]; rfl
  obtain ⟨Z, hZ⟩ : ∃ Z, Z = zeros (48 - s.size) := ⟨_, rfl⟩
  have s5 : Z.size ≤ 48 := by rw [hZ, zeros_size]; omega
  rw [← hZ] at kr ⊢
  obtain ⟨g1, g2⟩ := g
  obtain ⟨z1, z2⟩ := z
  obtain ⟨a1, a2⟩ := a
  simp only at s1 s2 s3
  have n1 : ¬ (9223372036854775807 < g1.size + z1.size) := by omega
  have n2 : ¬ (9223372036854775807 < g1.size + z1.size + 2) := by omega
  have n3 : ¬ (9223372036854775807 < g1.size + z1.size + 2 + s.size) := by omega
  have n4 : ¬ (9223372036854775807 < g1.size + z1.size + 2 + s.size + Z.size) := by omega
  have n5 : ¬ (9223372036854775807 < g1.size + z1.size + 2 + s.size + Z.size + a1.size) := by omega
  have n6 : ¬ (9223372036854775807 < g1.size + z1.size + 2 + s.size + Z.size + a1.size + g1.size) := by omega
  clear hg hz ha hF hS2 hk hZ s1 s2 s3 s5
  go_enter Try.func27, Try.ntmps27
  go_upto_region 4 with (first
    | (go_at_call 35; with_reducible refine (k1.out _).mono ?_; rintro e w1 ⟨rfl, hb1⟩)
    | (go_at_call 35; with_reducible refine (k2.out _).mono ?_; rintro e w2 ⟨rfl, hb2⟩)
    | (go_at_call 35; with_reducible refine (k3.out _).mono ?_; rintro e w3 ⟨rfl, hb3⟩))
  have HB := Lib.hid ((hb1.trans (hb2.mono hb1.size)).trans (hb3.mono (hb1.trans (hb2.mono hb1.size)).size))
  clear hb1 hb2 hb3
  go_region_with (go_at_call 36; refine (kr.out _).mono ?_; rintro e w4 ⟨rfl, hb4⟩; have hcc := bcell_ hb4; have HB4 := Lib.hid hb4; clear hb4)
  all_goals
    go_wp2_with fail
    go_ret
    refine ⟨rfl, ?_⟩
    first
      | exact fin1 HB.out HB4.out
      | exact fin2 HB.out HB4.out
end Go.Proofs.YtladbjlkkjcfnaaLg
