/-
  vdisk: the map of last places, as the queue tells it. Condition: none.
-/
import Derived.Test.YtladbjlkkjcfnaaDkA
namespace Go.Proofs.YtladbjlkkjcfnaaDk
open Go.RowKit Go.Maps Go.Proofs.YtladbjlkkjcfnaaKp
/-- the last write's place, the queue from its end -/
def lastOf : List (Int × List Int) → Int → Option Nat
  | [], _ => none
  | x :: r, a => if x.1 = a then some r.length else lastOf r a
theorem lastR_isMap : ∀ r : List (Int × List Int), IsMap (lastR r)
  | [] => ⟨[], rfl⟩
  | x :: r => by
    obtain ⟨es, h⟩ := lastR_isMap r
    simp only [lastR, h]
    exact ⟨_, rfl⟩
theorem lastR_has (a : Int) (hk : WideAt.IsKeyLit (.int .i64 a)) : ∀ r : List (Int × List Int), Maps.has (lastR r) (.int .i64 a) = (lastOf r a).isSome
  | [] => rfl
  | x :: r => by
    simp only [lastR, lastOf]
    by_cases h : x.1 = a
    · subst h
      rw [has_put_same (lastR_isMap r) hk, if_pos rfl]
      rfl
    · rw [has_put_other (by intro e; injection e with _ e; exact h e.symm), if_neg h, lastR_has a hk r]
theorem lastR_at (a : Int) (hk : WideAt.IsKeyLit (.int .i64 a)) : ∀ (r : List (Int × List Int)) (n : Nat), lastOf r a = some n → ∀ z, (lastR r).atKey (.int .i64 a) z = .lit (.int .i64 n)
  | [], _, h, _ => by cases h
  | x :: r, n, h, z => by
    simp only [lastR, lastOf] at h ⊢
    by_cases e : x.1 = a
    · subst e
      rw [if_pos rfl] at h
      obtain rfl := Option.some.inj h
      rw [atKey_put_same (lastR_isMap r) hk]
    · rw [if_neg e] at h
      rw [atKey_put_other (by intro e'; injection e' with _ e'; exact e e'.symm), lastR_at a hk r n h z]
theorem lastOf_get (a : Int) : ∀ (r : List (Int × List Int)) (n : Nat), lastOf r a = some n → n < r.length ∧ ∃ d, r.reverse[n]? = some (a, d)
  | [], _, h => by cases h
  | x :: r, n, h => by
    simp only [lastOf] at h
    by_cases e : x.1 = a
    · rw [if_pos e] at h
      obtain rfl := Option.some.inj h
      refine ⟨by simp, x.2, ?_⟩
      rw [List.reverse_cons, List.getElem?_append_right (by simp), List.length_reverse, Nat.sub_self, ← e]
      rfl
    · rw [if_neg e] at h
      obtain ⟨h1, d, h2⟩ := lastOf_get a r n h
      refine ⟨by simp; omega, d, ?_⟩
      rw [List.reverse_cons, List.getElem?_append_left (by simpa using h1)]
      exact h2
/-- what a sector reads as -/
def readM (D : Dm) (i : Nat) : Option (List Int) := match lastOf D.q.reverse i with
  | some n => (D.q[n]?).map (·.2)
  | none => D.secs[i]?
end Go.Proofs.YtladbjlkkjcfnaaDk
