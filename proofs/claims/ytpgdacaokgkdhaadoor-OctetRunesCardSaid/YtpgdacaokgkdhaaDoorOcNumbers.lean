/-
  OctetNumbers: the law's call answers true at every two numbers and string. Condition: Go's two tables lie as laid; whole numbers of 64 bits; sizes as Go has them.
-/
import Derived.Test.YtpgdacaokgkdhaaDoorOcW
namespace Go.Proofs.YtpgdacaokgkdhaaDoorOc
open Go.RowKit Go.Proofs.YtpgdacaokgkdhaaDoorW.PrintWords Go.Proofs.YtpgdacaokgkdhaaDoorW.PrintMore Go.Proofs.YtpgdacaokgkdhaaDoor.PU

theorem bstep {w0 w w' : World} (h : Below w0.heap.size w0 w) (k : Below w.heap.size w w') : Below w0.heap.size w0 w' := h.trans (k.mono h.size)
set_option maxHeartbeats 1000000 in
theorem numbers_yes (v n : Int) (b s t : ByteArray) (e x g i j : Int) (w : World) (hT : Tabs w)
    (k1 : Hid (∀ W, Calls Tryd.prog 13 #[.int .i64 v, .int .i64 n] W fun e' w' => e' = .returned (.tuple #[.string s, .int .i64 e]) ∧ Below W.heap.size W w'))
    (k2 : Hid (∀ W, Calls Tryd.prog 14 #[.int .i64 v, .int .i64 n] W fun e' w' => e' = .returned (.tuple #[.string s, .int .i64 e]) ∧ Below W.heap.size W w'))
    (k3 : Hid (∀ W, Calls Tryd.prog 15 #[.string b] W fun e' w' => e' = .returned (.tuple #[.int .i64 x, .int .i64 g]) ∧ Below W.heap.size W w'))
    (k4 : Hid (∀ W, Calls Tryd.prog 16 #[.string b] W fun e' w' => e' = .returned (.tuple #[.int .i64 x, .int .i64 g]) ∧ Below W.heap.size W w'))
    (k5 : Hid (∀ W, Calls Tryd.prog 17 #[.string b] W fun e' w' => e' = .returned (.tuple #[.int .i64 i, .int .i64 j]) ∧ Below W.heap.size W w'))
    (k6 : Hid (∀ W, Calls Tryd.prog 18 #[.string b] W fun e' w' => e' = .returned (.tuple #[.int .i64 i, .int .i64 j]) ∧ Below W.heap.size W w'))
    (k7 : Hid (∀ W, Calls Tryd.prog 19 #[.int .i64 v] W fun e' w' => e' = .returned (.string t) ∧ Below W.heap.size W w'))
    (k8 : Hid (∀ W, Calls Tryd.prog 20 #[.int .i64 v] W fun e' w' => e' = .returned (.string t) ∧ Below W.heap.size W w')) :
    Calls Tryd.prog 5 #[.int .i64 v, .int .i64 n, .string b] w fun e w' => e = .returned (.bool true) ∧ Below w.heap.size w w' := by
  have HT := Lib.hid hT
  clear hT
  go_enter Tryd.func5, Tryd.ntmps5
  go_wp2_with (first
    | (go_at_call 13; with_reducible (refine (k1.out _).mono ?_); rintro e w1 ⟨rfl, hb1⟩)
    | (go_at_call 14; with_reducible (refine (k2.out _).mono ?_); rintro e w2 ⟨rfl, hb2⟩; replace hb2 := bstep hb1 hb2; clear hb1)
    | (go_at_call 15; with_reducible (refine (k3.out _).mono ?_); rintro e w3 ⟨rfl, hb3⟩; replace hb3 := bstep hb2 hb3; clear hb2)
    | (go_at_call 16; with_reducible (refine (k4.out _).mono ?_); rintro e w4 ⟨rfl, hb4⟩; replace hb4 := bstep hb3 hb4; clear hb3)
    | (go_at_call 17; with_reducible (refine (k5.out _).mono ?_); rintro e w5 ⟨rfl, hb5⟩; replace hb5 := bstep hb4 hb5; clear hb4)
    | (go_at_call 18; with_reducible (refine (k6.out _).mono ?_); rintro e w6 ⟨rfl, hb6⟩; replace hb6 := bstep hb5 hb6; clear hb5)
    | (go_at_call 10; refine (c_alive _ (Tabs.below HT.out hb6 (Nat.le_refl _))).mono ?_; rintro e w7 ⟨rfl, hb7⟩; replace hb7 := bstep hb6 hb7; clear hb6)
    | (go_at_call 19; with_reducible (refine (k7.out _).mono ?_); rintro e w8 ⟨rfl, hb8⟩; replace hb8 := bstep hb7 hb8; clear hb7)
    | (go_at_call 20; with_reducible (refine (k8.out _).mono ?_); rintro e w9 ⟨rfl, hb9⟩; replace hb9 := bstep hb8 hb9; clear hb8))
  go_ret
  exact ⟨rfl, hb9⟩
theorem walk_OctetNumbers (v n : Int) (b : ByteArray) (hv : -9223372036854775808 ≤ v ∧ v ≤ 9223372036854775807) (_hn : -9223372036854775808 ≤ n ∧ n ≤ 9223372036854775807) (_hb : b.size ≤ 140737488351232) (w : World) (hT : Tabs w) :
    Calls Tryd.prog 5 #[.int .i64 v, .int .i64 n, .string b] w fun e w' => e = .returned (.bool true) ∧ Below w.heap.size w w' := by
  obtain ⟨k, hk⟩ := rputSigned_eq v hv.1 hv.2
  refine numbers_yes v n b (putS v n).1 (putSignedS v) (putS v n).2 (getS b).1 (getS b).2 (signedS b).1 (signedS b).2 w hT (Lib.hid fun W => c_Put v n W) (Lib.hid fun W => chanceryref1_Put.calls 10 v n _ _ W (rput_eq v n hv.2 10 (by omega)))
    (Lib.hid fun W => (octet_Get.calls 10 b _ _ W (get_eq b 10 (by omega))).mono fun _ _ ⟨he, hd⟩ => ⟨he, hd.below⟩) (Lib.hid fun W => (chanceryref1_Get.calls 10 b _ _ W (rget_eq b 10 (by omega))).mono fun _ _ ⟨he, hd⟩ => ⟨he, hd.below⟩)
    (Lib.hid fun W => (octet_Signed.calls 11 b _ _ W (signed_eq b 11 (by omega))).mono fun _ _ ⟨he, hd⟩ => ⟨he, hd.below⟩) (Lib.hid fun W => (chanceryref1_Signed.calls 11 b _ _ W (rsigned_eq b 11 (by omega))).mono fun _ _ ⟨he, hd⟩ => ⟨he, hd.below⟩)
    (Lib.hid fun W => octet_PutSigned.calls 25 v _ W (putSigned_eq v hv.1 hv.2 25 (by omega))) (Lib.hid fun W => chanceryref1_PutSigned.calls k v _ W hk)
end Go.Proofs.YtpgdacaokgkdhaaDoorOc
