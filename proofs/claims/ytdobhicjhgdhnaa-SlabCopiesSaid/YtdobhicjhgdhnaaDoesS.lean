/-
  The law's does: a call with both.
-/
import Derived.Test.YtdobhicjhgdhnaaDoesT
import Derived.Test.YtdobhicjhgdhnaaDoesO
namespace Go.Proofs.Ytdobhicjhgdhnaa
open Go.RowKit
theorem does_any (w : World) (Fp : Nat → Prop) (gp g : Nat) (vs vf : Value) (s : St) (gr : Nat) (vl vr lv : Value) (lh : List (Int × Int)) (N k : Nat) (a c v t h y : Int) (u : Bool) (W : World) (hP : PD w Fp gp g vs vf s gr vl vr s.l s.fr s.res lv lh W) (hs : PS N k s.res s) (hN : N ≤ 4096) (hk : k ≤ 1000) (hr : 0 ≤ s.res ∧ s.res ≤ 4096) (hlh : lh.length ≤ k) :
    Calls Try.prog 20 #[.pointer (some ⟨gp, 0, none⟩), .agg #[.int .i64 a, .int .i64 c, .bool u, .int .i64 v, .int .i64 t, .int .i64 h, .int .i64 y]] W (DoesP w Fp N k gp g vs gr vl s.res) := by
  by_cases ha : a = 0
  · exact does_take w Fp gp g vs vf s gr vl vr lv lh N k a c v t h y u W hP hs hN hk hr hlh (Lib.hid ha)
  · exact does_other w Fp gp g vs vf s gr vl vr lv lh N k a c v t h y u W hP hs hN hk hr hlh (Lib.hid ha)
end Go.Proofs.Ytdobhicjhgdhnaa
