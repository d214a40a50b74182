/-
  A loop over a nil slab's All; Copy of nil.
-/
import Derived.Test.YtdobhicjhgdhnaaAwake
import Derived.Test.YtdobhicjhgdhnaaIterKit
namespace Go.Proofs.Ytdobhicjhgdhnaa
open Go.RowKit Go.Shelf

theorem all_nil (w : World) :
    Calls Try.prog 23 #[.pointer none] w fun e w' => e = .returned (.func (.func 34) #[] #[.pointer (some ⟨w.heap.size, 0, none⟩), .pointer (some ⟨w.heap.size + 1, 0, none⟩)]) ∧ w' = (w.alloc (.cells #[.slice none 0 0] 30)).alloc (.cells #[.slice none 0 0] 29) := by
  have hmf : ∀ (fn : Fn) (first cap : Array Value) (w : World), (Instr.makeFunc fn first cap).run Try.prog w = .ok (.func fn first cap) w := fun _ _ _ _ => rfl
  go_enter Try.func23, Try.ntmps23
  go_wp2
  go_ret
  exact ⟨rfl, rfl⟩
theorem copy_nil (w : World) : Calls Try.prog 22 #[.pointer none] w fun e w' => e = .returned (.pointer none) ∧ w = w' := by
  go_enter Try.func22, Try.ntmps22
  go_wp2
  go_ret
  exact ⟨rfl, rfl⟩

attribute [local go_sem] Oper.semAt_some
set_option maxRecDepth 100000 in
set_option maxHeartbeats 2000000 in
theorem all0_in (F : Fence) (n : Nat) (hF : F.fn 34) (hro : F.round = none) (_hn : 1 ≤ n) (lp bx by_ : Nat) (W : World) (hb : W.cell? ⟨bx, 0, none⟩ = some (.slice none 0 0)) :
    CallsIn F n Try.prog 34 #[.func (.yield lp) #[] #[], .pointer (some ⟨bx, 0, none⟩), .pointer (some ⟨by_, 0, none⟩)] W fun e W' => (∃ v, e = .returned v) ∧ W = W' := by
  refine callsIn_of_wp Try.func34 rfl hF ?_ hro
  simp only [Try.ntmps34, List.size_toArray, List.length_cons, List.length_nil, Nat.reduceAdd, Nat.reduceSub, Array.replicate_succ, Array.replicate_zero, List.push_toArray, List.append_toArray, List.nil_append, List.cons_append]
  gi_wp2
  gi_loopw [8] (fun i wr => i = .int .i64 0 ∧ wr = W) (fun i _ => 0)
  case atStart => exact ⟨rfl, rfl⟩
  case round =>
    obtain ⟨rfl, rfl⟩ := hrel
    gi_wp2
    go_end0
    exact ⟨⟨_, rfl⟩, rfl⟩

theorem all0_stops (F : Fence) (n : Nat) (hF : F.fn 34) (hro : F.round = none) (hn : 1 ≤ n) (bx by_ : Nat) (w : World) (Kp : World → World → Prop) (hb : Blk w bx 30 #[.slice none 0 0]) :
    SeqStopsK F n Try.prog 34 #[.pointer (some ⟨bx, 0, none⟩), .pointer (some ⟨by_, 0, none⟩)] (fun x : Empty => nomatch x) Kp (fun ys => ys = []) (fun _ => False) 0 w := fun lp J Jx W hW hJ hJx hY h0 => by
  have hbW := hb.below hW hb.lt
  exact (all0_in F n hF hro hn lp bx by_ W (hbW.cell_ 0 rfl)).mono fun e W' ⟨h1, h2⟩ => ⟨h1, .inl ⟨[], rfl, h2 ▸ h0⟩⟩
end Go.Proofs.Ytdobhicjhgdhnaa
