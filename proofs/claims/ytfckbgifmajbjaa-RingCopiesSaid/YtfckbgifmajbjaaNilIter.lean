/-
  A loop over an All of nothing.
-/
import Derived.Test.YtfckbgifmajbjaaIter2
namespace Go.Proofs.Ytfckbgifmajbjaa
open Go.RowKit Go.Shelf
attribute [local go_sem] Oper.semAt_some

set_option maxRecDepth 100000 in
set_option maxHeartbeats 2000000 in
theorem all0_in (F : Fence) (n : Nat) (hF : F.fn 35) (hro : F.round = none) (hn : 1 ≤ n) (lp bx : Nat) (A : Option Addr) (cap : Nat) (W : World) (hb : W.cell? ⟨bx, 0, none⟩ = some (.slice A 0 cap)) :
    CallsIn F n Try.prog 35 #[.func (.yield lp) #[] #[], .pointer (some ⟨bx, 0, none⟩)] W fun e W' => (∃ v, e = .returned v) ∧ W = W' := by
  refine callsIn_of_wp Try.func35 rfl hF ?_ hro
  simp only [Try.ntmps35, List.size_toArray, List.length_cons, List.length_nil, Nat.reduceAdd, Nat.reduceSub, Array.replicate_succ, Array.replicate_zero, List.push_toArray, List.append_toArray, List.nil_append, List.cons_append]
  gi_wp2
  gi_loopw [7] (fun i wr => i = .int .i64 0 ∧ wr = W) (fun i _ => 0)
  case atStart => exact ⟨rfl, rfl⟩
  case round =>
    obtain ⟨rfl, rfl⟩ := hrel
    gi_wp2
    go_end0
    exact ⟨⟨_, rfl⟩, rfl⟩

theorem all0_stops (F : Fence) (n : Nat) (hF : F.fn 35) (hro : F.round = none) (hn : 1 ≤ n) (bx : Nat) (A : Option Addr) (cap : Nat) (w : World) (Kp : World → World → Prop) (hb : Blk w bx 58 #[.slice A 0 cap]) :
    SeqStopsK F n Try.prog 35 #[.pointer (some ⟨bx, 0, none⟩)] (fun x : Empty => nomatch x) Kp (fun ys => ys = []) (fun _ => False) 0 w := fun lp J Jx W hW hJ hJx hY h0 => by
  have hbW := hb.below hW hb.lt
  exact (all0_in F n hF hro hn lp bx A cap W (hbW.cell_ 0 rfl)).mono fun e W' ⟨h1, h2⟩ => ⟨h1, .inl ⟨[], rfl, h2 ▸ h0⟩⟩
end Go.Proofs.Ytfckbgifmajbjaa
