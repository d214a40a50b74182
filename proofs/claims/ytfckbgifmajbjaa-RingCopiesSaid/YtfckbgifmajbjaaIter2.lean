/-
  ring.Ring[int].All: how its rounds go.
-/
import Derived.Test.YtfckbgifmajbjaaIter
namespace Go.Proofs.Ytfckbgifmajbjaa
open Go.RowKit Go.Shelf

theorem all_nil (w : World) :
    Calls Try.prog 18 #[.pointer none] w fun e w' => e = .returned (.func (.func 35) #[] #[.pointer (some ⟨w.heap.size, 0, none⟩)]) ∧ w' = w.alloc (.cells #[.slice none 0 0] 58) := by
  have hmf : ∀ (fn : Fn) (first cap : Array Value) (w : World), (Instr.makeFunc fn first cap).run Try.prog w = .ok (.func fn first cap) w := fun _ _ _ _ => rfl
  go_enter Try.func18, Try.ntmps18
  go_wp2
  go_ret
  exact ⟨rfl, rfl⟩

attribute [local go_sem] Oper.semAt_some
set_option maxRecDepth 100000 in
set_option maxHeartbeats 2000000 in
theorem all1_in (F : Fence) (n : Nat) (hF : F.fn 35) (hro : F.round = none) (hn : 1 ≤ n) (lp bx g' off cap : Nat) (l : List (Int × Int)) (hlen : l.length ≤ 100000) (J Jx : List (Int × Int) → World → Prop)
    (hJ : ∀ pre W (o : Obj), J pre W → J pre (W.alloc o))
    (hY : ∀ pre (x : Int × Int) W, J pre W → pre.length < l.length → YieldAt F (n - 1) Try.prog lp #[.int .i64 x.1, .int .i64 x.2] W fun e W' =>
      (e = .returned (.bool true) ∧ J (pre ++ [x]) W' ∧ KeepsB g' 66 W W') ∨ (e = .returned (.bool false) ∧ Jx (pre ++ [x]) W'))
    (W : World) (hb : W.cell? ⟨bx, 0, none⟩ = some (.slice (some ⟨g', off, none⟩) l.length cap)) (ho : OwnS W 66 2 (.slice (some ⟨g', off, none⟩) l.length cap) l.length (cells l)) (h0 : J [] W) :
    CallsIn F n Try.prog 35 #[.func (.yield lp) #[] #[], .pointer (some ⟨bx, 0, none⟩)] W fun e W' => (∃ v, e = .returned v) ∧
      ((∃ ys, ys = l ∧ J ys W') ∨ (∃ pre, pre <+: l ∧ Jx pre W')) := by
  refine callsIn_of_wp Try.func35 rfl hF ?_ hro
  simp only [Try.ntmps35, List.size_toArray, List.length_cons, List.length_nil, Nat.reduceAdd, Nat.reduceSub, Array.replicate_succ, Array.replicate_zero, List.push_toArray, List.append_toArray, List.nil_append, List.cons_append]
  have HC := Lib.hid ho
  clear ho
  gi_wp2
  gi_loopw [7] (fun i wr => ∃ k : Nat, k ≤ l.length ∧ i = .int .i64 k ∧ J (l.take k) wr ∧ KeepsB g' 66 W wr)
    (fun i _ => l.length - (intOf i).toNat)
  case atStart => exact ⟨0, Nat.zero_le _, rfl, by simpa using h0, KeepsB.refl _ _ _⟩
  case round =>
    obtain ⟨k, hk, rfl, hJs, hnx⟩ := hrel
    by_cases hlt : k < l.length
    · obtain ⟨s, hs⟩ : ∃ s, l[k]? = some s := ⟨_, List.getElem?_eq_getElem hlt⟩
      have htake : l.take k ++ [s] = l.take (k + 1) := by rw [List.take_add_one, hs]; rfl
      obtain ⟨_, _, _, hv, hgl, _, _, hc⟩ := (HC.out.keepsB hnx).form (by omega)
      injection hv with hv1 hv2 hv3
      injection hv1 with hv1
      injection hv1 with e1 e2 _
      subst e1 e2 hv3
      obtain ⟨c1, c2⟩ := cells_at l k s hs
      have c1 := hc _ _ c1
      have c2 := hc _ _ c2
      rw [← Nat.add_assoc] at c2
      obtain ⟨fn, tmps, assign, body, hy, hR⟩ := hY _ s _ (hJ _ _ (.cells #[.int .i64 s.1, .int .i64 s.2] 66) hJs) (by rw [List.length_take]; omega)
      have hnx2 : KeepsB g' 66 W (wr.alloc (.cells #[.int .i64 s.1, .int .i64 s.2] 66)) := hnx.alloc _
      have HX := Lib.hid hnx2
      have HT := Lib.hid htake
      clear hnx hnx2 htake hs hJs hc
      gi_wp2
      refine hR.mono ?_
      rintro e W3 (⟨rfl, hJ3, hk3⟩ | ⟨rfl, hJx3⟩)
      · have HJ := Lib.hid hJ3
        have HK := Lib.hid hk3
        clear hJ3 hk3
        gi_wp2
        go_roundw
        case rel => exact ⟨k + 1, by omega, by simp, by rw [← HT.out]; exact HJ.out, HX.out.trans HK.out⟩
        case measure => simp [intOf]; omega
      · have HJ := Lib.hid hJx3
        clear hJx3
        gi_wp2
        refine bodyPost_ret (results_none rfl _ _ _) rfl ?_
        exact ⟨⟨_, rfl⟩, .inr ⟨_, by rw [HT.out]; exact List.take_prefix _ _, HJ.out⟩⟩
    · obtain rfl : k = l.length := by omega
      have HJ := Lib.hid hJs
      clear hJs
      gi_wp2
      go_end0
      exact ⟨⟨_, rfl⟩, .inl ⟨_, List.take_length, HJ.out⟩⟩

/-- the value that All hands back, as a loop takes it -/
theorem all_stops (F : Fence) (n : Nat) (hF : F.fn 35) (hro : F.round = none) (hn : 1 ≤ n) (bx g' off cap : Nat) (l : List (Int × Int)) (hlen : l.length ≤ 100000) (w : World)
    (hb : Blk w bx 58 #[.slice (some ⟨g', off, none⟩) l.length cap]) (ho : OwnS w 66 2 (.slice (some ⟨g', off, none⟩) l.length cap) l.length (cells l)) :
    SeqStopsK F n Try.prog 35 #[.pointer (some ⟨bx, 0, none⟩)] (fun x : Int × Int => #[Value.int .i64 x.1, Value.int .i64 x.2]) (KeepsB g' 66) (fun ys => ys = l) (fun pre => pre <+: l) l.length w := fun lp J Jx W hW hJ hJx hY h0 => by
  have hbW := hb.below hW hb.lt
  have hoW : OwnS W 66 2 (.slice (some ⟨g', off, none⟩) l.length cap) l.length (cells l) := ho.kept (Keep.of_below (S := fun _ => False) hW (fun k h1 h2 => by omega)) (fun _ _ h => h)
  exact all1_in F n hF hro hn lp bx g' off cap l hlen J Jx (fun pre X o hs => hJ pre X _ none hs (World.grownBy_alloc X o none) (fun r e => by cases e)) hY W (hbW.cell_ 0 rfl) hoW h0
end Go.Proofs.Ytfckbgifmajbjaa
