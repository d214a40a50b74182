/-
  outq.Queue's All: what it hands back, and how its rounds go.
-/
import Derived.Test.YtbplomnoapndnaaOQ2
import Derived.Test.YtbplomnoapndnaaIterKit
namespace Go.Proofs.Ytbplomnoapndnaa
open Go.RowKit Go.Shelf
attribute [local go_sem] Oper.semAt_some

/-- a record as a round takes it -/
def enc (p : Rec) : Array Value := #[p.1.val, .bool p.2]
/-- the block of a slice, if any -/
def bk (v : Value) : Nat := v.ownBlock.getD 0
theorem OwnS.keepsV {A B : World} {e : TypeId} {size n : Nat} {v : Value} {xs : List Value} (h : OwnS A e size v n xs) (hk : KeepsB (bk v) e A B) : OwnS B e size v n xs := by
  rcases h.2 with ⟨rfl, rfl⟩ | ⟨g, off, cap, cur, rfl, _⟩
  · exact ⟨h.1, .inl ⟨rfl, rfl⟩⟩
  · exact OwnS.keepsB h hk
set_option maxRecDepth 100000 in
set_option maxHeartbeats 2000000 in
theorem all1_in (F : Fence) (n : Nat) (hF : F.fn 54) (hro : F.round = none) (hn : 1 ≤ n) (lp bx : Nat) (v : Value) (l : List Rec) (hlen : l.length ≤ 100000) (J Jx : List Rec → World → Prop)
    (hJ : ∀ pre W (o : Obj), J pre W → J pre (W.alloc o))
    (hY : ∀ pre (x : Rec) W, J pre W → pre.length < l.length → YieldAt F (n - 1) Try.prog lp (enc x) W fun e W' =>
      (e = .returned (.bool true) ∧ J (pre ++ [x]) W' ∧ KeepsB (bk v) 79 W W') ∨ (e = .returned (.bool false) ∧ Jx (pre ++ [x]) W'))
    (W : World) (hb : W.cell? ⟨bx, 0, none⟩ = some v) (ho : OwnS W 79 8 v l.length (rcells l)) (h0 : J [] W) :
    CallsIn F n Try.prog 54 #[.func (.yield lp) #[] #[], .pointer (some ⟨bx, 0, none⟩)] W fun e W' => (∃ v, e = .returned v) ∧
      ((∃ ys, ys = l ∧ J ys W') ∨ (∃ pre, pre <+: l ∧ Jx pre W')) := by
  obtain ⟨A, cap, rfl, hnc, hmc⟩ := ho.shape
  have hmc : cap ≤ 9223372036854775807 := by unfold maxLen at hmc; omega
  obtain ⟨g', hg'⟩ : ∃ g', bk (.slice A l.length cap) = g' := ⟨_, rfl⟩
  rw [hg'] at hY
  have HG := Lib.hid hg'
  clear hg'
  refine callsIn_of_wp Try.func54 rfl hF ?_ hro
  simp only [Try.ntmps54, List.size_toArray, List.length_cons, List.length_nil, Nat.reduceAdd, Nat.reduceSub, Array.replicate_succ, Array.replicate_zero, List.push_toArray, List.append_toArray, List.nil_append, List.cons_append]
  have HC := Lib.hid ho
  clear ho
  gi_wp2
  gi_loopw [7] (fun i wr => ∃ k : Nat, k ≤ l.length ∧ i = .int .i64 k ∧ J (l.take k) wr ∧ KeepsB g' 79 W wr)
    (fun i _ => l.length - (intOf i).toNat)
  case atStart => exact ⟨0, Nat.zero_le _, rfl, by simpa using h0, KeepsB.refl _ _ _⟩
  case round =>
    obtain ⟨k, hk, rfl, hJs, hnx⟩ := hrel
    by_cases hlt : k < l.length
    · obtain ⟨⟨s, sb⟩, hs⟩ : ∃ s, l[k]? = some s := ⟨_, List.getElem?_eq_getElem hlt⟩
      have htake : l.take k ++ [(s, sb)] = l.take (k + 1) := by rw [List.take_add_one, hs]; rfl
      obtain ⟨g1, off, _, hv, hgl, _, _, hc⟩ := (OwnS.keepsV HC.out (HG.out.symm ▸ hnx)).form (by omega)
      injection hv with hv1 hv2 hv3
      subst hv1 hv3
      obtain ⟨c0, c1, c2, c3, c4, c5, c6, c7⟩ := rcells_at l k ⟨s, sb⟩ hs
      simp only at c0 c1 c2 c3 c4 c5 c6 c7
      have c0 := hc _ _ c0
      have c1 := hc _ _ c1
      have c2 := hc _ _ c2
      have c3 := hc _ _ c3
      have c4 := hc _ _ c4
      have c5 := hc _ _ c5
      have c6 := hc _ _ c6
      have c7 := hc _ _ c7
      rw [← Nat.add_assoc] at c1 c2 c3 c4 c5 c6 c7
      obtain ⟨fn, tmps, assign, body, hy, hR⟩ := hY _ (s, sb) _ (hJ _ _ (.cells #[.int .i64 s.a, .int .i64 s.s, .int .i64 s.t, .int .i64 s.n, .int .i64 s.d, .int .i64 s.k, .int .i64 s.x, .bool sb] 79) hJs) (by rw [List.length_take]; omega)
      have hnx2 : KeepsB g' 79 W (wr.alloc (.cells #[.int .i64 s.a, .int .i64 s.s, .int .i64 s.t, .int .i64 s.n, .int .i64 s.d, .int .i64 s.k, .int .i64 s.x, .bool sb] 79)) := hnx.alloc _
      have HX := Lib.hid hnx2
      have HT := Lib.hid htake
      clear hnx hnx2 htake hs hJs hc
      unfold enc Ev.val at hy
      gi_wp2
      refine hR.mono ?_
      rintro e W3 (⟨rfl, hJ3, hk3⟩ | ⟨rfl, hJx3⟩)
      · have HJ := Lib.hid hJ3
        have HK := Lib.hid hk3
        clear hJ3 hk3
        gi_wp2
        go_roundw
        case rel => exact ⟨k + 1, by omega, by simp, by rw [← HT.out]; exact HJ.out, HX.out.trans HK.out⟩
        case measure => simp [intOf]; omega
      · have HJ := Lib.hid hJx3
        clear hJx3
        gi_wp2
        refine bodyPost_ret (results_none rfl _ _ _) rfl ?_
        exact ⟨⟨_, rfl⟩, .inr ⟨_, by rw [HT.out]; exact List.take_prefix _ _, HJ.out⟩⟩
    · obtain rfl : k = l.length := by omega
      have HJ := Lib.hid hJs
      clear hJs
      gi_wp2
      go_end0
      exact ⟨⟨_, rfl⟩, .inl ⟨_, List.take_length, HJ.out⟩⟩
/-- what All hands back, as a loop takes it -/
theorem all_stops (F : Fence) (n : Nat) (hF : F.fn 54) (hro : F.round = none) (hn : 1 ≤ n) (bx : Nat) (v : Value) (l : List Rec) (hlen : l.length ≤ 100000) (w : World)
    (hb : Blk w bx 69 #[v]) (ho : OwnS w 79 8 v l.length (rcells l)) :
    SeqStopsK F n Try.prog 54 #[.pointer (some ⟨bx, 0, none⟩)] enc (KeepsB (bk v) 79) (fun ys => ys = l) (fun pre => pre <+: l) l.length w := fun lp J Jx W hW hJ hJx hY h0 => by
  have hbW := hb.below hW hb.lt
  have hoW : OwnS W 79 8 v l.length (rcells l) := ho.kept (Keep.of_below (S := fun _ => False) hW (fun k h1 h2 => by omega)) (fun _ _ h => h)
  exact all1_in F n hF hro hn lp bx v l hlen J Jx (fun pre X o hs => hJ pre X _ none hs (World.grownBy_alloc X o none) (fun r e => by cases e)) hY W (hbW.cell_ 0 rfl) hoW h0
/-- what All answers: a function over a list of its own -/
def AllP (l : List Rec) (w : World) (e : Ending) (w' : World) : Prop :=
  ∃ b v', e = .returned (.func (.func 54) #[] #[.pointer (some ⟨b, 0, none⟩)]) ∧ Blk w' b 69 #[v'] ∧ OwnS w' 79 8 v' l.length (rcells l) ∧ Fresh w w' ∧ w.heap.size ≤ b ∧ ∀ k, v'.ownBlock = some k → w.heap.size ≤ k
theorem all_any (g : Nat) (v : Value) (l : List Rec) (w : World) (h : OQ w g v l) (hl : l.length ≤ 100000) :
    Calls Try.prog 35 #[.pointer (some ⟨g, 0, none⟩)] w (AllP l w) := by
  have F0 : Fresh w (w.alloc (.cells #[.slice none 0 0] 69)) := (Keep.refl _ w).alloc _
  have B0 := Lib.hid (Blk.new w 69 #[.slice none 0 0])
  have H1 := Lib.hid (rclone_any v l.length (rcells l) _ (h.own.fresh F0) (rcells_one _) (by omega))
  have cq := (h.fresh F0).blk.cell
  have lq := h.blk.lt
  have HF0 := Lib.hid F0
  obtain ⟨A, cap, rfl, _, _⟩ := h.own.shape
  clear h F0
  go_enter Try.func35, Try.ntmps35
  go_wp2_with fail
  refine H1.out.mono ?_
  rintro e w1 ⟨v1, rfl, o1, f1, n1⟩
  obtain ⟨A1, cap1, rfl, _, _⟩ := o1.shape
  have b1 := f1.blk_ B0.out
  have hne : (Value.slice A1 l.length cap1).ownBlock ≠ some w.heap.size := o1.ne_blk b1 (by decide)
  have O1 : Hid (OwnS (w1.setCell ⟨w.heap.size, 0, none⟩ (.slice A1 l.length cap1)) 79 8 (.slice A1 l.length cap1) l.length (rcells l)) := Lib.hid (o1.far (p := ⟨w.heap.size, 0, none⟩) hne (.slice A1 l.length cap1))
  have B1 : Hid (Blk (w1.setCell ⟨w.heap.size, 0, none⟩ (.slice A1 l.length cap1)) w.heap.size 69 #[.slice A1 l.length cap1]) := Lib.hid (by simpa using b1.set_ 0 (.slice A1 l.length cap1))
  have F1 : Hid (Fresh w (w1.setCell ⟨w.heap.size, 0, none⟩ (.slice A1 l.length cap1))) := Lib.hid ((HF0.out.step f1 (fun _ _ h => h)).setCell (p := ⟨w.heap.size, 0, none⟩) (fun h => by simp at h) (.slice A1 l.length cap1))
  have N1 := Lib.hid n1
  have c1 := b1.cell
  have l1 := b1.lt
  have r1 := b1.frozen
  have sz := f1.size
  clear o1 f1 n1 b1 hne HF0
  go_wp2_with fail
  go_ret
  refine ⟨_, _, rfl, B1.out, O1.out, F1.out, Nat.le_refl _, fun k hk => ?_⟩
  have := N1.out k hk
  simp at this
  omega
theorem all_nil (w : World) : Calls Try.prog 35 #[.pointer none] w (AllP [] w) := by
  go_enter Try.func35, Try.ntmps35
  go_wp2_with fail
  go_ret
  exact ⟨_, _, rfl, Blk.new w _ _, OwnS.nil _ _ _, (Keep.refl _ w).alloc _, Nat.le_refl _, by simp [Value.ownBlock]⟩
end Go.Proofs.Ytbplomnoapndnaa
