/- Chapter 13: SavI. -/
import Derived.Test.YthbcdkeammhakaaGreatP05
import Derived.Test.YthbcdkeammhakaaGreatP13
set_option maxRecDepth 100000
set_option maxHeartbeats 16000000
namespace Go.Proofs.YthbcdkeammhakaaGreat
open Go.RowKit Go.Shelf
namespace RS
theorem all_any (g : Nat) (v : Value) (l : List (Int × St)) (w : World) (h : SRow w g v l) (h1 : 0 < l.length) (hl : l.length ≤ 100000) :
  Calls Tryz.prog 62 #[.pointer (some ⟨g, 0, none⟩)] w fun e w' => ∃ v', e = .returned (.func (.func 108) #[] #[.pointer (some ⟨w.heap.size, 0, none⟩)]) ∧ Blk w' w.heap.size 160 #[v'] ∧ OwnS w' 163 5 v' l.length (scells l) ∧ Fresh w w' ∧ (∀ k, v'.ownBlock = some k → w.heap.size ≤ k) := by
 have hb := h.blk.cell_ 0 rfl
 have hg := h.blk.lt
 obtain ⟨g', off, cap, hv, hlt, hn, hm, _⟩ := h.own.form h1
 subst hv
 have HO := Lib.hid h.own
 clear h
 have hmf : ∀ (fn : Fn) (first cap : Array Value) (w : World), (Instr.makeFunc fn first cap).run Tryz.prog w = .ok (.func fn first cap) w := fun _ _ _ _ => rfl
 go_enter Tryz.func62, Tryz.ntmps62
 go_wp2_with fail
 refine (clone_any g' off l.length cap (scells l) _ (HO.out.alloc _) (scells_one l) (by omega)).mono ?_
 rintro e w1 ⟨v1, rfl, ho1, hk1, hn1⟩
 obtain ⟨A', cap', rfl, _, _⟩ := ho1.shape
 have hb1 := hk1.blk_ (Blk.new w 160 #[.slice none 0 0])
 have hne := ho1.ne_blk hb1 (by decide)
 have hc1 := hb1.cell
 have hf1 := hb1.frozen
 have hg1 := hb1.lt
 have P1 := Lib.hid ho1
 have P2 := Lib.hid hk1
 have P3 := Lib.hid hn1
 have P4 := Lib.hid hb1
 have P5 := Lib.hid hne
 clear ho1 hk1 hn1 hb1 hne
 go_wp2
 go_ret
 refine ⟨.slice A' l.length cap', rfl, P4.out.set_ 0 _, P1.out.far P5.out (p := ⟨w.heap.size, 0, none⟩) _, (((Keep.refl _ w).alloc _).step P2.out (fun _ _ h => h)).setCell (fun h => by simp at h) _, fun k hk => ?_⟩
 have := P3.out k hk
 simp at this
 omega
attribute [local go_sem] Oper.semAt_some
theorem all1_in (F : Fence) (n : Nat) (hF : F.fn 108) (hro : F.round = none) (hn : 1 ≤ n) (lp bx g' off cap : Nat) (l : List (Int × St)) (hlen : l.length ≤ 100000) (J Jx : List (Int × St) → World → Prop)
  (hJ : ∀ pre W (o : Obj), J pre W → J pre (W.alloc o))
  (hY : ∀ pre (x : Int × St) W, J pre W → pre.length < l.length → YieldAt F (n - 1) Tryz.prog lp #[.int .i64 x.1, x.2.val] W fun e W' =>
   (e = .returned (.bool true) ∧ J (pre ++ [x]) W' ∧ KeepsB g' 163 W W') ∨ (e = .returned (.bool false) ∧ Jx (pre ++ [x]) W'))
  (W : World) (hb : W.cell? ⟨bx, 0, none⟩ = some (.slice (some ⟨g', off, none⟩) l.length cap)) (ho : OwnS W 163 5 (.slice (some ⟨g', off, none⟩) l.length cap) l.length (scells l)) (h0 : J [] W) :
  CallsIn F n Tryz.prog 108 #[.func (.yield lp) #[] #[], .pointer (some ⟨bx, 0, none⟩)] W fun e W' => (∃ v, e = .returned v) ∧
   ((∃ ys, ys = l ∧ J ys W') ∨ (∃ pre, pre <+: l ∧ Jx pre W')) := by
 refine callsIn_of_wp Tryz.func108 rfl hF ?_ hro
 simp only [Tryz.ntmps108, List.size_toArray, List.length_cons, List.length_nil, Nat.reduceAdd, Nat.reduceSub, Array.replicate_succ, Array.replicate_zero, List.push_toArray, List.append_toArray, List.nil_append, List.cons_append]
 have HC := Lib.hid ho
 clear ho
 gi_wp2
 gi_loopw [7] (fun i wr => ∃ k : Nat, k ≤ l.length ∧ i = .int .i64 k ∧ J (l.take k) wr ∧ KeepsB g' 163 W wr)
  (fun i _ => l.length - (intOf i).toNat)
 case atStart => exact ⟨0, Nat.zero_le _, rfl, by simpa using h0, KeepsB.refl _ _ _⟩
 case round =>
  obtain ⟨k, hk, rfl, hJs, hnx⟩ := hrel
  by_cases hlt : k < l.length
  ·obtain ⟨s, hs⟩ : ∃ s, l[k]? = some s := ⟨_, List.getElem?_eq_getElem hlt⟩
   have htake : l.take k ++ [s] = l.take (k + 1) := by rw [List.take_add_one, hs]; rfl
   obtain ⟨_, _, _, hv, hgl, _, _, hc⟩ := (HC.out.keepsB hnx).form (by omega)
   injection hv with hv1 hv2 hv3
   injection hv1 with hv1
   injection hv1 with e1 e2 _
   subst e1 e2 hv3
   obtain ⟨c1, c2, c3, c4, c5⟩ := scells_at l k s hs
   have c1 := hc _ _ c1
   have c2 := hc _ _ c2
   have c3 := hc _ _ c3
   have c4 := hc _ _ c4
   have c5 := hc _ _ c5
   rw [← Nat.add_assoc] at c2 c3 c4 c5
   obtain ⟨fn, tmps, assign, body, hy, hR⟩ := hY _ s _ (hJ _ _ (.cells #[.int .i64 s.1, .int .i64 s.2.s0, .int .i64 s.2.s1, .int .i64 s.2.s2, .int .i64 s.2.s3] 163) hJs) (by rw [List.length_take]; omega)
   have hnx2 : KeepsB g' 163 W (wr.alloc (.cells #[.int .i64 s.1, .int .i64 s.2.s0, .int .i64 s.2.s1, .int .i64 s.2.s2, .int .i64 s.2.s3] 163)) := hnx.alloc _
   simp only [St.val] at hy
   have HX := Lib.hid hnx2
   have HT := Lib.hid htake
   clear hnx hnx2 htake hs hJs hc
   gi_wp2
   refine hR.mono ?_
   rintro e W3 (⟨rfl, hJ3, hk3⟩ | ⟨rfl, hJx3⟩)
   ·have HJ := Lib.hid hJ3
    have HK := Lib.hid hk3
    clear hJ3 hk3
    gi_wp2
    go_roundw
    case rel => exact ⟨k + 1, by omega, by simp, by rw [← HT.out]; exact HJ.out, HX.out.trans HK.out⟩
    case measure => simp [intOf]; omega
   ·have HJ := Lib.hid hJx3
    clear hJx3
    gi_wp2
    refine bodyPost_ret (results_none rfl _ _ _) rfl ?_
    exact ⟨⟨_, rfl⟩, .inr ⟨_, by rw [HT.out]; exact List.take_prefix _ _, HJ.out⟩⟩
  ·obtain rfl : k = l.length := by omega
   have HJ := Lib.hid hJs
   clear hJs
   gi_wp2
   go_end0
   exact ⟨⟨_, rfl⟩, .inl ⟨_, List.take_length, HJ.out⟩⟩
theorem all_stops (F : Fence) (n : Nat) (hF : F.fn 108) (hro : F.round = none) (hn : 1 ≤ n) (bx g' off cap : Nat) (l : List (Int × St)) (hlen : l.length ≤ 100000) (w : World)
  (hb : Blk w bx 160 #[.slice (some ⟨g', off, none⟩) l.length cap]) (ho : OwnS w 163 5 (.slice (some ⟨g', off, none⟩) l.length cap) l.length (scells l)) :
  SeqStopsK F n Tryz.prog 108 #[.pointer (some ⟨bx, 0, none⟩)] (fun x : Int × St => #[Value.int .i64 x.1, x.2.val]) (KeepsB g' 163) (fun ys => ys = l) (fun pre => pre <+: l) l.length w := fun lp J Jx W hW hJ hJx hY h0 => by
 have hbW := hb.below hW hb.lt
 have hoW : OwnS W 163 5 (.slice (some ⟨g', off, none⟩) l.length cap) l.length (scells l) := ho.kept (Keep.of_below (S := fun _ => False) hW (fun k h1 h2 => by omega)) (fun _ _ h => h)
 exact all1_in F n hF hro hn lp bx g' off cap l hlen J Jx (fun pre X o hs => hJ pre X _ none hs (World.grownBy_alloc X o none) (fun r e => by cases e)) hY W (hbW.cell_ 0 rfl) hoW h0
end RS
end Go.Proofs.YthbcdkeammhakaaGreat
