/-
  mail.Net[int].Least.
-/
import Derived.Test.YtgakggkffapnlaaPackets
import Derived.RecoverIn
import Derived.TacticsInMore
namespace Go.Proofs.Ytgakggkffapnlaa
open Go.RowKit Go.Shelf R_int Go.Sort
attribute [local go_sem] Oper.semAt_some

def tw (x : Int) : Int := 9 - x.tmod 10
theorem tw_in (x : Int) : 0 ≤ tw x ∧ tw x ≤ 18 := by
  unfold tw
  have h1 := Int.tmod_lt_of_pos x (show (0 : Int) < 10 by omega)
  have h2 := Int.tmod_lt_of_pos (-x) (show (0 : Int) < 10 by omega)
  rw [Int.neg_tmod] at h2
  omega
theorem twice_any (x : Int) (w : World) : Calls Try.prog 19 #[.int .i64 x] w fun e w' => e = .returned (.int .i64 (tw x)) ∧ w = w' := by
  have hw : IntKind.i64.wrap (9 - x.tmod 10) = tw x := IntWalk.i64_in _ (by have := tw_in x; unfold tw at this; omega)
  go_enter Try.func19, Try.ntmps19
  go_wp2_with fail
  go_ret
  exact ⟨by first | rfl | (rw [hw]) , rfl⟩
/-- one packet more -/
def lessB (s : Int × Bool) (p : Pk) : Int × Bool := if !s.2 || decide (tw p.x < s.1) then (tw p.x, true) else s
def leastL (l : List Pk) : Int × Bool := l.foldl lessB (0, false)
theorem leastL_snoc (l : List Pk) (p : Pk) : leastL (l ++ [p]) = lessB (leastL l) p := by simp [leastL]
theorem catch_idle (p q : Addr) (n : Nat) (w : World) :
    CallsDIn Fence.wide n Try.prog 38 #[.pointer (some p), .pointer (some q)] .returning w fun e u' w' => e = .returned (.tuple #[]) ∧ u' = .returning ∧ w' = w := by
  refine callsDIn_of_wpSIn Try.func38 rfl trivial fun c₀ cs hu => ?_
  apply wpSIn_seq
  apply wpSIn_region
  have hfa : ∀ f, Fence.wide.fn f := fun _ => trivial
  simp [wpOpsSIn, go_sem, recoverD, hu, Try.ntmps38, Exit.thenS]
  refine wpSIn_cond (t := false) (by simp [Act.eval, Array.replicate]) ?_
  simp only [Bool.false_eq_true, if_false]
  refine wpSIn_of_wpIn rfl (wpIn_skip ?_)
  cases c₀
  simp_all [bodyPostS, results, Try.results38]
theorem run_eql_funcL (fn : Fn) (a b : Array Value) (w : World) : (binOp .eql 54 (.func fn a b) .nilFunc).run Try.prog w = .ok (.bool false) w := by
  first | rfl | (kernel_rfl)
attribute [local go_sem] run_eql_funcL
/-- what Least leaves -/
def LeastP (l : List Pk) (w : World) (e : Ending) (w' : World) : Prop := e = .returned (.tuple #[.int .i64 (leastL l).1, .bool (leastL l).2]) ∧ Fresh w w'
set_option maxRecDepth 100000 in
set_option maxHeartbeats 4000000 in
theorem least_of (rp : Option Addr) (l : List Pk) (w : World) (hall : ∀ W, Fresh w W → Calls Try.prog 21 #[.pointer rp] W (ToP l W)) (hl : l.length ≤ 100000) :
    Calls Try.prog 18 #[.pointer rp, .func (.func 19) #[] #[]] w (LeastP l w) := by
  have hmf : ∀ (fn : Fn) (first cap : Array Value) (w : World), (Instr.makeFunc fn first cap).run Try.prog w = .ok (.func fn first cap) w := fun _ _ _ _ => rfl
  have F0 : Fresh w (((w.alloc (.cells #[.func (.func 19) #[] #[]] 54)).alloc (.cells #[.int .i64 0] 3)).alloc (.cells #[.bool false] 4)) := (((Keep.refl _ w).alloc _).alloc _).alloc _
  have BF := ((Blk.new w 54 #[.func (.func 19) #[] #[]]).alloc (.cells #[.int .i64 0] 3)).alloc (.cells #[.bool false] 4)
  have BL : Blk (((w.alloc (.cells #[.func (.func 19) #[] #[]] 54)).alloc (.cells #[.int .i64 0] 3)).alloc (.cells #[.bool false] 4)) (w.heap.size + 1) 3 #[.int .i64 0] := (Blk.at_new (by simp) _ _).alloc _
  have BI : Blk (((w.alloc (.cells #[.func (.func 19) #[] #[]] 54)).alloc (.cells #[.int .i64 0] 3)).alloc (.cells #[.bool false] 4)) (w.heap.size + 1 + 1) 4 #[.bool false] := Blk.at_new (by simp) _ _
  have HA := Lib.hid (hall _ F0)
  have HF := Lib.hid F0
  have KF := Lib.hid BF
  have KL := Lib.hid BL
  have KI := Lib.hid BI
  clear hall F0 BF BL BI
  refine (callsIn_wide (n := 6)).1 ?_
  refine callsIn_of_wp_marks Try.func18 rfl trivial ?_ rfl
  simp only [Try.ntmps18, List.size_toArray, List.length_cons, List.length_nil, Nat.reduceAdd, Nat.reduceSub, Array.replicate_succ, Array.replicate_zero, List.push_toArray, List.append_toArray, List.nil_append, List.cons_append]
  gi_wp2_with fail
  refine ⟨trivial, ?_⟩
  refine (callsIn_wide.2 HA.out).mono ?_
  rintro e w1 ⟨ib, v', rfl, hib, b1, o1, f1, n1⟩
  have U1 := Lib.hid b1
  have U2 := Lib.hid o1
  have T0 := Lib.hid (HF.out.step f1 (fun _ _ h => h))
  have TF := Lib.hid (f1.blk_ KF.out)
  have TL := Lib.hid (f1.blk_ KL.out)
  have TI := Lib.hid (f1.blk_ KI.out)
  have szI : w.heap.size + 1 + 1 < w1.heap.size := TI.out.lt
  have szF := T0.out.size
  clear b1 o1 f1 n1 hib HA HF KF KL KI
  gi_wp2_with fail
  refine wpIn_rangeFunc_ownH rfl (by omega) (gf := 45) (lb := #[.pointer (some ⟨ib, 0, none⟩)]) rfl trivial (enters_of Try.func45 (by kernel_rfl) rfl)
    (those_stops Fence.wide (6 - 1) trivial rfl (by omega) ib v' l (by omega) w1 U1.out U2.out) keepsB_t keepsB_b (Below.refl _ _) (fun _ => rfl)
    (fun pre W => (Fresh w W ∧ Blk W w.heap.size 54 #[.func (.func 19) #[] #[]]) ∧ (Blk W (w.heap.size + 1) 3 #[.int .i64 (leastL pre).1] ∧ Blk W (w.heap.size + 1 + 1) 4 #[.bool (leastL pre).2]))
    (fun _ _ _ => False) ?own (fun _ _ _ _ _ hs _ _ => hs)
    ⟨⟨T0.out, TF.out⟩, TL.out, TI.out⟩
    (fun x a' W => ∃ Bx, Blk W Bx 41 #[.int .i64 x.no, .int .i64 x.fr, .int .i64 x.to, .int .i64 x.x] ∧ a' = { tmps := #[.pointer rp, .func (.func 19) #[] #[], undef, .pointer (some ⟨w.heap.size, 0, none⟩), .pointer (some ⟨w.heap.size + 1, 0, none⟩), .pointer (some ⟨w.heap.size + 1 + 1, 0, none⟩), .pointer (some ⟨Bx, 0, none⟩), undef, .func (.func 38) #[] #[.pointer (some ⟨w.heap.size + 1, 0, none⟩), .pointer (some ⟨w.heap.size + 1 + 1, 0, none⟩)], .func (.func 19) #[] #[], .bool false, .pointer rp, .func (.func 45) #[] #[.pointer (some ⟨ib, 0, none⟩)], .agg #[.int .i64 x.no, .int .i64 x.fr, .int .i64 x.to, .int .i64 x.x], undef, undef, undef, undef, undef, undef, undef, undef, undef, undef, undef, undef, undef, undef], defers := [] }) ?ax ?assign ?body ?done ?stop
  case own =>
    intro pre X Y row hs hg hr
    have hr' : ∀ r, row = some r → ∃ o : Obj, X.heap[r]? = some o ∧ o.isCells = false := fun r e => (hr r e).2
    obtain ⟨⟨f, s⟩, r, n⟩ := hs
    exact ⟨⟨ownFrom_fresh (β := Unit) (by omega) () X Y row f hg hr, blk_grown s hg hr'⟩, blk_grown r hg hr', blk_grown n hg hr'⟩
  case ax =>
    rintro x a' u X Y row ⟨Bx, h2, h3⟩ hg hr
    exact ⟨Bx, blk_grown h2 hg (fun r e => (hr r e).2), h3⟩
  case assign =>
    rintro lp pre x W K ⟨⟨f, s⟩, r, n⟩ hK
    unfold enc
    gi_wp2
    exact hK _ _ ((KeepsOthers.alloc _ _).from _) ((KeepsB.refl _ _ _).alloc _) ⟨⟨f.alloc _, s.alloc _⟩, r.alloc _, n.alloc _⟩ ⟨W.heap.size, Blk.new W _ _, rfl⟩
  case body =>
    rintro lp pre x a' W hlp hrec ⟨⟨f, s⟩, r, n⟩ ⟨Bx, bx, rfl⟩ hlt
    have cf := s.cell
    have cl := r.cell
    have fl := r.frozen
    have ll := r.lt
    have ci := n.cell
    have fi := n.frozen
    have li := n.lt
    have cx := bx.cell
    have hsn := leastL_snoc pre x
    obtain ⟨M, hM⟩ : ∃ M, leastL pre = M := ⟨_, rfl⟩
    rw [hM] at hsn
    simp only [hM] at cl ci r n
    obtain ⟨m, b⟩ := M
    have SN := Lib.hid hsn
    have V1 := Lib.hid f
    have V2 := Lib.hid s
    have V3 := Lib.hid r
    have V4 := Lib.hid n
    have TW := Lib.hid (twice_any x.x W)
    obtain ⟨t, ht⟩ : ∃ t, tw x.x = t := ⟨_, rfl⟩
    rw [ht] at TW
    have HT := Lib.hid ht
    clear hM hsn f s r n bx hrec ht
    have FIN : Hid (lessB (m, b) x = (t, true) → ∀ X, (W.setCell ⟨w.heap.size + 1, 0, none⟩ (.int .i64 t)).setCell ⟨w.heap.size + 1 + 1, 0, none⟩ (.bool true) = X → KeepsFrom w1.heap.size W X ∧ KeepsB (bk v') 41 W X ∧ (Fresh w X ∧ Blk X w.heap.size 54 #[.func (.func 19) #[] #[]]) ∧ (Blk X (w.heap.size + 1) 3 #[.int .i64 (leastL (pre ++ [x])).1] ∧ Blk X (w.heap.size + 1 + 1) 4 #[.bool (leastL (pre ++ [x])).2])) := fun hl X hX => by
      have K1 : Keep (fun k => k = w.heap.size + 1 ∨ k = w.heap.size + 1 + 1) W X := by
        rw [← hX]
        exact Keep.setCell (p := ⟨w.heap.size + 1 + 1, 0, none⟩) (Keep.setCell (S := fun k => k = w.heap.size + 1 ∨ k = w.heap.size + 1 + 1) (p := ⟨w.heap.size + 1, 0, none⟩) (Keep.refl _ _) (fun _ => .inl rfl) _) (fun _ => .inr rfl) _
      refine ⟨(keepsOthers_of_keep K1 ?_).from _, KeepsB.of_keep' K1 ?_, ⟨V1.out.step K1 (by rintro k hk (rfl | rfl) <;> omega), V2.out.keep K1 (by omega)⟩, ?_, ?_⟩
      · rintro k o (rfl | rfl) ho
        · exact blk_isCells V3.out ho
        · exact blk_isCells V4.out ho
      · rintro cur hcur (h | h)
        · rw [h] at hcur
          have := V3.out
          unfold Blk at this
          rw [this] at hcur
          cases hcur
        · rw [h] at hcur
          have := V4.out
          unfold Blk at this
          rw [this] at hcur
          cases hcur
      · rw [SN.out, hl, ← hX]
        exact (V3.out.set_ 0 (.int .i64 t)).far (p := ⟨w.heap.size + 1 + 1, 0, none⟩) (by simp) _
      · rw [SN.out, hl, ← hX]
        exact (V4.out.far (p := ⟨w.heap.size + 1, 0, none⟩) (by simp) _).set_ 0 (.bool true)
    have hTW := TW
    cases b
    · have HL : Hid (lessB (m, false) x = (t, true)) := Lib.hid (by unfold lessB; rw [HT.out]; simp)
      gi_wp2_with ((refine ⟨trivial, ?_⟩; gi_at_call 19; refine (CallsIn.inRound lp (callsIn_wide.2 TW.out)).mono ?_; rintro e w2 ⟨rfl, rfl⟩))
      exact FIN.out HL.out _ rfl
    · cases hc : decide (t < m)
      · have HL : Hid (lessB (m, true) x = (m, true)) := Lib.hid (by unfold lessB; rw [HT.out, hc]; simp)
        gi_wp2_with ((refine ⟨trivial, ?_⟩; gi_at_call 19; refine (CallsIn.inRound lp (callsIn_wide.2 TW.out)).mono ?_; rintro e w2 ⟨rfl, rfl⟩))
        exact ⟨KeepsFrom.refl _ _, KeepsB.refl _ _ _, ⟨V1.out, V2.out⟩, by rw [SN.out, HL.out]; exact V3.out, by rw [SN.out, HL.out]; exact V4.out⟩
      · have HL : Hid (lessB (m, true) x = (t, true)) := Lib.hid (by unfold lessB; rw [HT.out, hc]; simp)
        gi_wp2_with ((refine ⟨trivial, ?_⟩; gi_at_call 19; refine (CallsIn.inRound lp (callsIn_wide.2 TW.out)).mono ?_; rintro e w2 ⟨rfl, rfl⟩))
        exact FIN.out HL.out _ rfl
  case done =>
    rintro D ys W hD rfl ⟨⟨f, s⟩, r, n⟩ hK
    have hDl := (Array.getElem?_eq_some_iff.1 hK).1
    obtain ⟨M, hM⟩ : ∃ M, leastL ys = M := ⟨_, rfl⟩
    rw [hM] at r n
    obtain ⟨m, b⟩ := M
    have cl := r.cell
    have fl := r.frozen
    have ll := r.lt
    have ci := n.cell
    have fi := n.frozen
    have li := n.lt
    have V1 := Lib.hid f
    have V3 := Lib.hid r
    have V4 := Lib.hid n
    have VK := Lib.hid hK
    have HM := Lib.hid hM
    clear f s r n hK hM
    gi_wp2_with fail
    refine wpIn_wide.2 ?_
    go_region
    have K1 : Keep (fun k => k = w.heap.size + 1 ∨ k = w.heap.size + 1 + 1) W ((W.setCell ⟨w.heap.size + 1, 0, none⟩ (.int .i64 m)).setCell ⟨w.heap.size + 1 + 1, 0, none⟩ (.bool b)).drew :=
      (Keep.setCell (p := ⟨w.heap.size + 1 + 1, 0, none⟩) (Keep.setCell (S := fun k => k = w.heap.size + 1 ∨ k = w.heap.size + 1 + 1) (p := ⟨w.heap.size + 1, 0, none⟩) (Keep.refl _ _) (fun _ => .inl rfl) _) (fun _ => .inr rfl) _).drew
    have B1 : Blk ((W.setCell ⟨w.heap.size + 1, 0, none⟩ (.int .i64 m)).setCell ⟨w.heap.size + 1 + 1, 0, none⟩ (.bool b)).drew (w.heap.size + 1) 3 #[.int .i64 m] := ((V3.out.set_ 0 (.int .i64 m)).far (p := ⟨w.heap.size + 1 + 1, 0, none⟩) (by simp) _).drew
    have B2 : Blk ((W.setCell ⟨w.heap.size + 1, 0, none⟩ (.int .i64 m)).setCell ⟨w.heap.size + 1 + 1, 0, none⟩ (.bool b)).drew (w.heap.size + 1 + 1) 4 #[.bool b] := ((V4.out.far (p := ⟨w.heap.size + 1, 0, none⟩) (by simp) _).set_ 0 (.bool b)).drew
    obtain ⟨X, hX⟩ : ∃ X, ((W.setCell ⟨w.heap.size + 1, 0, none⟩ (.int .i64 m)).setCell ⟨w.heap.size + 1 + 1, 0, none⟩ (.bool b)).drew = X := ⟨_, rfl⟩
    rw [hX] at K1 B1 B2 ⊢
    clear hX cl fl ll ci fi li
    have kD := (K1.block D hDl (by omega)).trans VK.out
    have FX : Fresh w X := V1.out.step K1 (by rintro k hk (rfl | rfl) <;> omega)
    have hr : ∀ r, some D = some r → ∃ o : Obj, X.heap[r]? = some o ∧ o.isCells = false := fun r e => by cases e; exact ⟨_, kD, rfl⟩
    have c5 := (blk_grown B1 (grownBy_putObj' _ D (.deferred none)) hr).cell
    have c6 := (blk_grown B2 (grownBy_putObj' _ D (.deferred none)) hr).cell
    have f5 := ownFrom_fresh (β := Unit) (Nat.le_refl w.heap.size) () _ _ _ FX (grownBy_putObj' _ D (.deferred none)) (fun r e => by cases e; exact ⟨by omega, _, kD, rfl⟩)
    have HX := Lib.hid (show LeastP ys w (.returned (.tuple #[.int .i64 m, .bool b])) (X.putObj D (.deferred none)) from ⟨by rw [HM.out], f5⟩)
    have hdef : ∀ K : Exit → Act → World → Prop, True := fun _ => trivial
    clear B1 B2 K1 FX f5 hdef
    gi_wp2_with fail
    refine ⟨by simp, .inl ⟨_, _, rfl, run_takeDeferred kD, ?_⟩⟩
    refine ⟨by simp, .inr ⟨fun h => by omega, _, _, 38, _, rfl, by simp [go_sem]; rfl, fun _ _ => trivial, ?_⟩⟩
    refine (catch_idle ⟨w.heap.size + 1, 0, none⟩ ⟨w.heap.size + 1 + 1, 0, none⟩ _ _).mono ?_
    rintro e u' w'' ⟨rfl, rfl, rfl⟩
    exact ⟨.tuple #[.int .i64 m, .bool b], by simp [results, Try.results18, go_sem, c5, c6]; try rfl, HX.out⟩
  case stop =>
    rintro D c pre W _ _ h _
    exact h.elim
end Go.Proofs.Ytgakggkffapnlaa
