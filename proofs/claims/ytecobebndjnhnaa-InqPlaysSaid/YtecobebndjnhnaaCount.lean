/-
  inq: slices.Values, row.each, row.count.
-/
import Derived.Test.YtecobebndjnhnaaEqE
import Derived.Test.YtecobebndjnhnaaRoundQuiet
namespace Go.Proofs.Ytecobebndjnhnaa
open Go.RowKit Go.Shelf
attribute [local go_sem] Oper.semAt_some
attribute [local go_sem ↓] run_eql_ev

/-- what Values hands back -/
def seqV (b : Nat) : Value := .func (.func 52) #[] #[.pointer (some ⟨b, 0, none⟩)]
theorem values_any (A : Option Addr) (n c : Nat) (w : World) : Calls Try.prog 39 #[.slice A n c] w fun e w' => e = .returned (seqV w.heap.size) ∧ w' = w.alloc (.cells #[.slice A n c] 42) := by
  have hmf : ∀ (fn : Fn) (first cap : Array Value) (w : World), (Instr.makeFunc fn first cap).run Try.prog w = .ok (.func fn first cap) w := fun _ _ _ _ => rfl
  go_enter Try.func39, Try.ntmps39
  go_wp2
  go_ret
  exact ⟨rfl, rfl⟩
theorem each_any (g o : Nat) (A : Option Addr) (n c : Nat) (w : World) (hc : w.cell? ⟨g, o, none⟩ = some (.slice A n c)) : Calls Try.prog 41 #[.pointer (some ⟨g, o, none⟩)] w fun e w' => ∃ b, e = .returned (seqV b) ∧ Blk w' b 42 #[.slice A n c] ∧ w.heap.size ≤ b ∧ Fresh w w' := by
  go_enter Try.func41, Try.ntmps41
  go_wp2_with (go_at_call 39; (with_reducible refine (values_any _ _ _ _).mono ?_); rintro e w1 ⟨rfl, rfl⟩)
  go_ret
  exact ⟨_, rfl, Blk.at_new rfl _ _, Nat.le_refl _, by (repeat (first | (with_reducible exact Keep.refl _ _) | (with_reducible assumption) | (with_reducible refine Keep.drew ?_) | (with_reducible refine Keep.drewN ?_ _) | (with_reducible refine Keep.alloc ?_ _) | (with_reducible refine Keep.setCell ?_ ?_ _) | (with_reducible refine fun _ => rfl)))⟩
/-- how often it is there -/
def cnt (l : List Ev) (x : Ev) : Nat := l.countP (fun y => evB y x)
set_option maxRecDepth 100000 in
set_option maxHeartbeats 4000000 in
theorem count_any (g o : Nat) (v : Value) (l : List Ev) (x : Ev) (w : World) (hc : w.cell? ⟨g, o, none⟩ = some v) (ho : OwnS w 25 7 v l.length (cells l)) (hl : l.length ≤ 100000) :
    Calls Try.prog 38 #[.pointer (some ⟨g, o, none⟩), x.val] w fun e w' => e = .returned (.int .i64 (cnt l x : Nat)) ∧ Fresh w w' := by
  obtain ⟨A, cap, rfl, hnc, hmc⟩ := ho.shape
  have hmc : cap ≤ 9223372036854775807 := by unfold maxLen at hmc; omega
  have HO := Lib.hid ho
  have HE := Lib.hid (fun (W : World) (f : Fresh w W) => each_any g o A l.length cap W (f.cell_ hc))
  clear ho
  unfold Ev.val
  refine (callsIn_wide (n := 6)).1 ?_
  refine callsIn_of_wp_marks Try.func38 rfl trivial ?_ rfl
  simp only [Try.ntmps38, List.size_toArray, List.length_cons, List.length_nil, Nat.reduceAdd, Nat.reduceSub, Array.replicate_succ, Array.replicate_zero, List.push_toArray, List.append_toArray, List.nil_append, List.cons_append]
  refine wpIn_wide.2 ?_
  go_wp2_with (go_at_call 41; (with_reducible refine (HE.out _ (by (repeat (first | (with_reducible exact Keep.refl _ _) | (with_reducible assumption) | (with_reducible refine Keep.drew ?_) | (with_reducible refine Keep.drewN ?_ _) | (with_reducible refine Keep.alloc ?_ _) | (with_reducible refine Keep.setCell ?_ ?_ _) | (with_reducible refine fun _ => rfl))))).mono ?_); rintro e w1 ⟨b1, rfl, B1, N1, F1⟩)
  have E1 := F1.blk_ ((Blk.new w 25 #[.int .i64 x.a, .int .i64 x.s, .int .i64 x.t, .int .i64 x.n, .int .i64 x.d, .int .i64 x.k, .int .i64 x.x]).alloc (.cells #[.int .i64 0] 3))
  have M0 : Blk ((w.alloc (.cells #[.int .i64 x.a, .int .i64 x.s, .int .i64 x.t, .int .i64 x.n, .int .i64 x.d, .int .i64 x.k, .int .i64 x.x] 25)).alloc (.cells #[.int .i64 0] 3)) (w.heap.size + 1) 3 #[.int .i64 0] := Blk.at_new (by simp) _ _
  have M1 := F1.blk_ M0
  clear M0
  have G1 : Fresh w w1 := (((Keep.refl _ w).alloc _).alloc _).step F1 (fun _ _ h => h)
  have KB := Lib.hid B1
  have KE := Lib.hid E1
  have KM := Lib.hid M1
  have KG := Lib.hid G1
  have szF := G1.size
  have szM := M1.lt
  simp only [seqV]
  clear F1 B1 E1 M1 G1 N1 HE hc
  refine (wpIn_wide (n := 6)).1 ?_
  refine wpIn_rangeFunc_ownH rfl (by omega) (gf := 52) (lb := #[.pointer (some ⟨b1, 0, none⟩)]) rfl trivial (enters_of Try.func52 (by kernel_rfl) rfl)
    (vals_stops Fence.wide (6 - 1) trivial rfl (by omega) b1 (.slice A l.length cap) l (by omega) w1 KB.out (HO.out.fresh KG.out)) keepsB_t keepsB_b (Below.refl _ _) (fun _ => rfl)
    (fun pre W => Fresh w W ∧ (Blk W w.heap.size 25 #[.int .i64 x.a, .int .i64 x.s, .int .i64 x.t, .int .i64 x.n, .int .i64 x.d, .int .i64 x.k, .int .i64 x.x] ∧ Blk W (w.heap.size + 1) 3 #[.int .i64 (cnt pre x : Nat)]))
    (fun _ _ _ => False) ?own (fun _ _ _ _ _ hs _ _ => hs)
    ⟨KG.out, KE.out, KM.out⟩
    (fun y a' W => ∃ Bx, Blk W Bx 25 #[.int .i64 y.a, .int .i64 y.s, .int .i64 y.t, .int .i64 y.n, .int .i64 y.d, .int .i64 y.k, .int .i64 y.x] ∧ a' = { tmps := #[.pointer (some ⟨g, o, none⟩), .agg #[.int .i64 x.a, .int .i64 x.s, .int .i64 x.t, .int .i64 x.n, .int .i64 x.d, .int .i64 x.k, .int .i64 x.x], undef, .pointer (some ⟨w.heap.size, 0, none⟩), .int .i64 0, .pointer (some ⟨w.heap.size + 1, 0, none⟩), .pointer (some ⟨Bx, 0, none⟩), .pointer (some ⟨g, o, none⟩), .func (.func 52) #[] #[.pointer (some ⟨b1, 0, none⟩)], .agg #[.int .i64 y.a, .int .i64 y.s, .int .i64 y.t, .int .i64 y.n, .int .i64 y.d, .int .i64 y.k, .int .i64 y.x], undef, undef, undef, undef, undef, undef], defers := [] }) ?ax ?assign ?body ?done ?stop
  case own =>
    intro pre X Y row hs hg hr
    have hr' : ∀ r, row = some r → ∃ o : Obj, X.heap[r]? = some o ∧ o.isCells = false := fun r e => (hr r e).2
    obtain ⟨f, s, n⟩ := hs
    exact ⟨ownFrom_fresh (β := Unit) (by omega) () X Y row f hg hr, blk_grown s hg hr', blk_grown n hg hr'⟩
  case ax =>
    rintro x a' u X Y row ⟨Bx, h2, h3⟩ hg hr
    exact ⟨Bx, blk_grown h2 hg (fun r e => (hr r e).2), h3⟩
  case assign =>
    rintro lp pre y W K ⟨f, s, n⟩ hK
    unfold enc Ev.val
    gi_wp2
    exact hK _ _ ((KeepsOthers.alloc _ _).from _) ((KeepsB.refl _ _ _).alloc _) ⟨f.alloc _, s.alloc _, n.alloc _⟩ ⟨W.heap.size, Blk.new W _ _, rfl⟩
  case body =>
    rintro lp pre y a' W hlp hrec ⟨f, s, n⟩ ⟨Bx, bx, rfl⟩ hlt
    have kX := bx.cell
    have kS := s.cell
    have kN := n.cell
    have fN := n.frozen
    have lN := n.lt
    have hcl : cnt pre x ≤ pre.length := List.countP_le_length
    have hwn : IntKind.i64.wrap ((cnt pre x : Int) + 1) = (cnt pre x : Int) + 1 := IntWalk.i64_in _ (by omega)
    have hap : cnt (pre ++ [y]) x = cnt pre x + (if evB y x then 1 else 0) := by
      unfold cnt
      rw [List.countP_append, List.countP_singleton]
    have HAP := Lib.hid hap
    have U1 := Lib.hid f
    have U2 := Lib.hid s
    have U4 := Lib.hid n
    clear hap f s n bx hrec
    cases hq : evB y x
    · have HQ := Lib.hid hq
      unfold evB at hq
      gi_wp2_with fail
      refine ⟨(keepsOthers_of_keep (S := fun _ => False) (Keep.refl _ W) (fun _ _ h => h.elim)).from _, KeepsB.refl _ _ _, U1.out, U2.out, ?_⟩
      have hz := HAP.out
      rw [HQ.out] at hz
      rw [hz]
      exact U4.out
    · have HQ := Lib.hid hq
      unfold evB at hq
      gi_wp2_with fail
      have K1 : Keep (fun k => k = w.heap.size + 1) W (W.setCell ⟨w.heap.size + 1, 0, none⟩ (.int .i64 ((cnt pre x : Int) + 1))) := Keep.setCell (S := fun k => k = w.heap.size + 1) (Keep.refl _ _) (fun _ => rfl) _
      refine ⟨(keepsOthers_of_keep K1 (by rintro k o rfl ho; exact blk_isCells U4.out ho)).from _, KeepsB.of_keep' K1 ?_, U1.out.step K1 (by rintro k hk rfl; omega), U2.out.keep K1 (by omega), ?_⟩
      · rintro cur hcur h
        rw [h] at hcur
        have := U4.out
        unfold Blk at this
        rw [this] at hcur
        cases hcur
      · have hz := HAP.out
        rw [HQ.out] at hz
        rw [hz]
        have := U4.out.set_ 0 (.int .i64 ((cnt pre x : Int) + 1))
        simpa using this
  case done =>
    rintro D ys W hD rfl ⟨f, s, n⟩ hK
    have hDl := (Array.getElem?_eq_some_iff.1 hK).1
    have cn := n.cell
    have hr : ∀ r, some D = some r → ∃ o : Obj, W.heap[r]? = some o ∧ o.isCells = false := fun r e => by cases e; exact ⟨_, hK, rfl⟩
    have f3 := ownFrom_fresh (β := Unit) (Nat.le_refl w.heap.size) () W _ _ f (grownBy_putObj' W D (.deferred none)) (fun r e => by cases e; exact ⟨by omega, _, hK, rfl⟩)
    have U2 := Lib.hid f3
    clear f s n f3
    go_wp2_with fail
    refine ⟨by simp, .inl ⟨_, _, rfl, run_takeDeferred hK, ?_⟩⟩
    exact ⟨_, results_tmp rfl _ _ _, rfl, U2.out⟩
  case stop =>
    rintro D c pre W _ hp hn _
    exact hn.elim
end Go.Proofs.Ytecobebndjnhnaa
