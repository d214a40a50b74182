/- Chapter 13: RoundQuiet, PCount, PHas, PAwake, PListed, PMore, PEvsE. -/
import Derived.Test.YthbcdkeammhakaaGreatP05
import Derived.Sort.BigQuietIn
set_option maxRecDepth 100000
set_option maxHeartbeats 16000000
namespace Go.Proofs.YthbcdkeammhakaaGreat
open Go.RowKit
section
variable {F : Fence} {n : Nat} {P : Program} {ops : Array Oper} {C : World → Prop}
def noDefer (l : List Oper) : Bool := l.all fun o => match o.op with
 | .defer _ => false
 | _ => true
theorem noDefer_at {l : List Oper} (h : noDefer l = true) {o : Oper} (ho : o ∈ l) : ∀ c, o.op ≠ .defer c := by
 intro c e
 have := List.all_eq_true.1 h o ho
 rw [e] at this
 cases this
theorem round_step {o : Oper} {a : Act} {K : Act → Prop} {K' : Act → World → Prop} {Q' : Exit → Act → World → Prop} {w : World} (hd : ∀ c, o.op ≠ .defer c) (hw : C w) (hK : ∀ a w', C w' → K a → K' a w')
  (ha : o.askedIn F P a C) (hq : o.quietIn F n P a C K) : o.wpIn F n P a w K' Q' := by
 obtain ⟨v, hv, hn⟩ := hq
 have hat := hv w hw
 refine ⟨ha w hw, ?_⟩
 rw [Oper.semAt_eq _ _ _ hd]
 unfold Oper.quietAtIn at hat
 generalize (execOp a.eval o).run P w = r at *
 cases r with
 | halt x w' => exact hat.elim
 | ok x w' =>
  cases x with
  | value u =>
   obtain ⟨rfl, rfl⟩ := hat
   exact hK _ _ hw hn
  | skip =>
   obtain ⟨rfl, rfl⟩ := hat
   exact hK _ _ hw hn
  | enter f args =>
   obtain ⟨rfl, h1, h2⟩ := hat
   exact ⟨h1, h2.mono fun e w2 ⟨he, hw2⟩ => by subst he; exact hK _ _ hw2 hn⟩
  | _ => exact hat.elim
theorem round_any {md : Region.Mode} {Q : Act → Prop} {Q' : Exit → Act → World → Prop} (hd : ∀ o ∈ ops, ∀ c, o.op ≠ .defer c) (hQ : ∀ a w, C w → Q a → Q' .normal a w) : ∀ (fuel : Nat) (listed : Array Bool) (a : Act) (w : World), C w →
  wpAnyQIn F n P md ops C Q fuel listed a → wpAnyIn F n P md ops Q' fuel listed a w
 | 0, _, _, _, hw, h => ⟨h.1, hQ _ _ hw h.2⟩
 | fuel + 1, listed, a, w, hw, h => by
  refine ⟨fun h0 => hQ _ _ hw (h.1 h0), fun i hi => ?_⟩
  have hs := h.2 i hi
  unfold qOpIn at hs
  unfold wpOpIn
  cases ho : ops[i]? with
  | none => simp only [ho] at hs; exact round_any hd hQ fuel _ _ _ hw hs
  | some o =>
   simp only [ho] at hs
   obtain ⟨ha, hs⟩ := hs
   simp only
   split
   ·rename_i hwn
    simp only [hwn, if_true] at hs
    exact round_step (hd o (Array.mem_of_getElem? ho)) hw (fun a' w' hw' => round_any hd hQ fuel _ a' w' hw') ha hs
   ·rename_i hwn
    simp only [hwn] at hs
    exact ⟨ha w hw, round_any hd hQ fuel _ _ _ hw hs⟩
theorem wpIn_region_round {id : Nat} {Q : Exit → Act → World → Prop} {a : Act} {w : World} {l : List Oper} (hd : noDefer l = true) (hm : P.follows .mixedOrders = true) (hB : Region.lexB .any l.toArray = true)
  (h : wpQuietIn F n P l.toArray (fun w' => ∃ n, w' = w.drewN n) (fun a' => ∀ w', (∃ n, w' = w.drewN n) → Q .normal a' w') l a) : (Code.region id l.toArray true).wpIn F n P Q a w := by
 simp only [Region.lexB, Bool.and_eq_true] at hB
 refine wpIn_region_any hm (round_any (Q := fun a' => ∀ w', (∃ n, w' = w.drewN n) → Q .normal a' w') (fun o ho => noDefer_at hd (by simpa using ho)) (fun _ w' hw' h => h w' hw') _ _ _ _ ⟨1, rfl⟩ ?_)
 have := wpAnyQIn_lex (F := F) (n := n) (C := fun w' => ∃ n, w' = w.drewN n) (md := .any) hB.1 l.toArray.toList 0 (Array.replicate l.toArray.size false) a (by simp) (by simpa using hB.2) (by simpa using h)
 simpa using this
end
end Go.Proofs.YthbcdkeammhakaaGreat
namespace Go.Proofs.YthbcdkeammhakaaGreat
open Go.RowKit Go.Shelf
attribute [local go_sem] Oper.semAt_some
attribute [local go_sem ↓] run_eql_ev
def seqV (b : Nat) : Value := .func (.func 143) #[] #[.pointer (some ⟨b, 0, none⟩)]
theorem values_any (A : Option Addr) (n c : Nat) (w : World) : Calls Tryz.prog 124 #[.slice A n c] w fun e w' => e = .returned (seqV w.heap.size) ∧ w' = w.alloc (.cells #[.slice A n c] 24) := by
 have hmf : ∀ (fn : Fn) (first cap : Array Value) (w : World), (Instr.makeFunc fn first cap).run Tryz.prog w = .ok (.func fn first cap) w := fun _ _ _ _ => rfl
 go_enter Tryz.func124, Tryz.ntmps124
 go_wp2
 go_ret
 exact ⟨rfl, rfl⟩
theorem each_any (g o : Nat) (A : Option Addr) (n c : Nat) (w : World) (hc : w.cell? ⟨g, o, none⟩ = some (.slice A n c)) : Calls Tryz.prog 109 #[.pointer (some ⟨g, o, none⟩)] w fun e w' => ∃ b, e = .returned (seqV b) ∧ Blk w' b 24 #[.slice A n c] ∧ w.heap.size ≤ b ∧ Fresh w w' := by
 go_enter Tryz.func109, Tryz.ntmps109
 go_wp2_with (go_at_call 124; (with_reducible refine (values_any _ _ _ _).mono ?_); rintro e w1 ⟨rfl, rfl⟩)
 go_ret
 exact ⟨_, rfl, Blk.at_new rfl _ _, Nat.le_refl _, by (repeat (first | (with_reducible exact Keep.refl _ _) | (with_reducible assumption) | (with_reducible refine Keep.drew ?_) | (with_reducible refine Keep.drewN ?_ _) | (with_reducible refine Keep.alloc ?_ _) | (with_reducible refine Keep.setCell ?_ ?_ _) | (with_reducible refine fun _ => rfl)))⟩
def cnt (l : List Ev) (x : Ev) : Nat := l.countP (fun y => evB y x)
theorem count_any (g o : Nat) (v : Value) (l : List Ev) (x : Ev) (w : World) (hc : w.cell? ⟨g, o, none⟩ = some v) (ho : OwnS w 41 7 v l.length (cells l)) (hl : l.length ≤ 100000) :
  Calls Tryz.prog 125 #[.pointer (some ⟨g, o, none⟩), x.val] w fun e w' => e = .returned (.int .i64 (cnt l x : Nat)) ∧ Fresh w w' := by
 obtain ⟨A, cap, rfl, hnc, hmc⟩ := ho.shape
 have hmc : cap ≤ 9223372036854775807 := by unfold maxLen at hmc; omega
 have HO := Lib.hid ho
 have HE := Lib.hid (fun (W : World) (f : Fresh w W) => each_any g o A l.length cap W (f.cell_ hc))
 clear ho
 unfold Ev.val
 refine (callsIn_wide (n := 6)).1 ?_
 refine callsIn_of_wp_marks Tryz.func125 rfl trivial ?_ rfl
 simp only [Tryz.ntmps125, List.size_toArray, List.length_cons, List.length_nil, Nat.reduceAdd, Nat.reduceSub, Array.replicate_succ, Array.replicate_zero, List.push_toArray, List.append_toArray, List.nil_append, List.cons_append]
 refine wpIn_wide.2 ?_
 go_wp2_with (go_at_call 109; (with_reducible refine (HE.out _ (by (repeat (first | (with_reducible exact Keep.refl _ _) | (with_reducible assumption) | (with_reducible refine Keep.drew ?_) | (with_reducible refine Keep.drewN ?_ _) | (with_reducible refine Keep.alloc ?_ _) | (with_reducible refine Keep.setCell ?_ ?_ _) | (with_reducible refine fun _ => rfl))))).mono ?_); rintro e w1 ⟨b1, rfl, B1, N1, F1⟩)
 have E1 := F1.blk_ ((Blk.new w 41 #[.int .i64 x.a, .int .i64 x.s, .int .i64 x.t, .int .i64 x.n, .int .i64 x.d, .int .i64 x.k, .int .i64 x.x]).alloc (.cells #[.int .i64 0] 3))
 have M0 : Blk ((w.alloc (.cells #[.int .i64 x.a, .int .i64 x.s, .int .i64 x.t, .int .i64 x.n, .int .i64 x.d, .int .i64 x.k, .int .i64 x.x] 41)).alloc (.cells #[.int .i64 0] 3)) (w.heap.size + 1) 3 #[.int .i64 0] := Blk.at_new (by simp) _ _
 have M1 := F1.blk_ M0
 clear M0
 have G1 : Fresh w w1 := (((Keep.refl _ w).alloc _).alloc _).step F1 (fun _ _ h => h)
 have KB := Lib.hid B1
 have KE := Lib.hid E1
 have KM := Lib.hid M1
 have KG := Lib.hid G1
 have szF := G1.size
 have szM := M1.lt
 simp only [seqV]
 clear F1 B1 E1 M1 G1 N1 HE hc
 refine (wpIn_wide (n := 6)).1 ?_
 refine wpIn_rangeFunc_ownH rfl (by omega) (gf := 143) (lb := #[.pointer (some ⟨b1, 0, none⟩)]) rfl trivial (enters_of Tryz.func143 (by kernel_rfl) rfl)
  (vals_stops Fence.wide (6 - 1) trivial rfl (by omega) b1 (.slice A l.length cap) l (by omega) w1 KB.out (HO.out.fresh KG.out)) keepsB_t keepsB_b (Below.refl _ _) (fun _ => rfl)
  (fun pre W => Fresh w W ∧ (Blk W w.heap.size 41 #[.int .i64 x.a, .int .i64 x.s, .int .i64 x.t, .int .i64 x.n, .int .i64 x.d, .int .i64 x.k, .int .i64 x.x] ∧ Blk W (w.heap.size + 1) 3 #[.int .i64 (cnt pre x : Nat)]))
  (fun _ _ _ => False) ?own (fun _ _ _ _ _ hs _ _ => hs)
  ⟨KG.out, KE.out, KM.out⟩
  (fun y a' W => ∃ Bx, Blk W Bx 41 #[.int .i64 y.a, .int .i64 y.s, .int .i64 y.t, .int .i64 y.n, .int .i64 y.d, .int .i64 y.k, .int .i64 y.x] ∧ a' = { tmps := #[.pointer (some ⟨g, o, none⟩), .agg #[.int .i64 x.a, .int .i64 x.s, .int .i64 x.t, .int .i64 x.n, .int .i64 x.d, .int .i64 x.k, .int .i64 x.x], undef, .pointer (some ⟨w.heap.size, 0, none⟩), .int .i64 0, .pointer (some ⟨w.heap.size + 1, 0, none⟩), .pointer (some ⟨Bx, 0, none⟩), .pointer (some ⟨g, o, none⟩), .func (.func 143) #[] #[.pointer (some ⟨b1, 0, none⟩)], .agg #[.int .i64 y.a, .int .i64 y.s, .int .i64 y.t, .int .i64 y.n, .int .i64 y.d, .int .i64 y.k, .int .i64 y.x], undef, undef, undef, undef, undef, undef], defers := [] }) ?ax ?assign ?body ?done ?stop
 case own =>
  intro pre X Y row hs hg hr
  have hr' : ∀ r, row = some r → ∃ o : Obj, X.heap[r]? = some o ∧ o.isCells = false := fun r e => (hr r e).2
  obtain ⟨f, s, n⟩ := hs
  exact ⟨ownFrom_fresh (β := Unit) (by omega) () X Y row f hg hr, blk_grown s hg hr', blk_grown n hg hr'⟩
 case ax =>
  rintro x a' u X Y row ⟨Bx, h2, h3⟩ hg hr
  exact ⟨Bx, blk_grown h2 hg (fun r e => (hr r e).2), h3⟩
 case assign =>
  rintro lp pre y W K ⟨f, s, n⟩ hK
  unfold enc Ev.val
  gi_wp2
  exact hK _ _ ((KeepsOthers.alloc _ _).from _) ((KeepsB.refl _ _ _).alloc _) ⟨f.alloc _, s.alloc _, n.alloc _⟩ ⟨W.heap.size, Blk.new W _ _, rfl⟩
 case body =>
  rintro lp pre y a' W hlp hrec ⟨f, s, n⟩ ⟨Bx, bx, rfl⟩ hlt
  have kX := bx.cell
  have kS := s.cell
  have kN := n.cell
  have fN := n.frozen
  have lN := n.lt
  have hcl : cnt pre x ≤ pre.length := List.countP_le_length
  have hwn : IntKind.i64.wrap ((cnt pre x : Int) + 1) = (cnt pre x : Int) + 1 := IntWalk.i64_in _ (by omega)
  have hap : cnt (pre ++ [y]) x = cnt pre x + (if evB y x then 1 else 0) := by
   unfold cnt
   rw [List.countP_append, List.countP_singleton]
  have HAP := Lib.hid hap
  have U1 := Lib.hid f
  have U2 := Lib.hid s
  have U4 := Lib.hid n
  clear hap f s n bx hrec
  cases hq : evB y x
  ·have HQ := Lib.hid hq
   unfold evB at hq
   gi_wp2_with fail
   refine ⟨(keepsOthers_of_keep (S := fun _ => False) (Keep.refl _ W) (fun _ _ h => h.elim)).from _, KeepsB.refl _ _ _, U1.out, U2.out, ?_⟩
   have hz := HAP.out
   rw [HQ.out] at hz
   rw [hz]
   exact U4.out
  ·have HQ := Lib.hid hq
   unfold evB at hq
   gi_wp2_with fail
   have K1 : Keep (fun k => k = w.heap.size + 1) W (W.setCell ⟨w.heap.size + 1, 0, none⟩ (.int .i64 ((cnt pre x : Int) + 1))) := Keep.setCell (S := fun k => k = w.heap.size + 1) (Keep.refl _ _) (fun _ => rfl) _
   refine ⟨(keepsOthers_of_keep K1 (by rintro k o rfl ho; exact blk_isCells U4.out ho)).from _, KeepsB.of_keep' K1 ?_, U1.out.step K1 (by rintro k hk rfl; omega), U2.out.keep K1 (by omega), ?_⟩
   ·rintro cur hcur h
    rw [h] at hcur
    have := U4.out
    unfold Blk at this
    rw [this] at hcur
    cases hcur
   ·have hz := HAP.out
    rw [HQ.out] at hz
    rw [hz]
    have := U4.out.set_ 0 (.int .i64 ((cnt pre x : Int) + 1))
    simpa using this
 case done =>
  rintro D ys W hD rfl ⟨f, s, n⟩ hK
  have hDl := (Array.getElem?_eq_some_iff.1 hK).1
  have cn := n.cell
  have hr : ∀ r, some D = some r → ∃ o : Obj, W.heap[r]? = some o ∧ o.isCells = false := fun r e => by cases e; exact ⟨_, hK, rfl⟩
  have f3 := ownFrom_fresh (β := Unit) (Nat.le_refl w.heap.size) () W _ _ f (grownBy_putObj' W D (.deferred none)) (fun r e => by cases e; exact ⟨by omega, _, hK, rfl⟩)
  have U2 := Lib.hid f3
  clear f s n f3
  go_wp2_with fail
  refine ⟨by simp, .inl ⟨_, _, rfl, run_takeDeferred hK, ?_⟩⟩
  exact ⟨_, results_tmp rfl _ _ _, rfl, U2.out⟩
 case stop =>
  rintro D c pre W _ hp hn _
  exact hn.elim
end Go.Proofs.YthbcdkeammhakaaGreat
namespace Go.Proofs.YthbcdkeammhakaaGreat
open Go.RowKit Go.Shelf
attribute [local go_sem ↓] Go.wp_at_zero Go.wp_at_succ
theorem has_any (g : Nat) (v1 v2 : Value) (l m : List Ev) (x : Ev) (w : World) (h : SQ w g v1 v2 l m) (hl : l.length ≤ 100000) (hm : m.length ≤ 100000) :
  Calls Tryz.prog 85 #[.pointer (some ⟨g, 0, none⟩), x.val] w fun e w' => e = .returned (.int .i64 ((cnt l x : Int) - (cnt m x : Int))) ∧ Fresh w w' := by
 have H1 : Hid (∀ W, Fresh w W → _) := Lib.hid fun W (f : Fresh w W) => count_any g 0 v1 l x W ((h.fresh f).blk.cell_ 0 rfl) (h.fresh f).own1 hl
 have H2 : Hid (∀ W, Fresh w W → _) := Lib.hid fun W (f : Fresh w W) => count_any g 1 v2 m x W ((h.fresh f).blk.cell_ 1 rfl) (h.fresh f).own2 hm
 have c1 : cnt l x ≤ l.length := List.countP_le_length
 have c2 : cnt m x ≤ m.length := List.countP_le_length
 generalize cnt l x = n1 at H1 c1 ⊢
 generalize cnt m x = n2 at H2 c2 ⊢
 have hw1 : IntKind.i64.wrap ((n1 : Int) - (n2 : Int)) = (n1 : Int) - (n2 : Int) := by rw [IntKind.wrap_i64]; omega
 clear h
 unfold Ev.val at H1 H2 ⊢
 go_enter Tryz.func85, Tryz.ntmps85
 go_wp2_with fail
 have f0 : Fresh w (w.alloc (.cells #[.int .i64 x.a, .int .i64 x.s, .int .i64 x.t, .int .i64 x.n, .int .i64 x.d, .int .i64 x.k, .int .i64 x.x] 41)) := (Keep.refl _ _).alloc _
 have b0 := Blk.new w 41 #[.int .i64 x.a, .int .i64 x.s, .int .i64 x.t, .int .i64 x.n, .int .i64 x.d, .int .i64 x.k, .int .i64 x.x]
 obtain ⟨W0, hW0⟩ : ∃ W0, w.alloc (.cells #[.int .i64 x.a, .int .i64 x.s, .int .i64 x.t, .int .i64 x.n, .int .i64 x.d, .int .i64 x.k, .int .i64 x.x] 41) = W0 := ⟨_, rfl⟩
 rw [hW0] at f0 b0 ⊢
 have F0 := Lib.hid f0
 have B0 := Lib.hid b0
 have d1 := fun (W : World) (f : Fresh W0 W) (i : Nat) => (Fresh.blk_ f B0.out).cell i
 have HX := Lib.hid (show ∀ W, Fresh W0 W → Fresh w W from fun W f => F0.out.step f (fun _ _ h => h))
 clear f0 b0 hW0
 go_region_held3 (fun W' => Fresh W0 W') (exact (fun (f : Fresh W0 _) => f) (by (repeat (first | (with_reducible exact Keep.refl _ _) | (with_reducible assumption) | (with_reducible refine Keep.drew ?_) | (with_reducible refine Keep.drewN ?_ _) | (with_reducible refine Keep.alloc ?_ _) | (with_reducible refine Keep.setCell ?_ ?_ _) | (with_reducible refine fun _ => rfl)))))
  ((first
   | (go_at_call 125; (with_reducible refine (H1.out _ (HX.out _ (by (repeat (first | (with_reducible exact Keep.refl _ _) | (with_reducible assumption) | (with_reducible refine Keep.drew ?_) | (with_reducible refine Keep.drewN ?_ _) | (with_reducible refine Keep.alloc ?_ _) | (with_reducible refine Keep.setCell ?_ ?_ _) | (with_reducible refine fun _ => rfl)))))).mono ?_); rintro en1 w1 ⟨rfl, f1⟩; have f2 := Keep.step (S := fun _ => False) (by (repeat (first | (with_reducible exact Keep.refl _ _) | (with_reducible assumption) | (with_reducible refine Keep.drew ?_) | (with_reducible refine Keep.drewN ?_ _) | (with_reducible refine Keep.alloc ?_ _) | (with_reducible refine Keep.setCell ?_ ?_ _) | (with_reducible refine fun _ => rfl))) : Fresh W0 _) f1 (fun _ _ h => h))
   | (go_at_call 125; (with_reducible refine (H2.out _ (HX.out _ (by (repeat (first | (with_reducible exact Keep.refl _ _) | (with_reducible assumption) | (with_reducible refine Keep.drew ?_) | (with_reducible refine Keep.drewN ?_ _) | (with_reducible refine Keep.alloc ?_ _) | (with_reducible refine Keep.setCell ?_ ?_ _) | (with_reducible refine fun _ => rfl)))))).mono ?_); rintro en1 w1 ⟨rfl, f1⟩; have f3 := Keep.step (S := fun _ => False) (by (repeat (first | (with_reducible exact Keep.refl _ _) | (with_reducible assumption) | (with_reducible refine Keep.drew ?_) | (with_reducible refine Keep.drewN ?_ _) | (with_reducible refine Keep.alloc ?_ _) | (with_reducible refine Keep.setCell ?_ ?_ _) | (with_reducible refine fun _ => rfl))) : Fresh W0 _) f1 (fun _ _ h => h))))
 go_wp2_with fail
 go_ret
 exact ⟨rfl, HX.out _ (by (repeat (first | (with_reducible exact Keep.refl _ _) | (with_reducible assumption) | (with_reducible refine Keep.drew ?_) | (with_reducible refine Keep.drewN ?_ _) | (with_reducible refine Keep.alloc ?_ _) | (with_reducible refine Keep.setCell ?_ ?_ _) | (with_reducible refine fun _ => rfl))))⟩
end Go.Proofs.YthbcdkeammhakaaGreat
namespace Go.Proofs.YthbcdkeammhakaaGreat
open Go.RowKit
attribute [local go_sem ↓] Go.wp_at_zero Go.wp_at_succ
def e0 : Ev := ⟨5, 1, 3, 0, 2, 0, 7⟩
theorem m1 : putMet [] [] e0 false = false ∧ putL [] [] e0 false = [e0] ∧ putB [] [] e0 false = [] := by decide
theorem m2 : putMet [e0] [] e0 true = true ∧ putL [e0] [] e0 true = [] ∧ putB [e0] [] e0 true = [] := by decide
theorem m3 : putMet [] [] e0 true = false ∧ putL [] [] e0 true = [] ∧ putB [] [] e0 true = [e0] := by decide
end Go.Proofs.YthbcdkeammhakaaGreat
namespace Go.Proofs.YthbcdkeammhakaaGreat
open Go.RowKit Go.Shelf
attribute [local go_sem] Oper.semAt_some
theorem run_eql_func' (fn : Fn) (a b : Array Value) (w : World) : (binOp .eql 91 (.func fn a b) .nilFunc).run Tryz.prog w = .ok (.bool false) w := by
 kernel_rfl
attribute [local go_sem] run_eql_func'
def ListedP (l : List Ev) (w : World) (e : Ending) (w' : World) : Prop :=
 ∃ v', e = .returned v' ∧ OwnS w' 41 7 v' l.length (cells l) ∧ Fresh w w' ∧ ∀ k, v'.ownBlock = some k → w.heap.size ≤ k
end Go.Proofs.YthbcdkeammhakaaGreat
namespace Go.Proofs.YthbcdkeammhakaaGreat
open Go.RowKit Go.Shelf
attribute [local go_sem ↓] Go.wp_at_zero Go.wp_at_succ
theorem put_out (g : Nat) (x : Ev) (an : Bool) (w : World) (ha : x.a < 0 ∨ 1073741824 < x.a) :
  Calls Tryz.prog 68 #[.pointer (some ⟨g, 0, none⟩), x.msg an] w fun e w' => e = .returned (.tuple #[.bool false, .int .i64 10]) ∧ Fresh w w' := by
 unfold Ev.msg
 by_cases h1 : x.a < 0
 ·have t1 : decide (x.a < 0) = true := decide_eq_true h1
  go_enter Tryz.func68, Tryz.ntmps68
  go_wp2
  go_ret2
  exact ⟨rfl, by (repeat (first | (with_reducible exact Keep.refl _ _) | (with_reducible assumption) | (with_reducible refine Keep.drew ?_) | (with_reducible refine Keep.drewN ?_ _) | (with_reducible refine Keep.alloc ?_ _) | (with_reducible refine Keep.setCell ?_ ?_ _) | (with_reducible refine fun _ => rfl)))⟩
 ·have t1 : decide (x.a < 0) = false := decide_eq_false h1
  have t2 : decide (1073741824 < x.a) = true := decide_eq_true (by omega)
  go_enter Tryz.func68, Tryz.ntmps68
  go_wp2
  go_ret2
  exact ⟨rfl, by (repeat (first | (with_reducible exact Keep.refl _ _) | (with_reducible assumption) | (with_reducible refine Keep.drew ?_) | (with_reducible refine Keep.drewN ?_ _) | (with_reducible refine Keep.alloc ?_ _) | (with_reducible refine Keep.setCell ?_ ?_ _) | (with_reducible refine fun _ => rfl)))⟩
theorem isNil (w : World) (a : Option Addr) (n c : Nat) : (binOp .eql 24 (.slice a n c) (.slice none 0 0)).run Tryz.prog w = .ok (.bool a.isNone) w := Lib.run_eql_slice_nil w _ _ a n c 0 0 Tryz.underlying24
attribute [local go_sem] isNil
theorem clone_any (v : Value) (n : Nat) (xs : List Value) (w : World) (h : OwnS w 41 7 v n xs) (h1 : ∀ u ∈ xs, u.oneCell' = true) (hn : n ≤ 1000000) :
  Calls Tryz.prog 91 #[v] w fun e w' => ∃ v', e = .returned v' ∧ OwnS w' 41 7 v' n xs ∧ Fresh w w' ∧ ∀ k, v'.ownBlock = some k → w.heap.size ≤ k := by
 rcases h.2 with ⟨rfl, rfl⟩ | ⟨g', off, cap, cur, rfl, _⟩
 ·have hx : xs = [] := List.eq_nil_of_length_eq_zero (by simpa using h.1)
  subst hx
  clear h h1
  go_enter Tryz.func91, Tryz.ntmps91
  go_wp2_with fail
  go_ret
  exact ⟨_, rfl, OwnS.nil _ _ _, Keep.refl _ _, by simp [Value.ownBlock]⟩
 have HO := Lib.hid h
 have H1 := Lib.hid h1
 clear h h1
 obtain ⟨i0, hi, hz0, hz1, hz2⟩ := info_parts info_ev
 have h04 : 0 < 7 := by omega
 have hL1 : 0 + n ≤ maxLen := one_le_maxLen (by omega)
 have hL2 : (0 + n) * 56 ≤ 140737488355328 := by omega
 have HN : Hid (OwnS (w.alloc (.cells #[] 41)) 41 7 (.slice (some ⟨w.heap.size, 0, none⟩) 0 0) 0 []) := OwnS.new_ (Blk.at_new rfl _ #[]) rfl (Nat.zero_le _)
 go_enter Tryz.func91, Tryz.ntmps91
 go_wp2_with (at_builtin; refine wpList_append_OwnS _ rfl _ _ 24 rfl 41 i0 (.agg #[.int .i64 0, .int .i64 0, .int .i64 0, .int .i64 0, .int .i64 0, .int .i64 0, .int .i64 0]) 7 56 Tryz.underlying24 hi hz0 hz1 hz2 rfl h04 (.slice (some ⟨w.heap.size, 0, none⟩) 0 0) 0 [] rfl HN.out (.slice (some ⟨g', off, none⟩) n cap) n xs rfl (HO.out.alloc _).src H1.out hL1 hL2 ?_; intro v' w1 ho1 hk1 hat1)
 go_ret
 refine ⟨v', rfl, by simpa using ho1, Keep.step ((Keep.refl _ w).alloc _) hk1 (fun k hk hk' => by simp [Value.ownBlock] at hk'; omega), fun k hk => ?_⟩
 have := hat1 k hk
 simp [Value.ownBlock] at this
 omega
theorem rclone_any (g o : Nat) (v : Value) (l : List Ev) (w : World) (hc : w.cell? ⟨g, o, none⟩ = some v) (ho : OwnS w 41 7 v l.length (cells l)) (hl : l.length ≤ 100000) :
  Calls Tryz.prog 103 #[.pointer (some ⟨g, o, none⟩)] w fun e w' => ∃ v', e = .returned v' ∧ OwnS w' 41 7 v' l.length (cells l) ∧ Fresh w w' ∧ ∀ k, v'.ownBlock = some k → w.heap.size ≤ k := by
 have HC := Lib.hid (clone_any v _ _ w ho (cells_one l) (by omega))
 obtain ⟨A, cap, rfl, _, _⟩ := ho.shape
 clear ho
 go_enter Tryz.func103, Tryz.ntmps103
 go_wp2_with fail
 refine HC.out.mono ?_
 rintro e w1 ⟨v1, rfl, ho1, hk1, hn1⟩
 obtain ⟨A', cap', rfl, _, _⟩ := ho1.shape
 have P1 := Lib.hid ho1
 have P2 := Lib.hid hk1
 have P3 := Lib.hid hn1
 clear ho1 hk1 hn1
 go_wp2_with fail
 go_ret
 exact ⟨_, rfl, P1.out, P2.out, P3.out⟩
def SeqP (l : List Ev) (w : World) (e : Ending) (w' : World) : Prop :=
 ∃ b v', e = .returned (seqV b) ∧ Blk w' b 24 #[v'] ∧ OwnS w' 41 7 v' l.length (cells l) ∧ Fresh w w'
theorem all_any (g : Nat) (v1 v2 : Value) (l m : List Ev) (w : World) (h : SQ w g v1 v2 l m) (hl : l.length ≤ 100000) : Calls Tryz.prog 84 #[.pointer (some ⟨g, 0, none⟩)] w (SeqP l w) := by
 have HC := Lib.hid (fun W (f : Fresh w W) => rclone_any g 0 v1 l W ((h.fresh f).blk.cell_ 0 rfl) (h.fresh f).own1 hl)
 clear h
 go_enter Tryz.func84, Tryz.ntmps84
 go_wp2_with fail
 refine (HC.out _ (by (repeat (first | (with_reducible exact Keep.refl _ _) | (with_reducible assumption) | (with_reducible refine Keep.drew ?_) | (with_reducible refine Keep.drewN ?_ _) | (with_reducible refine Keep.alloc ?_ _) | (with_reducible refine Keep.setCell ?_ ?_ _) | (with_reducible refine fun _ => rfl))))).mono ?_
 rintro e w1 ⟨v1, rfl, ho1, hk1, hn1⟩
 obtain ⟨A', cap', rfl, _, _⟩ := ho1.shape
 have P1 := Lib.hid ho1
 have P2 := Lib.hid hk1
 clear ho1 hk1 hn1
 go_wp2_with fail
 refine (values_any _ _ _ _).mono ?_
 rintro e w2 ⟨rfl, rfl⟩
 go_wp2_with fail
 go_ret
 exact ⟨_, _, rfl, Blk.at_new rfl _ _, P1.out.alloc _, P2.out.alloc _⟩
def CopyP (l m : List Ev) (w : World) (e : Ending) (w' : World) : Prop :=
 ∃ g' v1' v2', e = .returned (.pointer (some ⟨g', 0, none⟩)) ∧ SQ w' g' v1' v2' l m ∧ Fresh w w' ∧ ∀ k, foot g' v1' v2' k → w.heap.size ≤ k
theorem copy_any (g : Nat) (v1 v2 : Value) (l m : List Ev) (w : World) (h : SQ w g v1 v2 l m) (hl : l.length ≤ 100000) (hm : m.length ≤ 100000) :
  Calls Tryz.prog 58 #[.pointer (some ⟨g, 0, none⟩)] w (CopyP l m w) := by
 have H1 := Lib.hid (fun W (f : Fresh w W) => rclone_any g 0 v1 l W ((h.fresh f).blk.cell_ 0 rfl) (h.fresh f).own1 hl)
 have H2 := Lib.hid (fun W (f : Fresh w W) => rclone_any g 1 v2 m W ((h.fresh f).blk.cell_ 1 rfl) (h.fresh f).own2 hm)
 have S1 := Lib.hid h.s1
 have S2 := Lib.hid h.s2
 clear h
 go_enter Tryz.func58, Tryz.ntmps58
 go_wp2_with fail
 go_region_held3 (fun W' => Fresh w W') (exact (fun (f : Fresh w _) => f) (by (repeat (first | (with_reducible exact Keep.refl _ _) | (with_reducible assumption) | (with_reducible refine Keep.drew ?_) | (with_reducible refine Keep.drewN ?_ _) | (with_reducible refine Keep.alloc ?_ _) | (with_reducible refine Keep.setCell ?_ ?_ _) | (with_reducible refine fun _ => rfl)))))
  ((first
   | (go_at_call 103; (with_reducible refine (H1.out _ (by (repeat (first | (with_reducible exact Keep.refl _ _) | (with_reducible assumption) | (with_reducible refine Keep.drew ?_) | (with_reducible refine Keep.drewN ?_ _) | (with_reducible refine Keep.alloc ?_ _) | (with_reducible refine Keep.setCell ?_ ?_ _) | (with_reducible refine fun _ => rfl))))).mono ?_); rintro e1 w1 ⟨va, rfl, o1, f1, n1⟩; obtain ⟨Aa, ca, rfl, _, _⟩ := o1.shape; have fa := Keep.step (S := fun _ => False) (by (repeat (first | (with_reducible exact Keep.refl _ _) | (with_reducible assumption) | (with_reducible refine Keep.drew ?_) | (with_reducible refine Keep.drewN ?_ _) | (with_reducible refine Keep.alloc ?_ _) | (with_reducible refine Keep.setCell ?_ ?_ _) | (with_reducible refine fun _ => rfl))) : Fresh w _) f1 (fun _ _ h => h); have O1 := Lib.hid o1; have N1 := Lib.hid n1; have FA := Lib.hid fa; clear o1 n1)
   | (go_at_call 103; (with_reducible refine (H2.out _ (by (repeat (first | (with_reducible exact Keep.refl _ _) | (with_reducible assumption) | (with_reducible refine Keep.drew ?_) | (with_reducible refine Keep.drewN ?_ _) | (with_reducible refine Keep.alloc ?_ _) | (with_reducible refine Keep.setCell ?_ ?_ _) | (with_reducible refine fun _ => rfl))))).mono ?_); rintro e2 w2 ⟨vb, rfl, o2, f2, n2⟩; obtain ⟨Ab, cb, rfl, _, _⟩ := o2.shape; have fb := Keep.step (S := fun _ => False) (by (repeat (first | (with_reducible exact Keep.refl _ _) | (with_reducible assumption) | (with_reducible refine Keep.drew ?_) | (with_reducible refine Keep.drewN ?_ _) | (with_reducible refine Keep.alloc ?_ _) | (with_reducible refine Keep.setCell ?_ ?_ _) | (with_reducible refine fun _ => rfl))) : Fresh w _) f2 (fun _ _ h => h); have O2 := Lib.hid o2; have N2 := Lib.hid n2; have FB := Lib.hid fb; clear o2 n2)))
 have L1 : ∀ k, (Value.slice Aa l.length ca).ownBlock = some k → w.heap.size ≤ k ∧ k < w1.heap.size := fun k hk => ⟨N1.out k hk, O1.out.lt hk⟩
 have L2 : ∀ k, (Value.slice Ab m.length cb).ownBlock = some k → w1.heap.size ≤ k ∧ k < w2.heap.size := fun k hk => ⟨N2.out k hk, O2.out.lt hk⟩
 have L1 := Lib.hid L1
 have L2 := Lib.hid L2
 have z1 := FA.out.size
 have z2 := f2.size
 have F2 := Lib.hid f2
 clear f1 f2 fa fb
 go_wp2_with fail
 go_ret
 refine ⟨_, _, _, rfl, ⟨Blk.at_new rfl _ _, (O1.out.fresh F2.out).alloc _, O2.out.alloc _, S1.out, S2.out, fun h => ?_, fun h => ?_, fun k h1 h2 => ?_⟩, FB.out.alloc _, fun k hk => ?_⟩
 ·have := L1.out _ h; omega
 ·have := L2.out _ h; omega
 ·have := L1.out _ h1; have := L2.out _ h2; omega
 ·rcases hk with rfl | hk | hk
  ·omega
  ·exact (L1.out _ hk).1
  ·have := L2.out _ hk; omega
end Go.Proofs.YthbcdkeammhakaaGreat
namespace Go.Proofs.YthbcdkeammhakaaGreat
open Go.RowKit
attribute [local go_sem ↓] Go.wp_at_zero Go.wp_at_succ
attribute [local go_sem ↓] run_eql_ev
theorem run_neq_ev (a s t n d k x a' s' t' n' d' k' x' : Int) (w : World) : (binOp .neq 41 (.agg #[.int .i64 a, .int .i64 s, .int .i64 t, .int .i64 n, .int .i64 d, .int .i64 k, .int .i64 x]) (.agg #[.int .i64 a', .int .i64 s', .int .i64 t', .int .i64 n', .int .i64 d', .int .i64 k', .int .i64 x'])).run Tryz.prog w = .ok (.bool (!(a == a' && (s == s' && (t == t' && (n == n' && (d == d' && (k == k' && x == x')))))))) w := by
 by_cases h1 : a = a'
 rotate_left
 ·have h : (a == a') = false := by simpa using h1
  go_simp
 subst h1
 by_cases h1 : s = s'
 rotate_left
 ·have h : (s == s') = false := by simpa using h1
  go_simp
 subst h1
 by_cases h1 : t = t'
 rotate_left
 ·have h : (t == t') = false := by simpa using h1
  go_simp
 subst h1
 by_cases h1 : n = n'
 rotate_left
 ·have h : (n == n') = false := by simpa using h1
  go_simp
 subst h1
 by_cases h1 : d = d'
 rotate_left
 ·have h : (d == d') = false := by simpa using h1
  go_simp
 subst h1
 by_cases h1 : k = k'
 rotate_left
 ·have h : (k == k') = false := by simpa using h1
  go_simp
 subst h1
 by_cases h1 : x = x'
 rotate_left
 ·have h : (x == x') = false := by simpa using h1
  go_simp
 subst h1
 go_simp
attribute [local go_sem ↓] run_neq_ev
def EvAt (W : World) (v : Value) (l : List Ev) : Prop :=
 ∃ A c, v = .slice A l.length c ∧ ∀ (i : Nat) (x : Ev), l[i]? = some x → ∃ b off, A = some ⟨b, off, none⟩ ∧ b < W.heap.size ∧ ∀ j u, x.enc[j]? = some u → W.cell? ⟨b, off + i * 7 + j, none⟩ = some u
theorem EvAt.fresh {w w' : World} {v : Value} {l : List Ev} (h : EvAt w v l) (f : Fresh w w') : EvAt w' v l := by
 obtain ⟨A, c, rfl, h⟩ := h
 refine ⟨A, c, rfl, fun i x hx => ?_⟩
 obtain ⟨b, off, e, lt, hh⟩ := h i x hx
 exact ⟨b, off, e, Nat.lt_of_lt_of_le lt f.size, fun j u hu => f.cell_ (hh j u hu)⟩
theorem OwnS.evs {w : World} {v : Value} {l : List Ev} (h : OwnS w 41 7 v l.length (cells l)) : EvAt w v l := by
 obtain ⟨A, c, rfl, _, _⟩ := h.shape
 refine ⟨A, c, rfl, fun i x hx => ?_⟩
 have hi := (List.getElem?_eq_some_iff.1 hx).1
 obtain ⟨g', off, cap', hv, hg, _, _, hc⟩ := h.form (by omega)
 injection hv with e1 e2 e3
 subst e1 e3
 refine ⟨g', off, rfl, hg, fun j u hu => ?_⟩
 obtain ⟨c0, c1, c2, c3, c4, c5, c6⟩ := cells_at l i x hx
 rw [show off + i * 7 + j = off + (i * 7 + j) by omega]
 refine hc _ _ ?_
 unfold Ev.enc at hu
 match j, hu with
 | 0, hu => simp at hu; subst hu; exact c0
 | 1, hu => simp at hu; subst hu; exact c1
 | 2, hu => simp at hu; subst hu; exact c2
 | 3, hu => simp at hu; subst hu; exact c3
 | 4, hu => simp at hu; subst hu; exact c4
 | 5, hu => simp at hu; subst hu; exact c5
 | 6, hu => simp at hu; subst hu; exact c6
 | j + 7, hu => simp at hu
theorem events_any (v u : Value) (l m : List Ev) (w : World) (hv : EvAt w v l) (hu : EvAt w u m) (hl : l.length ≤ 1000000) (_hm : m.length ≤ 1000000) :
  Calls Tryz.prog 17 #[v, u] w fun e w' => e = .returned (.bool (decide (l = m))) ∧ Fresh w w' := by
 obtain ⟨A, c, rfl, hv⟩ := hv
 obtain ⟨B, d, rfl, hu⟩ := hu
 generalize hfin : decide (l = m) = fin
 have FIN := Lib.hid hfin
 have HV := Lib.hid hv
 have HU := Lib.hid hu
 clear hfin hv hu
 by_cases hlen : l.length = m.length
 rotate_left
 ·have t1 : ((l.length : Int) != (m.length : Int)) = true := by simp; omega
  have t2 : (l.length != m.length) = true := by simp; omega
  obtain rfl : fin = false := by rw [← FIN.out]; exact decide_eq_false (fun h => hlen (by rw [h]))
  go_enter Tryz.func17, Tryz.ntmps17
  go_wp2_with fail
  go_ret
  exact ⟨rfl, Keep.refl _ _⟩
 rw [← hlen]
 have HL := Lib.hid hlen
 clear hlen _hm
 go_enter Tryz.func17, Tryz.ntmps17
 go_wp2_with fail
 go_loopg [5] l.length (fun gk u5 wr => ∃ q : Nat, q ≤ l.length ∧ gk = l.length - q ∧ u5 = .int .i64 q ∧ l.take q = m.take q ∧ Fresh w wr)
 case atStart => exact ⟨0, by omega, rfl, rfl, rfl, Keep.refl _ _⟩
 case round =>
  obtain ⟨q, hq, rfl, rfl, hT, hF⟩ := hrel
  have HF := Lib.hid hF
  have HT := Lib.hid hT
  clear hF hT
  by_cases hlt : q < l.length
  ·obtain ⟨x, hx⟩ : ∃ x, l[q]? = some x := ⟨_, List.getElem?_eq_getElem hlt⟩
   obtain ⟨y, hy⟩ : ∃ y, m[q]? = some y := ⟨_, List.getElem?_eq_getElem (by have := HL.out; omega)⟩
   obtain ⟨b0, off, rfl, lt0, hO⟩ := HV.out q x hx
   obtain ⟨b1, off1, rfl, lt1, hP⟩ := HU.out q y hy
   have x0 := HF.out.cell_ (hO 0 (.int .i64 x.a) rfl)
   have x1 := HF.out.cell_ (hO 1 (.int .i64 x.s) rfl)
   have x2 := HF.out.cell_ (hO 2 (.int .i64 x.t) rfl)
   have x3 := HF.out.cell_ (hO 3 (.int .i64 x.n) rfl)
   have x4 := HF.out.cell_ (hO 4 (.int .i64 x.d) rfl)
   have x5 := HF.out.cell_ (hO 5 (.int .i64 x.k) rfl)
   have x6 := HF.out.cell_ (hO 6 (.int .i64 x.x) rfl)
   have y0 := HF.out.cell_ (hP 0 (.int .i64 y.a) rfl)
   have y1 := HF.out.cell_ (hP 1 (.int .i64 y.s) rfl)
   have y2 := HF.out.cell_ (hP 2 (.int .i64 y.t) rfl)
   have y3 := HF.out.cell_ (hP 3 (.int .i64 y.n) rfl)
   have y4 := HF.out.cell_ (hP 4 (.int .i64 y.d) rfl)
   have y5 := HF.out.cell_ (hP 5 (.int .i64 y.k) rfl)
   have y6 := HF.out.cell_ (hP 6 (.int .i64 y.x) rfl)
   rw [Nat.add_zero] at x0 y0
   have lb0 : b0 < wr.heap.size := Nat.lt_of_lt_of_le lt0 HF.out.size
   have lb1 : b1 < wr.heap.size := Nat.lt_of_lt_of_le lt1 HF.out.size
   have HX := Lib.hid hx
   have HY := Lib.hid hy
   clear hO hP hx hy lt0 lt1
   cases hq : evB x y
   ·have hf := Lib.hid (show fin = false by
     rw [← FIN.out]
     refine decide_eq_false (fun h => ?_)
     have h1 := HX.out
     rw [h, HY.out] at h1
     injection h1 with h1
     rw [(evB_iff x y).2 h1.symm] at hq
     cases hq)
    unfold evB at hq
    go_wp2_with fail
    go_quiet (fail)
    go_wp2_with fail
    obtain rfl := hf.out
    go_ret
    exact ⟨rfl, HF.out.drewN _⟩
   ·have HT2 := Lib.hid (show l.take (q + 1) = m.take (q + 1) by
     rw [List.take_add_one, List.take_add_one, HT.out, HX.out, HY.out, (evB_iff x y).1 hq])
    unfold evB at hq
    go_wp2_with fail
    go_quiet (fail)
    go_wp2_with fail
    go_roundg (l.length - (q + 1))
    case measure => omega
    case rel => exact ⟨q + 1, by omega, rfl, by go_num, HT2.out, HF.out.drewN _⟩
  ·obtain rfl : q = l.length := by omega
   have hf := Lib.hid (show fin = true by
    rw [← FIN.out]
    have h1 := HT.out
    rw [List.take_length, HL.out, List.take_length] at h1
    exact decide_eq_true h1)
   go_wp2_with fail
   obtain rfl := hf.out
   go_ret
   exact ⟨rfl, HF.out⟩
end Go.Proofs.YthbcdkeammhakaaGreat
