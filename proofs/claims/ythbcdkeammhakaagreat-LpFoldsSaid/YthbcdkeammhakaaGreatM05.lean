/- Chapter 13: PEqE, RoundQuiet, PCount, PHas. -/
import Derived.Test.YthbcdkeammhakaaGreatM04
import Derived.Test.YthbcdkeammhakaaGreatM00
import Derived.Sort.BigQuietIn
import Derived.Shelf.Abstract
import Derived.Shelf.RegionOpen
/-
  Events compared.
-/
namespace Go.Proofs.YthbcdkeammhakaaGreat
open Go.RowKit
def evB (p q : Ev) : Bool := p.a == q.a && (p.s == q.s && (p.t == q.t && (p.n == q.n && (p.d == q.d && (p.k == q.k && p.x == q.x)))))
theorem evB_iff (p q : Ev) : evB p q = true ↔ p = q := by
  cases p; cases q
  simp [evB]
theorem run_eql_ev (a s t n d k x a' s' t' n' d' k' x' : Int) (w : World) : (binOp .eql 41 (.agg #[.int .i64 a, .int .i64 s, .int .i64 t, .int .i64 n, .int .i64 d, .int .i64 k, .int .i64 x]) (.agg #[.int .i64 a', .int .i64 s', .int .i64 t', .int .i64 n', .int .i64 d', .int .i64 k', .int .i64 x'])).run Tryz.prog w = .ok (.bool (a == a' && (s == s' && (t == t' && (n == n' && (d == d' && (k == k' && x == x'))))))) w := by
  by_cases h1 : a = a'
  rotate_left
  · have h : (a == a') = false := by simpa using h1
    go_simp
  subst h1
  by_cases h1 : s = s'
  rotate_left
  · have h : (s == s') = false := by simpa using h1
    go_simp
  subst h1
  by_cases h1 : t = t'
  rotate_left
  · have h : (t == t') = false := by simpa using h1
    go_simp
  subst h1
  by_cases h1 : n = n'
  rotate_left
  · have h : (n == n') = false := by simpa using h1
    go_simp
  subst h1
  by_cases h1 : d = d'
  rotate_left
  · have h : (d == d') = false := by simpa using h1
    go_simp
  subst h1
  by_cases h1 : k = k'
  rotate_left
  · have h : (k == k') = false := by simpa using h1
    go_simp
  subst h1
  by_cases h1 : x = x'
  rotate_left
  · have h : (x == x') = false := by simpa using h1
    go_simp
  subst h1
  go_simp
end Go.Proofs.YthbcdkeammhakaaGreat

/-
  A region that draws its order and only reads, inside a round of a loop over an iterator: one walk of the text's order serves every order.
-/
namespace Go.Proofs.YthbcdkeammhakaaGreat
open Go.RowKit

section
variable {F : Fence} {n : Nat} {P : Program} {ops : Array Oper} {C : World → Prop}
def noDefer (l : List Oper) : Bool := l.all fun o => match o.op with
  | .defer _ => false
  | _ => true
theorem noDefer_at {l : List Oper} (h : noDefer l = true) {o : Oper} (ho : o ∈ l) : ∀ c, o.op ≠ .defer c := by
  intro c e
  have := List.all_eq_true.1 h o ho
  rw [e] at this
  cases this

theorem round_step {o : Oper} {a : Act} {K : Act → Prop} {K' : Act → World → Prop} {Q' : Exit → Act → World → Prop} {w : World} (hd : ∀ c, o.op ≠ .defer c) (hw : C w) (hK : ∀ a w', C w' → K a → K' a w')
    (ha : o.askedIn F P a C) (hq : o.quietIn F n P a C K) : o.wpIn F n P a w K' Q' := by
  obtain ⟨v, hv, hn⟩ := hq
  have hat := hv w hw
  refine ⟨ha w hw, ?_⟩
  rw [Oper.semAt_eq _ _ _ hd]
  unfold Oper.quietAtIn at hat
  generalize (execOp a.eval o).run P w = r at *
  cases r with
  | halt x w' => exact hat.elim
  | ok x w' =>
    cases x with
    | value u =>
      obtain ⟨rfl, rfl⟩ := hat
      exact hK _ _ hw hn
    | skip =>
      obtain ⟨rfl, rfl⟩ := hat
      exact hK _ _ hw hn
    | enter f args =>
      obtain ⟨rfl, h1, h2⟩ := hat
      exact ⟨h1, h2.mono fun e w2 ⟨he, hw2⟩ => by subst he; exact hK _ _ hw2 hn⟩
    | _ => exact hat.elim

theorem round_any {md : Region.Mode} {Q : Act → Prop} {Q' : Exit → Act → World → Prop} (hd : ∀ o ∈ ops, ∀ c, o.op ≠ .defer c) (hQ : ∀ a w, C w → Q a → Q' .normal a w) : ∀ (fuel : Nat) (listed : Array Bool) (a : Act) (w : World), C w →
    wpAnyQIn F n P md ops C Q fuel listed a → wpAnyIn F n P md ops Q' fuel listed a w
  | 0, _, _, _, hw, h => ⟨h.1, hQ _ _ hw h.2⟩
  | fuel + 1, listed, a, w, hw, h => by
    refine ⟨fun h0 => hQ _ _ hw (h.1 h0), fun i hi => ?_⟩
    have hs := h.2 i hi
    unfold qOpIn at hs
    unfold wpOpIn
    cases ho : ops[i]? with
    | none => simp only [ho] at hs; exact round_any hd hQ fuel _ _ _ hw hs
    | some o =>
      simp only [ho] at hs
      obtain ⟨ha, hs⟩ := hs
      simp only
      split
      · rename_i hwn
        simp only [hwn, if_true] at hs
        exact round_step (hd o (Array.mem_of_getElem? ho)) hw (fun a' w' hw' => round_any hd hQ fuel _ a' w' hw') ha hs
      · rename_i hwn
        simp only [hwn] at hs
        exact ⟨ha w hw, round_any hd hQ fuel _ _ _ hw hs⟩

theorem wpIn_region_round {id : Nat} {Q : Exit → Act → World → Prop} {a : Act} {w : World} {l : List Oper} (hd : noDefer l = true) (hm : P.follows .mixedOrders = true) (hB : Region.lexB .any l.toArray = true)
    (h : wpQuietIn F n P l.toArray (fun w' => ∃ n, w' = w.drewN n) (fun a' => ∀ w', (∃ n, w' = w.drewN n) → Q .normal a' w') l a) : (Code.region id l.toArray true).wpIn F n P Q a w := by
  simp only [Region.lexB, Bool.and_eq_true] at hB
  refine wpIn_region_any hm (round_any (Q := fun a' => ∀ w', (∃ n, w' = w.drewN n) → Q .normal a' w') (fun o ho => noDefer_at hd (by simpa using ho)) (fun _ w' hw' h => h w' hw') _ _ _ _ ⟨1, rfl⟩ ?_)
  have := wpAnyQIn_lex (F := F) (n := n) (C := fun w' => ∃ n, w' = w.drewN n) (md := .any) hB.1 l.toArray.toList 0 (Array.replicate l.toArray.size false) a (by simp) (by simpa using hB.2) (by simpa using h)
  simpa using this
end
end Go.Proofs.YthbcdkeammhakaaGreat

/-
  inq: slices.Values, row.each, row.count.
-/
namespace Go.Proofs.YthbcdkeammhakaaGreat
open Go.RowKit Go.Shelf
attribute [local go_sem] Oper.semAt_some
attribute [local go_sem ↓] run_eql_ev

/-- what Values hands back -/
def seqV (b : Nat) : Value := .func (.func 143) #[] #[.pointer (some ⟨b, 0, none⟩)]
theorem values_any (A : Option Addr) (n c : Nat) (w : World) : Calls Tryz.prog 124 #[.slice A n c] w fun e w' => e = .returned (seqV w.heap.size) ∧ w' = w.alloc (.cells #[.slice A n c] 24) := by
  have hmf : ∀ (fn : Fn) (first cap : Array Value) (w : World), (Instr.makeFunc fn first cap).run Tryz.prog w = .ok (.func fn first cap) w := fun _ _ _ _ => rfl
  go_enter Tryz.func124, Tryz.ntmps124
  go_wp2
  go_ret
  exact ⟨rfl, rfl⟩
theorem each_any (g o : Nat) (A : Option Addr) (n c : Nat) (w : World) (hc : w.cell? ⟨g, o, none⟩ = some (.slice A n c)) : Calls Tryz.prog 109 #[.pointer (some ⟨g, o, none⟩)] w fun e w' => ∃ b, e = .returned (seqV b) ∧ Blk w' b 24 #[.slice A n c] ∧ w.heap.size ≤ b ∧ Fresh w w' := by
  go_enter Tryz.func109, Tryz.ntmps109
  go_wp2_with (go_at_call 124; (with_reducible refine (values_any _ _ _ _).mono ?_); rintro e w1 ⟨rfl, rfl⟩)
  go_ret
  exact ⟨_, rfl, Blk.at_new rfl _ _, Nat.le_refl _, by (repeat (first | (with_reducible exact Keep.refl _ _) | (with_reducible assumption) | (with_reducible refine Keep.drew ?_) | (with_reducible refine Keep.drewN ?_ _) | (with_reducible refine Keep.alloc ?_ _) | (with_reducible refine Keep.setCell ?_ ?_ _) | (with_reducible refine fun _ => rfl)))⟩
/-- how often it is there -/
def cnt (l : List Ev) (x : Ev) : Nat := l.countP (fun y => evB y x)
set_option maxRecDepth 100000 in
set_option maxHeartbeats 4000000 in
theorem count_any (g o : Nat) (v : Value) (l : List Ev) (x : Ev) (w : World) (hc : w.cell? ⟨g, o, none⟩ = some v) (ho : OwnS w 41 7 v l.length (cells l)) (hl : l.length ≤ 100000) :
    Calls Tryz.prog 125 #[.pointer (some ⟨g, o, none⟩), x.val] w fun e w' => e = .returned (.int .i64 (cnt l x : Nat)) ∧ Fresh w w' := by
  obtain ⟨A, cap, rfl, hnc, hmc⟩ := ho.shape
  have hmc : cap ≤ 9223372036854775807 := by unfold maxLen at hmc; omega
  have HO := Lib.hid ho
  have HE := Lib.hid (fun (W : World) (f : Fresh w W) => each_any g o A l.length cap W (f.cell_ hc))
  clear ho
  unfold Ev.val
  refine (callsIn_wide (n := 6)).1 ?_
  refine callsIn_of_wp_marks Tryz.func125 rfl trivial ?_ rfl
  simp only [Tryz.ntmps125, List.size_toArray, List.length_cons, List.length_nil, Nat.reduceAdd, Nat.reduceSub, Array.replicate_succ, Array.replicate_zero, List.push_toArray, List.append_toArray, List.nil_append, List.cons_append]
  refine wpIn_wide.2 ?_
  go_wp2_with (go_at_call 109; (with_reducible refine (HE.out _ (by (repeat (first | (with_reducible exact Keep.refl _ _) | (with_reducible assumption) | (with_reducible refine Keep.drew ?_) | (with_reducible refine Keep.drewN ?_ _) | (with_reducible refine Keep.alloc ?_ _) | (with_reducible refine Keep.setCell ?_ ?_ _) | (with_reducible refine fun _ => rfl))))).mono ?_); rintro e w1 ⟨b1, rfl, B1, N1, F1⟩)
  have E1 := F1.blk_ ((Blk.new w 41 #[.int .i64 x.a, .int .i64 x.s, .int .i64 x.t, .int .i64 x.n, .int .i64 x.d, .int .i64 x.k, .int .i64 x.x]).alloc (.cells #[.int .i64 0] 3))
  have M0 : Blk ((w.alloc (.cells #[.int .i64 x.a, .int .i64 x.s, .int .i64 x.t, .int .i64 x.n, .int .i64 x.d, .int .i64 x.k, .int .i64 x.x] 41)).alloc (.cells #[.int .i64 0] 3)) (w.heap.size + 1) 3 #[.int .i64 0] := Blk.at_new (by simp) _ _
  have M1 := F1.blk_ M0
  clear M0
  have G1 : Fresh w w1 := (((Keep.refl _ w).alloc _).alloc _).step F1 (fun _ _ h => h)
  have KB := Lib.hid B1
  have KE := Lib.hid E1
  have KM := Lib.hid M1
  have KG := Lib.hid G1
  have szF := G1.size
  have szM := M1.lt
  simp only [seqV]
  clear F1 B1 E1 M1 G1 N1 HE hc
  refine (wpIn_wide (n := 6)).1 ?_
  refine wpIn_rangeFunc_ownH rfl (by omega) (gf := 143) (lb := #[.pointer (some ⟨b1, 0, none⟩)]) rfl trivial (enters_of Tryz.func143 (by kernel_rfl) rfl)
    (vals_stops Fence.wide (6 - 1) trivial rfl (by omega) b1 (.slice A l.length cap) l (by omega) w1 KB.out (HO.out.fresh KG.out)) keepsB_t keepsB_b (Below.refl _ _) (fun _ => rfl)
    (fun pre W => Fresh w W ∧ (Blk W w.heap.size 41 #[.int .i64 x.a, .int .i64 x.s, .int .i64 x.t, .int .i64 x.n, .int .i64 x.d, .int .i64 x.k, .int .i64 x.x] ∧ Blk W (w.heap.size + 1) 3 #[.int .i64 (cnt pre x : Nat)]))
    (fun _ _ _ => False) ?own (fun _ _ _ _ _ hs _ _ => hs)
    ⟨KG.out, KE.out, KM.out⟩
    (fun y a' W => ∃ Bx, Blk W Bx 41 #[.int .i64 y.a, .int .i64 y.s, .int .i64 y.t, .int .i64 y.n, .int .i64 y.d, .int .i64 y.k, .int .i64 y.x] ∧ a' = { tmps := #[.pointer (some ⟨g, o, none⟩), .agg #[.int .i64 x.a, .int .i64 x.s, .int .i64 x.t, .int .i64 x.n, .int .i64 x.d, .int .i64 x.k, .int .i64 x.x], undef, .pointer (some ⟨w.heap.size, 0, none⟩), .int .i64 0, .pointer (some ⟨w.heap.size + 1, 0, none⟩), .pointer (some ⟨Bx, 0, none⟩), .pointer (some ⟨g, o, none⟩), .func (.func 143) #[] #[.pointer (some ⟨b1, 0, none⟩)], .agg #[.int .i64 y.a, .int .i64 y.s, .int .i64 y.t, .int .i64 y.n, .int .i64 y.d, .int .i64 y.k, .int .i64 y.x], undef, undef, undef, undef, undef, undef], defers := [] }) ?ax ?assign ?body ?done ?stop
  case own =>
    intro pre X Y row hs hg hr
    have hr' : ∀ r, row = some r → ∃ o : Obj, X.heap[r]? = some o ∧ o.isCells = false := fun r e => (hr r e).2
    obtain ⟨f, s, n⟩ := hs
    exact ⟨ownFrom_fresh (β := Unit) (by omega) () X Y row f hg hr, blk_grown s hg hr', blk_grown n hg hr'⟩
  case ax =>
    rintro x a' u X Y row ⟨Bx, h2, h3⟩ hg hr
    exact ⟨Bx, blk_grown h2 hg (fun r e => (hr r e).2), h3⟩
  case assign =>
    rintro lp pre y W K ⟨f, s, n⟩ hK
    unfold enc Ev.val
    gi_wp2
    exact hK _ _ ((KeepsOthers.alloc _ _).from _) ((KeepsB.refl _ _ _).alloc _) ⟨f.alloc _, s.alloc _, n.alloc _⟩ ⟨W.heap.size, Blk.new W _ _, rfl⟩
  case body =>
    rintro lp pre y a' W hlp hrec ⟨f, s, n⟩ ⟨Bx, bx, rfl⟩ hlt
    have kX := bx.cell
    have kS := s.cell
    have kN := n.cell
    have fN := n.frozen
    have lN := n.lt
    have hcl : cnt pre x ≤ pre.length := List.countP_le_length
    have hwn : IntKind.i64.wrap ((cnt pre x : Int) + 1) = (cnt pre x : Int) + 1 := IntWalk.i64_in _ (by omega)
    have hap : cnt (pre ++ [y]) x = cnt pre x + (if evB y x then 1 else 0) := by
      unfold cnt
      rw [List.countP_append, List.countP_singleton]
    have HAP := Lib.hid hap
    have U1 := Lib.hid f
    have U2 := Lib.hid s
    have U4 := Lib.hid n
    clear hap f s n bx hrec
    cases hq : evB y x
    · have HQ := Lib.hid hq
      unfold evB at hq
      gi_wp2_with fail
      refine ⟨(keepsOthers_of_keep (S := fun _ => False) (Keep.refl _ W) (fun _ _ h => h.elim)).from _, KeepsB.refl _ _ _, U1.out, U2.out, ?_⟩
      have hz := HAP.out
      rw [HQ.out] at hz
      rw [hz]
      exact U4.out
    · have HQ := Lib.hid hq
      unfold evB at hq
      gi_wp2_with fail
      have K1 : Keep (fun k => k = w.heap.size + 1) W (W.setCell ⟨w.heap.size + 1, 0, none⟩ (.int .i64 ((cnt pre x : Int) + 1))) := Keep.setCell (S := fun k => k = w.heap.size + 1) (Keep.refl _ _) (fun _ => rfl) _
      refine ⟨(keepsOthers_of_keep K1 (by rintro k o rfl ho; exact blk_isCells U4.out ho)).from _, KeepsB.of_keep' K1 ?_, U1.out.step K1 (by rintro k hk rfl; omega), U2.out.keep K1 (by omega), ?_⟩
      · rintro cur hcur h
        rw [h] at hcur
        have := U4.out
        unfold Blk at this
        rw [this] at hcur
        cases hcur
      · have hz := HAP.out
        rw [HQ.out] at hz
        rw [hz]
        have := U4.out.set_ 0 (.int .i64 ((cnt pre x : Int) + 1))
        simpa using this
  case done =>
    rintro D ys W hD rfl ⟨f, s, n⟩ hK
    have hDl := (Array.getElem?_eq_some_iff.1 hK).1
    have cn := n.cell
    have hr : ∀ r, some D = some r → ∃ o : Obj, W.heap[r]? = some o ∧ o.isCells = false := fun r e => by cases e; exact ⟨_, hK, rfl⟩
    have f3 := ownFrom_fresh (β := Unit) (Nat.le_refl w.heap.size) () W _ _ f (grownBy_putObj' W D (.deferred none)) (fun r e => by cases e; exact ⟨by omega, _, hK, rfl⟩)
    have U2 := Lib.hid f3
    clear f s n f3
    go_wp2_with fail
    refine ⟨by simp, .inl ⟨_, _, rfl, run_takeDeferred hK, ?_⟩⟩
    exact ⟨_, results_tmp rfl _ _ _, rfl, U2.out⟩
  case stop =>
    rintro D c pre W _ hp hn _
    exact hn.elim
end Go.Proofs.YthbcdkeammhakaaGreat

/-
  inq.Queue: Has.
-/
namespace Go.Proofs.YthbcdkeammhakaaGreat
open Go.RowKit Go.Shelf
attribute [local go_sem ↓] Go.wp_at_zero Go.wp_at_succ

set_option maxHeartbeats 1000000 in
set_option maxRecDepth 100000 in
theorem has_any (g : Nat) (v1 v2 : Value) (l m : List Ev) (x : Ev) (w : World) (h : SQ w g v1 v2 l m) (hl : l.length ≤ 100000) (hm : m.length ≤ 100000) :
    Calls Tryz.prog 85 #[.pointer (some ⟨g, 0, none⟩), x.val] w fun e w' => e = .returned (.int .i64 ((cnt l x : Int) - (cnt m x : Int))) ∧ Fresh w w' := by
  have H1 : Hid (∀ W, Fresh w W → _) := Lib.hid fun W (f : Fresh w W) => count_any g 0 v1 l x W ((h.fresh f).blk.cell_ 0 rfl) (h.fresh f).own1 hl
  have H2 : Hid (∀ W, Fresh w W → _) := Lib.hid fun W (f : Fresh w W) => count_any g 1 v2 m x W ((h.fresh f).blk.cell_ 1 rfl) (h.fresh f).own2 hm
  have c1 : cnt l x ≤ l.length := List.countP_le_length
  have c2 : cnt m x ≤ m.length := List.countP_le_length
  generalize cnt l x = n1 at H1 c1 ⊢
  generalize cnt m x = n2 at H2 c2 ⊢
  have hw1 : IntKind.i64.wrap ((n1 : Int) - (n2 : Int)) = (n1 : Int) - (n2 : Int) := by rw [IntKind.wrap_i64]; omega
  clear h
  unfold Ev.val at H1 H2 ⊢
  go_enter Tryz.func85, Tryz.ntmps85
  go_wp2_with fail
  have f0 : Fresh w (w.alloc (.cells #[.int .i64 x.a, .int .i64 x.s, .int .i64 x.t, .int .i64 x.n, .int .i64 x.d, .int .i64 x.k, .int .i64 x.x] 41)) := (Keep.refl _ _).alloc _
  have b0 := Blk.new w 41 #[.int .i64 x.a, .int .i64 x.s, .int .i64 x.t, .int .i64 x.n, .int .i64 x.d, .int .i64 x.k, .int .i64 x.x]
  obtain ⟨W0, hW0⟩ : ∃ W0, w.alloc (.cells #[.int .i64 x.a, .int .i64 x.s, .int .i64 x.t, .int .i64 x.n, .int .i64 x.d, .int .i64 x.k, .int .i64 x.x] 41) = W0 := ⟨_, rfl⟩
  rw [hW0] at f0 b0 ⊢
  have F0 := Lib.hid f0
  have B0 := Lib.hid b0
  have d1 := fun (W : World) (f : Fresh W0 W) (i : Nat) => (Fresh.blk_ f B0.out).cell i
  have HX := Lib.hid (show ∀ W, Fresh W0 W → Fresh w W from fun W f => F0.out.step f (fun _ _ h => h))
  clear f0 b0 hW0
  go_region_held3 (fun W' => Fresh W0 W') (exact (fun (f : Fresh W0 _) => f) (by (repeat (first | (with_reducible exact Keep.refl _ _) | (with_reducible assumption) | (with_reducible refine Keep.drew ?_) | (with_reducible refine Keep.drewN ?_ _) | (with_reducible refine Keep.alloc ?_ _) | (with_reducible refine Keep.setCell ?_ ?_ _) | (with_reducible refine fun _ => rfl)))))
    ((first
      | (go_at_call 125; (with_reducible refine (H1.out _ (HX.out _ (by (repeat (first | (with_reducible exact Keep.refl _ _) | (with_reducible assumption) | (with_reducible refine Keep.drew ?_) | (with_reducible refine Keep.drewN ?_ _) | (with_reducible refine Keep.alloc ?_ _) | (with_reducible refine Keep.setCell ?_ ?_ _) | (with_reducible refine fun _ => rfl)))))).mono ?_); rintro en1 w1 ⟨rfl, f1⟩; have f2 := Keep.step (S := fun _ => False) (by (repeat (first | (with_reducible exact Keep.refl _ _) | (with_reducible assumption) | (with_reducible refine Keep.drew ?_) | (with_reducible refine Keep.drewN ?_ _) | (with_reducible refine Keep.alloc ?_ _) | (with_reducible refine Keep.setCell ?_ ?_ _) | (with_reducible refine fun _ => rfl))) : Fresh W0 _) f1 (fun _ _ h => h))
      | (go_at_call 125; (with_reducible refine (H2.out _ (HX.out _ (by (repeat (first | (with_reducible exact Keep.refl _ _) | (with_reducible assumption) | (with_reducible refine Keep.drew ?_) | (with_reducible refine Keep.drewN ?_ _) | (with_reducible refine Keep.alloc ?_ _) | (with_reducible refine Keep.setCell ?_ ?_ _) | (with_reducible refine fun _ => rfl)))))).mono ?_); rintro en1 w1 ⟨rfl, f1⟩; have f3 := Keep.step (S := fun _ => False) (by (repeat (first | (with_reducible exact Keep.refl _ _) | (with_reducible assumption) | (with_reducible refine Keep.drew ?_) | (with_reducible refine Keep.drewN ?_ _) | (with_reducible refine Keep.alloc ?_ _) | (with_reducible refine Keep.setCell ?_ ?_ _) | (with_reducible refine fun _ => rfl))) : Fresh W0 _) f1 (fun _ _ h => h))))
  go_wp2_with fail
  go_ret
  exact ⟨rfl, HX.out _ (by (repeat (first | (with_reducible exact Keep.refl _ _) | (with_reducible assumption) | (with_reducible refine Keep.drew ?_) | (with_reducible refine Keep.drewN ?_ _) | (with_reducible refine Keep.alloc ?_ _) | (with_reducible refine Keep.setCell ?_ ?_ _) | (with_reducible refine fun _ => rfl))))⟩
end Go.Proofs.YthbcdkeammhakaaGreat
