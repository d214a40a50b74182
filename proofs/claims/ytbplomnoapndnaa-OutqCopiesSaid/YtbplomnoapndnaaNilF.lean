/-
  outq.Queue: what a nil one answers; the law's one.
-/
import Derived.Test.YtbplomnoapndnaaRecs
namespace Go.Proofs.Ytbplomnoapndnaa
open Go.RowKit
attribute [local go_sem ↓] Go.wp_at_zero Go.wp_at_succ

theorem wrong_nil (a0 : Int) (A : Option Addr) (n c : Nat) (w : World) : Calls Try.prog 39 #[.pointer none, .int .i64 a0, .slice A n c] w fun e w' => e = .returned (.int .i64 2) ∧ Fresh w w' := by
  go_enter Try.func39, Try.ntmps39
  go_wp2_with fail
  go_ret
  exact ⟨rfl, by (repeat (first | (with_reducible exact Keep.refl _ _) | (with_reducible assumption) | (with_reducible refine Keep.drew ?_) | (with_reducible refine Keep.drewN ?_ _) | (with_reducible refine Keep.alloc ?_ _) | (with_reducible refine Keep.setCell ?_ ?_ _) | (with_reducible refine fun _ => rfl)))⟩
theorem sent_nil (a0 : Int) (A : Option Addr) (n c : Nat) (w : World) : Calls Try.prog 20 #[.pointer none, .int .i64 a0, .slice A n c] w fun e w' => e = .returned (.tuple #[.slice none 0 0, .int .i64 2]) ∧ Fresh w w' := by
  have H := Lib.hid (wrong_nil a0 A n c (w.alloc (.cells #[.int .i64 a0] 3)))
  go_enter Try.func20, Try.ntmps20
  go_wp2_with fail
  refine H.out.mono ?_
  rintro e w1 ⟨rfl, f1⟩
  have F1 := Lib.hid (Keep.step ((Keep.refl (fun _ => False) w).alloc _) f1 (fun _ _ h => h))
  clear f1
  go_wp2_with fail
  go_ret2
  exact ⟨rfl, F1.out⟩
theorem least_nil (w : World) : Calls Try.prog 24 #[.pointer none] w fun e w' => e = .returned (.tuple #[.int .i64 0, .bool false]) ∧ Fresh w w' := by
  go_enter Try.func24, Try.ntmps24
  go_wp2_with fail
  go_ret2
  exact ⟨rfl, by (repeat (first | (with_reducible exact Keep.refl _ _) | (with_reducible assumption) | (with_reducible refine Keep.drew ?_) | (with_reducible refine Keep.drewN ?_ _) | (with_reducible refine Keep.alloc ?_ _) | (with_reducible refine Keep.setCell ?_ ?_ _) | (with_reducible refine fun _ => rfl)))⟩
theorem late_nil (a : Int) (w : World) : Calls Try.prog 31 #[.pointer none, .int .i64 a] w fun e w' => e = .returned (.tuple #[.agg #[.int .i64 0, .int .i64 0, .int .i64 0, .int .i64 0, .int .i64 0, .int .i64 0, .int .i64 0], .bool false]) ∧ Fresh w w' := by
  have c5 := (Blk.new w 44 #[.int .i64 0, .int .i64 0, .int .i64 0, .int .i64 0, .int .i64 0, .int .i64 0, .int .i64 0]).cell
  go_enter Try.func31, Try.ntmps31
  go_wp2_with fail
  refine bodyPost_ret (v := (.tuple #[.agg #[.int .i64 0, .int .i64 0, .int .i64 0, .int .i64 0, .int .i64 0, .int .i64 0, .int .i64 0], .bool false])) (by simp [results, Try.results31, go_sem, c5]; try rfl) rfl ?_
  exact ⟨rfl, (Keep.refl _ w).alloc _⟩
theorem len_nil (w : World) : Calls Try.prog 32 #[.pointer none] w fun e w' => e = .returned (.tuple #[.int .i64 0, .int .i64 0]) ∧ Fresh w w' := by
  go_enter Try.func32, Try.ntmps32
  go_wp2_with fail
  go_ret2
  exact ⟨rfl, by (repeat (first | (with_reducible exact Keep.refl _ _) | (with_reducible assumption) | (with_reducible refine Keep.drew ?_) | (with_reducible refine Keep.drewN ?_ _) | (with_reducible refine Keep.alloc ?_ _) | (with_reducible refine Keep.setCell ?_ ?_ _) | (with_reducible refine fun _ => rfl)))⟩
theorem back_nil (a : Int) (b : Bool) (w : World) : Calls Try.prog 19 #[.pointer none, .int .i64 a, .bool b] w fun e w' => e = .returned (.slice none 0 0) ∧ Fresh w w' := by
  go_enter Try.func19, Try.ntmps19
  go_wp2_with fail
  go_ret
  exact ⟨rfl, (Keep.refl _ w).alloc _⟩
theorem flush_nil (a : Int) (w : World) : Calls Try.prog 18 #[.pointer none, .int .i64 a] w fun e w' => e = .returned (.slice none 0 0) ∧ Fresh w w' := by
  go_enter Try.func18, Try.ntmps18
  go_wp2_with fail
  go_ret
  exact ⟨rfl, (Keep.refl _ w).alloc _⟩
theorem drop_nil (a : Int) (w : World) : Calls Try.prog 23 #[.pointer none, .int .i64 a] w fun e w' => e = .returned (.int .i64 0) ∧ Fresh w w' := by
  go_enter Try.func23, Try.ntmps23
  go_wp2_with fail
  go_ret
  exact ⟨rfl, (Keep.refl _ w).alloc _⟩
theorem return_nil (x : Ev) (w : World) : Calls Try.prog 25 #[.pointer none, x.val] w fun e w' => e = .returned (.bool false) ∧ Fresh w w' := by
  unfold Ev.val
  go_enter Try.func25, Try.ntmps25
  go_wp2_with fail
  go_ret
  exact ⟨rfl, by (repeat (first | (with_reducible exact Keep.refl _ _) | (with_reducible assumption) | (with_reducible refine Keep.drew ?_) | (with_reducible refine Keep.drewN ?_ _) | (with_reducible refine Keep.alloc ?_ _) | (with_reducible refine Keep.setCell ?_ ?_ _) | (with_reducible refine fun _ => rfl)))⟩
theorem copy_nil (w : World) : Calls Try.prog 29 #[.pointer none] w fun e w' => e = .returned (.pointer none) ∧ Fresh w w' := by
  go_enter Try.func29, Try.ntmps29
  go_wp2_with fail
  go_ret
  exact ⟨rfl, by (repeat (first | (with_reducible exact Keep.refl _ _) | (with_reducible assumption) | (with_reducible refine Keep.drew ?_) | (with_reducible refine Keep.drewN ?_ _) | (with_reducible refine Keep.alloc ?_ _) | (with_reducible refine Keep.setCell ?_ ?_ _) | (with_reducible refine fun _ => rfl)))⟩
theorem records_nil (w : World) : Calls Try.prog 16 #[.pointer none] w fun e w' => ∃ A c, e = .returned (.tuple #[.slice A 0 c, .bool true]) ∧ Fresh w w' := by
  refine (records_of (.pointer none) (.inl rfl) [] w (by simp) (fun W _ => all_nil W)).mono ?_
  rintro e w' ⟨v, rfl, o, f, _⟩
  obtain ⟨A, c, rfl, _, _⟩ := o.shape
  exact ⟨A, c, rfl, f⟩
open Go.ChangeShapes Go.WideShapes Go.ChangeAt in
theorem evs_arg {H : Type} {enc : TypeId × Value → H} {W : World} {A : Option Addr} {rows : List (List Value)} (h : ∀ r ∈ rows, All2 (Leaf enc Try.prog W) [3, 3, 3, 3, 3, 3, 3] r) (ha : SliceAt W A 7 rows) :
    ∃ es : List Ev, es.length = rows.length ∧ ∀ (i : Nat) (x : Ev), es[i]? = some x → ∃ b off, A = some ⟨b, off, none⟩ ∧ b < W.heap.size ∧ ∀ j u, x.enc[j]? = some u → W.cell? ⟨b, off + i * 7 + j, none⟩ = some u := by
  obtain ⟨os, hl, _⟩ := decode (fun o : Ev => o.enc) (fun _ => True) (fun r h => by
    obtain ⟨a, l0, e0, _, h0⟩ := all2_int Try.underlying3 h
    obtain ⟨s, l1, e1, _, h1⟩ := all2_int Try.underlying3 h0
    obtain ⟨t, l2, e2, _, h2⟩ := all2_int Try.underlying3 h1
    obtain ⟨n, l3, e3, _, h3⟩ := all2_int Try.underlying3 h2
    obtain ⟨d, l4, e4, _, h4⟩ := all2_int Try.underlying3 h3
    obtain ⟨k, l5, e5, _, h5⟩ := all2_int Try.underlying3 h4
    obtain ⟨x, l6, e6, _, h6⟩ := all2_int Try.underlying3 h5
    have := all2_nil h6
    subst this e6 e5 e4 e3 e2 e1 e0
    exact ⟨⟨a, s, t, n, d, k, x⟩, rfl, trivial⟩) rows h
  subst hl
  refine ⟨os, by simp, fun i o ho => ?_⟩
  obtain ⟨b, off, rfl, lt, hc⟩ := ha i (by simpa using (List.getElem?_eq_some_iff.1 ho).1)
  refine ⟨b, off, rfl, lt, fun j u hu => hc j u ?_⟩
  rw [List.getD_eq_getElem?_getD, List.getElem?_map, ho]
  exact hu
/-- the event of a call -/
def oneE (l : List Ev) : Ev := l.headD ⟨0, 0, 0, 0, 0, 0, 0⟩
theorem one_any (k a : Int) (v : Value) (l : List Ev) (w : World) (h : EvAt w v l) (hl : l.length ≤ 9223372036854775807) : Calls Try.prog 30 #[.agg #[.int .i64 k, .int .i64 a, v]] w fun e w' => e = .returned (oneE l).val ∧ Fresh w w' := by
  obtain ⟨A, c, rfl, h⟩ := h
  unfold oneE Ev.val
  cases l with
  | nil =>
    clear h
    have F1 : Hid (Fresh w ((w.alloc (.cells #[.int .i64 k, .int .i64 a, .slice A 0 c] 30)).alloc (.cells #[.int .i64 0, .int .i64 0, .int .i64 0, .int .i64 0, .int .i64 0, .int .i64 0, .int .i64 0] 44))) := Lib.hid (((Keep.refl _ w).alloc _).alloc _)
    have c5 := (Blk.new (w.alloc (.cells #[.int .i64 k, .int .i64 a, .slice A 0 c] 30)) 44 #[.int .i64 0, .int .i64 0, .int .i64 0, .int .i64 0, .int .i64 0, .int .i64 0, .int .i64 0]).cell
    rw [World.size_alloc] at c5
    go_enter Try.func30, Try.ntmps30
    go_wp2_with fail
    refine bodyPost_ret (v := .agg #[.int .i64 0, .int .i64 0, .int .i64 0, .int .i64 0, .int .i64 0, .int .i64 0, .int .i64 0]) (by simp [results, Try.results30, go_sem, c5]; try rfl) rfl ?_
    exact ⟨rfl, F1.out⟩
  | cons x r =>
    obtain ⟨b0, off, rfl, lt0, hO⟩ := h 0 x rfl
    have x0 := hO 0 (.int .i64 x.a) rfl
    have x1 := hO 1 (.int .i64 x.s) rfl
    have x2 := hO 2 (.int .i64 x.t) rfl
    have x3 := hO 3 (.int .i64 x.n) rfl
    have x4 := hO 4 (.int .i64 x.d) rfl
    have x5 := hO 5 (.int .i64 x.k) rfl
    have x6 := hO 6 (.int .i64 x.x) rfl
    simp only [Nat.zero_mul, Nat.add_zero] at x0 x1 x2 x3 x4 x5 x6
    have hn : (x :: r).length = r.length + 1 := rfl
    rw [hn] at hl ⊢
    have t1 : ((r.length : Int) + 1 == 0) = false := by rw [beq_eq_false_iff_ne]; omega
    have t2 : (0 : Int) < (r.length : Int) + 1 := by omega
    have F1 : Hid (Fresh w ((w.alloc (.cells #[.int .i64 k, .int .i64 a, .slice (some ⟨b0, off, none⟩) (r.length + 1) c] 30)).alloc (.cells #[.int .i64 x.a, .int .i64 x.s, .int .i64 x.t, .int .i64 x.n, .int .i64 x.d, .int .i64 x.k, .int .i64 x.x] 44))) := Lib.hid (((Keep.refl _ w).alloc _).alloc _)
    have c5 := (Blk.new (w.alloc (.cells #[.int .i64 k, .int .i64 a, .slice (some ⟨b0, off, none⟩) (r.length + 1) c] 30)) 44 #[.int .i64 x.a, .int .i64 x.s, .int .i64 x.t, .int .i64 x.n, .int .i64 x.d, .int .i64 x.k, .int .i64 x.x]).cell
    rw [World.size_alloc] at c5
    clear h hO
    go_enter Try.func30, Try.ntmps30
    go_wp2_with fail
    refine bodyPost_ret (v := .agg #[.int .i64 x.a, .int .i64 x.s, .int .i64 x.t, .int .i64 x.n, .int .i64 x.d, .int .i64 x.k, .int .i64 x.x]) (by simp [results, Try.results30, go_sem, c5]; try rfl) rfl ?_
    exact ⟨rfl, F1.out⟩
end Go.Proofs.Ytbplomnoapndnaa
