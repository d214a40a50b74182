import Derived.Test.YtfldnbmafbdpeaaFit
namespace Go.Proofs.Ytfldnbmafbdpeaa
open Go.RowKit

theorem eq5 (e : Nat) (a b c d f a' b' c' d' f' : Int) (w : World) : (Op.equalIn (e + 2) 24 (.agg #[.int .i64 a, .int .i64 b, .int .i64 c, .int .i64 d, .int .i64 f]) (.agg #[.int .i64 a', .int .i64 b', .int .i64 c', .int .i64 d', .int .i64 f'])).run Try.prog w =
    .ok (a == a' && (b == b' && (c == c' && (d == d' && f == f')))) w := by
  have p0 : ∀ x0 x1 x2 x3 x4 w, (part 3 #[x0, x1, x2, x3, x4] 0).run Try.prog w = .ok x0 w := fun _ _ _ _ _ _ => by kernel_rfl
  have p1 : ∀ x0 x1 x2 x3 x4 w, (part 3 #[x0, x1, x2, x3, x4] 1).run Try.prog w = .ok x1 w := fun _ _ _ _ _ _ => by kernel_rfl
  have p2 : ∀ x0 x1 x2 x3 x4 w, (part 3 #[x0, x1, x2, x3, x4] 2).run Try.prog w = .ok x2 w := fun _ _ _ _ _ _ => by kernel_rfl
  have p3 : ∀ x0 x1 x2 x3 x4 w, (part 3 #[x0, x1, x2, x3, x4] 3).run Try.prog w = .ok x3 w := fun _ _ _ _ _ _ => by kernel_rfl
  have p4 : ∀ x0 x1 x2 x3 x4 w, (part 3 #[x0, x1, x2, x3, x4] 4).run Try.prog w = .ok x4 w := fun _ _ _ _ _ _ => by kernel_rfl
  have hsz : ∀ w, (sizeOf 3).run Try.prog w = .ok 1 w := fun _ => by kernel_rfl
  rw [Op.equalIn]
  simp only [Sem.run_bind, run_underlying Try.underlying24, Result.andThen_ok, hsz]
  rw [Std.Legacy.Range.forIn_eq_forIn_range']
  simp only [Std.Legacy.Range.size, List.range', Nat.reduceSub, Nat.reduceAdd, Nat.reduceDiv, List.forIn_cons, Sem.run_bind, Nat.mul_one, p0, p1, p2, p3, p4, Result.andThen_ok, run_equalIn_int (h := Try.underlying3), List.forIn_nil]
  generalize (a == a') = x1
  cases x1
  · simp
  simp only [Bool.not_true, Bool.false_eq_true, if_false, Sem.run_pure, Result.andThen_ok, Sem.run_bind, p1, run_equalIn_int (h := Try.underlying3)]
  generalize (b == b') = x2
  cases x2
  · simp
  simp only [Bool.not_true, Bool.false_eq_true, if_false, Sem.run_pure, Result.andThen_ok, Sem.run_bind, p2, run_equalIn_int (h := Try.underlying3)]
  generalize (c == c') = x3
  cases x3
  · simp
  simp only [Bool.not_true, Bool.false_eq_true, if_false, Sem.run_pure, Result.andThen_ok, Sem.run_bind, p3, run_equalIn_int (h := Try.underlying3)]
  generalize (d == d') = x4
  cases x4
  · simp
  simp only [Bool.not_true, Bool.false_eq_true, if_false, Sem.run_pure, Result.andThen_ok, Sem.run_bind, p4, run_equalIn_int (h := Try.underlying3)]
  generalize (f == f') = x5
  cases x5
  · simp
  simp
theorem eq5w (a b c d f a' b' c' d' f' : Int) (w : World) : (Op.equalIn 10000 24 (.agg #[.int .i64 a, .int .i64 b, .int .i64 c, .int .i64 d, .int .i64 f]) (.agg #[.int .i64 a', .int .i64 b', .int .i64 c', .int .i64 d', .int .i64 f'])).run Try.prog w =
    .ok (a == a' && (b == b' && (c == c' && (d == d' && f == f')))) w := eq5 9998 a b c d f a' b' c' d' f' w

set_option maxHeartbeats 1000000 in
theorem awake_any (w : World) : Calls Try.prog 8 #[] w fun e w' => e = .returned (.bool true) ∧ Fresh w w' := by
  go_enter Try.func8, Try.ntmps8
  go_wp2_with (go_at_call 7; refine (new_ok _ _ _ (by omega) (by omega) (by omega) (by omega)).mono ?_; rintro e w' ⟨rfl, rfl⟩)
  go_wp2_with fail
  refine (fit_ok _ 5 0 0 0 0 2 10 3 0 0 0 0 0 false _ (((Blk.new _ _ _).alloc _)) ⟨by omega, by omega⟩ ⟨by omega, by omega⟩ ⟨by omega, by omega⟩ ⟨by omega, by omega⟩ ⟨by omega, by omega⟩ ⟨by omega, by omega⟩ (by omega) (by omega) (by omega) (by simp [roomB])).mono ?_
  rintro e w1 ⟨rfl, hk1, hb1⟩
  have hx1 := (Blk.new (w.alloc (.cells #[.int .i64 10, .int .i64 3, .int .i64 0, .int .i64 0, .int .i64 0, .int .i64 0, .int .i64 0] 52)) 24 #[.int .i64 5, .int .i64 0, .int .i64 0, .int .i64 0, .int .i64 0]).keep hk1 (by simp)
  simp only [World.size_alloc] at hx1
  have hF1 : Fresh w w1 := (((Keep.refl _ w).alloc _).alloc _).step hk1 (by rintro i hi rfl; omega)
  have hc1 := hb1.cell
  have hd1 := hx1.cell
  have HB1 := Lib.hid hb1
  have HX1 := Lib.hid hx1
  have HK1 := Lib.hid hk1
  clear hb1 hx1 hk1
  go_wp2_with fail
  refine (fit_mem _ 5 0 0 0 0 3 10 3 false _ (by simp [hc1]) (by simp [hc1]) ⟨by omega, by omega⟩ ⟨by omega, by omega⟩ ⟨by omega, by omega⟩ ⟨by omega, by omega⟩ ⟨by omega, by omega⟩ ⟨by omega, by omega⟩ (by omega) (by omega) (by omega) (by simp [roomB])).mono ?_
  rintro e w2 ⟨rfl, hk2⟩
  have hl := HB1.out.lt
  have hl' := HX1.out.lt
  have hb2 := HB1.out.below hk2 HB1.out.lt
  have hx2 := HX1.out.below hk2 HX1.out.lt
  have hF2 : Fresh w w2 := hF1.step (Keep.of_below (S := fun _ => False) hk2 (by intro k h1 h2; omega)) (fun _ _ h => h)
  have hd2 := hx2.cell
  have HB2 := Lib.hid hb2
  clear hb2 hx2 hk2
  go_wp2_with fail
  refine (fit_ok _ 5 0 0 0 0 3 10 3 _ _ _ _ _ true _ HB2.out ⟨by omega, by omega⟩ ⟨by omega, by omega⟩ ⟨by omega, by omega⟩ ⟨by omega, by omega⟩ ⟨by omega, by omega⟩ ⟨by omega, by omega⟩ (by omega) (by omega) (by omega) (by simp [roomB])).mono ?_
  rintro e w3 ⟨rfl, hk3, hb3⟩
  have hF3 : Fresh w w3 := hF2.step hk3 (by rintro i hi rfl; omega)
  go_wp2
  go_ret
  exact ⟨rfl, hF3⟩
end Go.Proofs.Ytfldnbmafbdpeaa
