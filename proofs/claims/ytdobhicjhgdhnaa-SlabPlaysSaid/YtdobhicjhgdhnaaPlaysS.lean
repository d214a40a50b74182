/- SlabPlays returns true at every input: what each call answers, and what there is, is the document's, call by call. No conditions. -/
import Derived.Test.YtdobhicjhgdhnaaPlayI
namespace Go.Proofs.Ytdobhicjhgdhnaa
open Go.RowKit
attribute [local go_sem ↓] Go.wp_at_zero Go.wp_at_succ

theorem plays_arg (A : Option Addr) (n c : Nat) (a b : Int) (w : World) (h : a < 1 ∨ 4096 < a ∨ b < 0 ∨ a < b) :
    Law Try.prog 6 #[.agg #[.int .i64 a, .int .i64 b], .slice A n c] w := by
  unfold Law
  have HN := Lib.hid (fun W => new_bad a b h W)
  have hq : decide (a < 1) = true ∨ (decide (a < 1) = false ∧ decide (4096 < a) = true) ∨ (decide (a < 1) = false ∧ decide (4096 < a) = false ∧ decide (b < 0) = true) ∨ (decide (a < 1) = false ∧ decide (4096 < a) = false ∧ decide (b < 0) = false ∧ decide (a < b) = true) := by
    by_cases h1 : a < 1 <;> by_cases h2 : 4096 < a <;> by_cases h3 : b < 0 <;> by_cases h4 : a < b <;> simp [h1, h2, h3, h4] <;> omega
  clear h
  have B0 := Blk.new w 41 #[.int .i64 a, .int .i64 b]
  rcases hq with q1 | ⟨q1, q2⟩ | ⟨q1, q2, q3⟩ | ⟨q1, q2, q3, q4⟩
  all_goals
    go_enter Try.func6, Try.ntmps6
    go_wp2_with fail
    refine (HN.out _).mono ?_
    rintro e w1 ⟨rfl, f1⟩
    have b1 := Fresh.blk_ f1 B0
    have cb := b1.cell
    have lb := b1.lt
    have F1 := Lib.hid f1
    clear b1 f1
    go_wp2_with fail
    refine (awake_any _).mono ?_
    rintro e w2 ⟨rfl, h3⟩
    go_wp2_with fail
    go_ret
    exact ⟨rfl, Fresh.below_ ((((Keep.refl _ _).alloc _).step F1.out (fun _ _ h => h)).step h3 (fun _ _ h => h)) (Nat.le_refl _)⟩
set_option maxRecDepth 100000 in
set_option maxHeartbeats 8000000 in
theorem plays_many (A : Option Addr) (n c : Nat) (N : Nat) (r : Int) (w : World) (h1 : 1 ≤ N) (h2 : N ≤ 4096) (h3 : 0 ≤ r) (h4 : r ≤ N) (hn : ¬ n ≤ 60) (hn2 : n ≤ 9223372036854775807) :
    Law Try.prog 6 #[.agg #[.int .i64 (N : Int), .int .i64 r], .slice A n c] w := by
  unfold Law
  have q1 : decide ((N : Int) < 1) = false := by simp; omega
  have q2 : decide (4096 < (N : Int)) = false := by simp; omega
  have q3 : decide (r < 0) = false := by simp; omega
  have q4 : decide ((N : Int) < r) = false := by simp; omega
  have q5 : decide (n ≤ 60) = false := by simp; omega
  have B0 := Blk.new w 41 #[.int .i64 N, .int .i64 r]
  have HN := Lib.hid (fun W => new_any N r h1 h2 h3 h4 W)
  clear hn
  go_enter Try.func6, Try.ntmps6
  go_wp2_with fail
  refine (HN.out _).mono ?_
  rintro e w1 ⟨g, vs, vf, rfl, s1, f1, n1⟩
  have b1 := Fresh.blk_ f1 B0
  have cb := b1.cell
  have lb := b1.lt
  have F1 := Lib.hid f1
  clear b1 f1 s1 n1
  go_wp2_with (first | (go_at_call 9; refine (few_any A n c _).mono ?_; rintro e w1 ⟨rfl, rfl⟩; rw [q5]) | (go_at_call 10; refine (awake_any _).mono ?_; rintro e w2 ⟨rfl, h3⟩))
  go_ret
  exact ⟨rfl, Fresh.below_ ((((Keep.refl _ _).alloc _).step F1.out (fun _ _ h => h)).step h3 (fun _ _ h => h)) (Nat.le_refl _)⟩
set_option maxRecDepth 100000 in
set_option maxHeartbeats 8000000 in
theorem plays_ok (A : Option Addr) (n c : Nat) (N : Nat) (r : Int) (rows : List (List Value)) (w : World) (h1 : 1 ≤ N) (h2 : N ≤ 4096) (h3 : 0 ≤ r) (h4 : r ≤ N) (hn : n ≤ 60)
    (hl : rows.length = n) (hr : ∀ x ∈ rows, OpRow x) (ha : SliceAt w A 7 rows) :
    Law Try.prog 6 #[.agg #[.int .i64 (N : Int), .int .i64 r], .slice A n c] w := by
  unfold Law
  have q1 : decide ((N : Int) < 1) = false := by simp; omega
  have q2 : decide (4096 < (N : Int)) = false := by simp; omega
  have q3 : decide (r < 0) = false := by simp; omega
  have q4 : decide ((N : Int) < r) = false := by simp; omega
  have q5 : decide (n ≤ 60) = true := by simp; omega
  have B0 := Lib.hid (Blk.new w 41 #[.int .i64 N, .int .i64 r])
  have HN := Lib.hid (fun W => new_any N r h1 h2 h3 h4 W)
  have HRN := Lib.hid (fun W => rnew_any N r h1 h2 W)
  have H1 := Lib.hid hl
  have H3 := Lib.hid hr
  have H5 := Lib.hid ha
  clear hl hr ha
  go_enter Try.func6, Try.ntmps6
  go_wp2_with fail
  refine (HN.out _).mono ?_
  rintro e w1 ⟨g, vs, vf, rfl, s1, f1, n1⟩
  have B1 := Lib.hid (Fresh.blk_ f1 B0.out)
  have cb := B1.out.cell
  have lb := B1.out.lt
  have F1 := Lib.hid f1
  have S1 := Lib.hid s1
  have N1 := Lib.hid n1
  clear f1 s1 n1
  go_wp2_with (go_at_call 9; refine (few_any A n c _).mono ?_; rintro e w1 ⟨rfl, rfl⟩; rw [q5])
  refine (HRN.out _).mono ?_
  rintro e w2 ⟨gr, vl, vr, rfl, r2, f2, n2⟩
  have R2 := Lib.hid r2
  have F2 := Lib.hid f2
  have N2 := Lib.hid n2
  clear f2 r2 n2
  go_wp2_with fail
  have P0 : Hid (PlayI w (fun _ => False) N 0 w2.heap.size g vs gr vl r (w2.alloc (.cells #[.pointer (some ⟨g, 0, none⟩), .pointer (some ⟨gr, 0, none⟩), .slice none 0 0] 50))) := Lib.hid (by
    have fa : Fresh w2 (w2.alloc (.cells #[.pointer (some ⟨g, 0, none⟩), .pointer (some ⟨gr, 0, none⟩), .slice none 0 0] 50)) := (Keep.refl _ w2).alloc _
    have fw1 : Fresh w w1 := ((Keep.refl _ w).alloc _).step F1.out (fun _ _ h => h)
    have fw2 := fw1.step F2.out (fun _ _ h => h)
    exact ⟨vf, St.new N r, vr, .slice none 0 0, [], ⟨fw2.step fa (fun _ _ h => h), Blk.new _ _ _, OwnS.nil _ _ _, (S1.out.fresh F2.out).fresh fa, R2.out.fresh fa, fun k hk hk2 => by
      have := S1.out.lt k hk
      have := N2.out k hk2
      omega, .inr fw2.size, fun k hk => .inr (by have := N1.out k hk; simp at this; omega), fun k hk => .inr (by have := N2.out k hk; have := fw1.size; omega), by simp [Value.ownBlock]⟩, PS.start N r, by simp, rfl⟩)
  obtain ⟨W3, hW3⟩ : ∃ W3, (w2.alloc (.cells #[.pointer (some ⟨g, 0, none⟩), .pointer (some ⟨gr, 0, none⟩), .slice none 0 0] 50)) = W3 := ⟨_, rfl⟩
  obtain ⟨gp, hgp⟩ : ∃ gp, w2.heap.size = gp := ⟨_, rfl⟩
  rw [hgp] at P0
  rw [hW3] at P0
  rw [hgp, hW3]
  clear hW3 hgp cb lb B1 F1 S1 N1 R2 F2 N2 HN HRN B0
  go_loopg [8] n (fun gk u wr => ∃ k : Nat, k ≤ n ∧ gk = n - k ∧ u = .int .i64 k ∧ PlayI w (fun _ => False) N k gp g vs gr vl r wr)
  case atStart => exact ⟨0, by omega, rfl, rfl, P0.out⟩
  case round =>
    obtain ⟨k, hk, rfl, rfl, hP⟩ := hrel
    have HP := Lib.hid hP
    clear hP P0
    by_cases hlt : k < n
    · obtain ⟨b0, off, o, rfl, lt0, hO⟩ := opAt_arg H5.out H3.out k (by rw [H1.out]; exact hlt)
      have HO := Lib.hid hO
      clear hO
      have S0 := Lib.hid ((HP.out.fresh (Keep.refl _ wr).drew).cel (HO.out.fresh (HP.out.below.drew)))
      have y0 := fun (W : World) (h : Cel gp g gr b0 (off + k * 7) o W) => h.1.1
      have y1 := fun (W : World) (h : Cel gp g gr b0 (off + k * 7) o W) => h.1.2
      have y2 := fun (W : World) (h : Cel gp g gr b0 (off + k * 7) o W) => h.2.1
      have y3 := fun (W : World) (h : Cel gp g gr b0 (off + k * 7) o W) => h.2.2.1
      have y4 := fun (W : World) (h : Cel gp g gr b0 (off + k * 7) o W) => h.2.2.2.1
      have y5 := fun (W : World) (h : Cel gp g gr b0 (off + k * 7) o W) => h.2.2.2.2.1
      have y6 := fun (W : World) (h : Cel gp g gr b0 (off + k * 7) o W) => h.2.2.2.2.2.1
      have y7 := fun (W : World) (h : Cel gp g gr b0 (off + k * 7) o W) => h.2.2.2.2.2.2.1
      have y8 := fun (W : World) (h : Cel gp g gr b0 (off + k * 7) o W) => h.2.2.2.2.2.2.2
      go_wp2_with fail
      go_region_held3 (fun W => Cel gp g gr b0 (off + k * 7) o W) (first | exact S0.out | exact sd | exact se)
        (first
          | (go_at_call 20; (with_reducible refine (does_i (HP.out.fresh (Keep.refl _ wr).drew) h2 (by omega) ⟨h3, by omega⟩ o).mono ?_); rintro e w4 ⟨rfl, hd⟩; have HD := Lib.hid hd; have sd := hd.cel (HO.out.fresh hd.below); clear hd)
          | (go_at_call 21; (with_reducible refine (same_i HD.out h2 (by omega) ⟨h3, by omega⟩).mono ?_); rintro e w5 ⟨rfl, f5⟩; have he := HD.out.fresh f5; have HE := Lib.hid he; have se := he.cel (HO.out.fresh he.below); clear he f5))
      clear y0 y1 y2 y3 y4 y5 y6 y7 y8 S0
      go_wp2_with fail
      go_roundg (n - (k + 1))
      case measure => omega
      case rel => exact ⟨k + 1, by omega, rfl, by go_num, HE.out⟩
    · obtain rfl : k = n := by omega
      go_wp2_with (go_at_call 10; refine (awake_any _).mono ?_; rintro e w2 ⟨rfl, h3⟩)
      go_ret
      exact ⟨rfl, Fresh.below_ (HP.out.below.step h3 (fun _ _ h => h)) (Nat.le_refl _)⟩
open Go.ChangeShapes Go.WideShapes Go.ChangeAt
set_option maxRecDepth 100000 in
theorem slabPlays_lifted (os : Os) (started : os.Started) (H : Type) (enc : TypeId × Value → H) :
    ReturnsInHanded {} Try.checked os 6 .any (Rows.slabPlaysSpec.pre6 enc Try.prog Try.f6 Rows.slabPlaysRow.domain false) (Rows.slabPlaysSpec.post enc Try.prog Try.f6 false true false false) := by
  refine law_lifted (C := Try.checked) (tb := 4) (by kernel_rfl) (by kernel_rfl) started (by kernel_rfl) Try.func6 rfl ?_ rfl Try.underlying4 (by kernel_rfl)
    (ChangeSpec.witness6 (enc := enc) (C := Try.checked) false ⟨#[], #[.agg #[.int .i64 0, .int .i64 0], .slice none 0 0], []⟩ 12 (by kernel_rfl) (by kernel_rfl) (by kernel_rfl) (by kernel_rfl)) ?_
  · intro ds hds
    match ds, hds with
    | [e0, e1], _ => rfl
  · intro W base args ds p hval hA hreach
    rw [Try.params6] at hA hval hreach
    obtain ⟨v0, vs0, d0, ds0, p0, q0, hargs, rfl, rfl, h0, r0⟩ := trodAll_cons hA
    obtain ⟨v1, vs1, d1, ds1, p1, q1, rfl, rfl, rfl, h1, r1⟩ := trodAll_cons r0
    obtain ⟨rfl, rfl, rfl⟩ := trodAll_nil r1
    obtain rfl : args = #[v0, v1] := by cases args; simp_all
    obtain ⟨l0, rfl, hl0⟩ := arg_array (n := 6) Try.underlying41 (by kernel_rfl) (hval 0 41 v0 rfl rfl) h0
    have hfl : flat Try.prog 6 41 = [3, 3] := by kernel_rfl
    rw [hfl] at hl0; clear hfl
    obtain ⟨x0, l1, e1, w_x0, hl1⟩ := all2_int Try.underlying3 hl0
    obtain ⟨x1, l2, e2, w_x1, hl2⟩ := all2_int Try.underlying3 hl1
    obtain rfl := all2_nil hl2
    subst e2 e1
    clear hl2 hl1 hl0
    obtain ⟨A_l, n_l, c_l, rows_l, rfl, len_l, cap_l, max_l, leaf_l, at_l⟩ := arg_slice (n := 6) Try.underlying22 (by kernel_rfl) (by kernel_rfl) (by rw [show Try.prog.cellsOf 34 = 7 by kernel_rfl]; decide) (hval 1 22 v1 rfl rfl) h1
    rw [show flat Try.prog 6 34 = [3, 3, 4, 3, 3, 3, 3] by kernel_rfl] at leaf_l
    rw [show Try.prog.cellsOf 34 = 7 by kernel_rfl] at at_l
    by_cases h : x0 < 1 ∨ 4096 < x0 ∨ x1 < 0 ∨ x0 < x1
    · exact plays_arg A_l n_l c_l x0 x1 W h
    · obtain ⟨k, rfl⟩ := Int.eq_ofNat_of_zero_le (show 0 ≤ x0 by omega)
      by_cases hn : n_l ≤ 60
      · exact plays_ok A_l n_l c_l k x1 rows_l W (by omega) (by omega) (by omega) (by omega) hn len_l (opRow_arg leaf_l) at_l
      · exact plays_many A_l n_l c_l k x1 W (by omega) (by omega) (by omega) (by omega) hn (by unfold maxLen at max_l; omega)

theorem slabPlays_holds : Rows.SlabPlaysSaid :=
  OpenClaim.holds_of_wide 6 Try.f6 rfl rfl rfl rfl rfl rfl rfl ⟨rfl, rfl, rfl, rfl, rfl⟩ rfl rfl rfl rfl rfl (by kernel_rfl) Try.func6 (by kernel_rfl)
    (of_decide_eq_true (by kernel_rfl)) (by unfold Func.isWrapper; first | (rw [if_pos (by decide +kernel)]; kernel_rfl) | (rw [if_neg (by decide +kernel)]; exact ⟨rfl, rfl⟩))
    (fun os started H enc _ => slabPlays_lifted os started H enc)
end Go.Proofs.Ytdobhicjhgdhnaa
