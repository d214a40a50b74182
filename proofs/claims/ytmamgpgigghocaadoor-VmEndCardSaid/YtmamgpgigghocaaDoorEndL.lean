/- VmEnd returns true at every input: a Stop behind a program without jumps turns nothing, and instructions behind that do not count. No conditions. -/
import Derived.Test.YtmamgpgigghocaaDoorEndP
namespace Go.Proofs.YtmamgpgigghocaaDoor
open Go.RowKit
attribute [local go_sem ↓] Go.wp_at_zero Go.wp_at_succ run_min run_max
attribute [local go_sem] run_eql_emit run_neq_emit eq4w

set_option maxHeartbeats 4000000 in
theorem end_no (A A2 : Option Addr) (n c n2 d : Nat) (s0 s1 s2 s3 : Int) (e : Ev) (o : Rest) (fan : Int) (w : World) (hT : Tab w) (hf : 30 < n ∨ 30 < n2 ∨ 2000 < fan) : Law Tryd.prog 5 #[.agg (caseV A n c s0 s1 s2 s3 e o fan), .slice A2 n2 d] w := by
  unfold Law
  have HT := Lib.hid hT
  have hq : decide ((30 : Int) < (n : Int)) = true ∨ (decide ((30 : Int) < (n : Int)) = false ∧ decide ((30 : Int) < (n2 : Int)) = true) ∨ (decide ((30 : Int) < (n : Int)) = false ∧ decide ((30 : Int) < (n2 : Int)) = false ∧ decide (2000 < fan) = true) := by
    by_cases h1 : 30 < n
    · exact .inl (decide_eq_true (by omega))
    · by_cases h2 : 30 < n2
      · exact .inr (.inl ⟨decide_eq_false (by omega), decide_eq_true (by omega)⟩)
      · exact .inr (.inr ⟨decide_eq_false (by omega), decide_eq_false (by omega), decide_eq_true (by omega)⟩)
  have f0 : Fresh w (w.alloc (.cells (caseV A n c s0 s1 s2 s3 e o fan) 30)) := (Keep.refl _ _).alloc _
  clear hT hf
  unfold caseV at f0 ⊢
  have F0 := Lib.hid f0
  have FT : Hid (∀ W, Fresh w W → Tab W) := fun W f => HT.out.fresh f
  clear f0
  rcases hq with q1 | ⟨q1, q2⟩ | ⟨q1, q2, q3⟩
  all_goals
    go_enter Tryd.func5, Tryd.ntmps5
    go_wp2_with fail
    (try go_quiet (fail))
    go_wp2_with (refine (awake_any _ (FT.out _ (by (repeat (first | (with_reducible exact Keep.refl _ _) | (with_reducible assumption) | (with_reducible refine Keep.drew ?_) | (with_reducible refine Keep.drewN ?_ _) | (with_reducible refine Keep.alloc ?_ _) | (with_reducible refine Keep.setCell ?_ ?_ _) | (with_reducible refine fun _ => rfl)))))).mono ?_; rintro en w5 ⟨rfl, f5⟩)
    go_returns
    exact ⟨rfl, Fresh.below_ (Keep.step (S := fun _ => False) (by (repeat (first | (with_reducible exact Keep.refl _ _) | (with_reducible assumption) | (with_reducible refine Keep.drew ?_) | (with_reducible refine Keep.drewN ?_ _) | (with_reducible refine Keep.alloc ?_ _) | (with_reducible refine Keep.setCell ?_ ?_ _) | (with_reducible refine fun _ => rfl))) : Fresh w _) f5 (fun _ _ h => h)) (Nat.le_refl _)⟩

theorem fresh_app {w0 w1 w2 : World} {v : Value} (f : Fresh w0 w1) (n : ∀ k, v.ownBlock = some k → w0.heap.size ≤ k) (k : Keep (fun k => v.ownBlock = some k) w1 w2) : Fresh w0 w2 := f.step k (fun i hi h => by have := n i h; omega)
theorem new_step {w0 w1 : World} {v v' : Value} (f : w0.heap.size ≤ w1.heap.size) (h : ∀ k, v.ownBlock = some k → w0.heap.size ≤ k) (n : ∀ k, v'.ownBlock = some k → v.ownBlock = some k ∨ w1.heap.size ≤ k) : ∀ k, v'.ownBlock = some k → w0.heap.size ≤ k := fun k hk => by
  rcases n k hk with h1 | h1
  · exact h k h1
  · omega
theorem new_nil (w0 : World) : ∀ k, (Value.slice none 0 0).ownBlock = some k → w0.heap.size ≤ k := by simp [Value.ownBlock]

theorem run_R2 (P : List Ins) (s0 s1 s2 s3 : Int) (e : Ev) (fuel : Int) : ∃ c0 c1 c2 c3, RunR P s0 s1 s2 s3 e fuel c0 c1 c2 c3 (outP P [s0, s1, s2, s3] e fuel) ∧ (outP P [s0, s1, s2, s3] e fuel).1.cs.take 4 = [c0, c1, c2, c3] := by
  have hl : (outP P [s0, s1, s2, s3] e fuel).1.cs.length = 8 := by unfold outP; rw [runP_len]; rfl
  obtain ⟨c0, c1, c2, c3, c4, c5, c6, c7, hcs⟩ := list8 _ hl
  refine ⟨c0, c1, c2, c3, ?_, by rw [hcs]; rfl⟩
  intro A cap o fan w h hn hm hT
  refine (run_any A P cap s0 s1 s2 s3 e o fuel fan w h hn hm hT).mono ?_
  rintro en w' ⟨d0, d1, d2, d3, v, h1, rfl, h2⟩
  rw [hcs] at h1
  have e1 : [c0, c1, c2, c3] = [d0, d1, d2, d3] := h1
  injection e1 with e1 e2
  injection e2 with e2 e3
  injection e3 with e3 e4
  injection e4 with e4 _
  subst e1 e2 e3 e4
  obtain ⟨A', c', rfl, _, hc⟩ := h2.1.shape
  exact ⟨A', c', rfl, by unfold maxLen at hc; omega, h2.1, h2.2.1, h2.2.2⟩
theorem run_two (P Q : List Ins) (h : ∀ x ∈ P, plainI x) (hP : P.length ≤ 30) (hQ : Q.length ≤ 30) (s0 s1 s2 s3 : Int) (e : Ev) : ∃ c0 c1 c2 c3 R, RunR P s0 s1 s2 s3 e 1024 c0 c1 c2 c3 R ∧ RunR (withStop P Q) s0 s1 s2 s3 e 1024 c0 c1 c2 c3 R ∧ R.1.sent.length ≤ 1024 ∧ R.2 ≤ P.length := by
  obtain ⟨p1, p2⟩ := outP_end h Q hP hQ [s0, s1, s2, s3] e 1024
  obtain ⟨c0, c1, c2, c3, hR, h4⟩ := run_R2 P s0 s1 s2 s3 e 1024
  obtain ⟨d0, d1, d2, d3, hR2, h4'⟩ := run_R2 (withStop P Q) s0 s1 s2 s3 e 1024
  obtain ⟨_, _, _, _, _, hs, _⟩ := run_R P s0 s1 s2 s3 e 1024
  rw [p1] at hR2 h4'
  have e1 := h4.symm.trans h4'
  injection e1 with e1 e2
  injection e2 with e2 e3
  injection e3 with e3 e4
  injection e4 with e4 _
  subst e1 e2 e3 e4
  exact ⟨c0, c1, c2, c3, _, hR, hR2, hs, p2⟩

set_option maxHeartbeats 8000000 in
theorem end_ok (A A2 : Option Addr) (P Q : List Ins) (c d : Nat) (s0 s1 s2 s3 : Int) (e : Ev) (o : Rest) (fan : Int) (w : World) (hT : Tab w) (hP : Prg w A P) (hQ : Prg w A2 Q) (hc1 : P.length ≤ c) (hc2 : c ≤ 9223372036854775807) (hP30 : P.length ≤ 30) (hQ30 : Q.length ≤ 30) (hf : fan ≤ 2000) : Law Tryd.prog 5 #[.agg (caseV A P.length c s0 s1 s2 s3 e o fan), .slice A2 Q.length d] w := by
  unfold Law
  have HT := Lib.hid hT
  have HP := Lib.hid hP
  have HQ := Lib.hid hQ
  have q1 : decide (30 < P.length) = false := decide_eq_false (by omega)
  have q2 : decide (30 < Q.length) = false := decide_eq_false (by omega)
  have q3 : decide (2000 < fan) = false := decide_eq_false (by omega)
  have b0 := Blk.new w 30 (caseV A P.length c s0 s1 s2 s3 e o fan)
  have f0 : Fresh w (w.alloc (.cells (caseV A P.length c s0 s1 s2 s3 e o fan) 30)) := (Keep.refl _ _).alloc _
  clear hT hP hQ hf
  unfold caseV at f0 b0 ⊢
  have F0 := Lib.hid f0
  have B0 := Lib.hid b0
  clear f0 b0
  go_enter Tryd.func5, Tryd.ntmps5
  go_wp2_with fail
  go_loopg [5] P.length (fun gk u wr => ∃ q : Nat, q ≤ P.length ∧ gk = P.length - q ∧ u = .int .i64 q ∧ Fresh w wr ∧ Blk wr w.heap.size 30 #[.slice A P.length c, .int .i64 s0, .int .i64 s1, .int .i64 s2, .int .i64 s3, .int .i64 e.at_, .int .i64 o.src, .int .i64 o.sent, .int .i64 o.no, .int .i64 e.dst, .int .i64 e.kind, .int .i64 e.data, .int .i64 fan] ∧ ∀ x ∈ P.take q, plainI x)
  case atStart => exact ⟨0, Nat.zero_le _, rfl, rfl, F0.out, B0.out, by simp⟩
  case round =>
    obtain ⟨q, hq, rfl, rfl, hF, hB, hpl⟩ := hrel
    have FR : Hid (Fresh w wr) := hF
    have BR := Lib.hid hB
    have TR : Hid (∀ W, Fresh wr W → Tab W) := fun W f => HT.out.fresh (hF.step f (fun _ _ h => h))
    have cb := hB.cell
    have lb := hB.lt
    by_cases hlt : q < P.length
    · obtain ⟨x, hx⟩ : ∃ x, P[q]? = some x := ⟨_, List.getElem?_eq_getElem hlt⟩
      obtain ⟨ba, oa, ea, la, hcx⟩ := (HP.out.fresh hF) q x hx
      have c0 := hcx 0 _ rfl
      rw [Nat.add_zero] at c0
      have hq0 : (0 : Int) ≤ (q : Int) := by omega
      have hq1 : (q : Int) < (P.length : Int) := by omega
      have t1 : decide ((q : Int) < (P.length : Int)) = true := decide_eq_true hq1
      have t1' : decide (q < P.length) = true := decide_eq_true hlt
      have HPL : Hid (plainI x → ∀ y ∈ P.take (q + 1), plainI y) := fun hp y hy => by
        rw [List.take_add_one, hx] at hy
        rcases List.mem_append.1 hy with hy | hy
        · exact hpl y hy
        · simp at hy
          exact hy ▸ hp
      clear hF hB hx hcx hpl
      subst ea
      obtain ⟨x0, x1, x2, x3, x4⟩ := x
      simp only at c0
      by_cases h8 : x0 = 8
      · subst h8
        go_wp2_with (refine (awake_any _ (TR.out _ (by (repeat (first | (with_reducible exact Keep.refl _ _) | (with_reducible assumption) | (with_reducible refine Keep.drew ?_) | (with_reducible refine Keep.drewN ?_ _) | (with_reducible refine Keep.alloc ?_ _) | (with_reducible refine Keep.setCell ?_ ?_ _) | (with_reducible refine fun _ => rfl)))))).mono ?_; rintro en w5 ⟨rfl, f5⟩)
        go_returns
        exact ⟨rfl, Fresh.below_ (FR.out.step (Keep.step (S := fun _ => False) (by (repeat (first | (with_reducible exact Keep.refl _ _) | (with_reducible assumption) | (with_reducible refine Keep.drew ?_) | (with_reducible refine Keep.drewN ?_ _) | (with_reducible refine Keep.alloc ?_ _) | (with_reducible refine Keep.setCell ?_ ?_ _) | (with_reducible refine fun _ => rfl))) : Fresh wr _) f5 (fun _ _ h => h)) (fun _ _ h => h)) (Nat.le_refl _)⟩
      · have t8 : (x0 == 8) = false := by simpa using h8
        by_cases h9 : x0 = 9
        · subst h9
          go_wp2_with (refine (awake_any _ (TR.out _ (by (repeat (first | (with_reducible exact Keep.refl _ _) | (with_reducible assumption) | (with_reducible refine Keep.drew ?_) | (with_reducible refine Keep.drewN ?_ _) | (with_reducible refine Keep.alloc ?_ _) | (with_reducible refine Keep.setCell ?_ ?_ _) | (with_reducible refine fun _ => rfl)))))).mono ?_; rintro en w5 ⟨rfl, f5⟩)
          go_returns
          exact ⟨rfl, Fresh.below_ (FR.out.step (Keep.step (S := fun _ => False) (by (repeat (first | (with_reducible exact Keep.refl _ _) | (with_reducible assumption) | (with_reducible refine Keep.drew ?_) | (with_reducible refine Keep.drewN ?_ _) | (with_reducible refine Keep.alloc ?_ _) | (with_reducible refine Keep.setCell ?_ ?_ _) | (with_reducible refine fun _ => rfl))) : Fresh wr _) f5 (fun _ _ h => h)) (fun _ _ h => h)) (Nat.le_refl _)⟩
        · have t9 : (x0 == 9) = false := by simpa using h9
          have HP2 := Lib.hid (HPL.out ⟨h8, h9⟩)
          clear h8 h9
          go_wp2_with fail
          go_roundg (P.length - (q + 1))
          case measure => omega
          case rel => exact ⟨q + 1, by omega, rfl, by go_num, FR.out, BR.out, HP2.out⟩
    · obtain rfl : q = P.length := by omega
      have t1 : decide ((P.length : Int) < (P.length : Int)) = false := decide_eq_false (by omega)
      have hpl' : ∀ x ∈ P, plainI x := by rw [List.take_length] at hpl; exact hpl
      have HPL := Lib.hid hpl'
      clear hF hB hpl hpl'
      obtain ⟨i0, hi, hz0, hz1, hz2⟩ := info_parts info_instr
      have h05 : 0 < 5 := by omega
      have hL1 : 0 + P.length ≤ maxLen := one_le_maxLen (by omega)
      have hL2 : (0 + P.length) * 40 ≤ 140737488355328 := by omega
      have HS1 := Lib.hid ((HP.out.fresh FR.out).src c)
      have HS1d : Hid (Src wr.drew 5 (.slice A P.length c) P.length (icells P)) := (HP.out.fresh (FR.out.drew)).src c
      have hM1 : P.length + 1 ≤ maxLen := one_le_maxLen (by omega)
      have hM2 : (P.length + 1) * 40 ≤ 140737488355328 := by omega
      have hN1 : P.length + 1 + Q.length ≤ maxLen := one_le_maxLen (by omega)
      have hN2 : (P.length + 1 + Q.length) * 40 ≤ 140737488355328 := by omega
      have HS2 : Hid (∀ W : World, Src (W.alloc (.cells #[.int .i64 15, .int .i64 0, .int .i64 0, .int .i64 0, .int .i64 0] 41)) 5 (.slice (some ⟨W.heap.size, 0, none⟩) 1 1) 1 (icells [stopI])) := fun W => Src.one_new W 41 5 #[.int .i64 15, .int .i64 0, .int .i64 0, .int .i64 0, .int .i64 0] rfl
      have HS3 : Hid (∀ W : World, Fresh wr W → Src W 5 (.slice A2 Q.length d) Q.length (icells Q)) := fun W f => ((HQ.out.fresh FR.out).fresh f).src d
      have F00 : Hid (Fresh wr wr) := Keep.refl _ _
      go_wp2_with (at_builtin; first
        | (refine wpList_append_OwnS _ rfl _ _ 22 rfl 41 i0 (.agg #[.int .i64 0, .int .i64 0, .int .i64 0, .int .i64 0, .int .i64 0]) 5 40 Tryd.underlying22 hi hz0 hz1 hz2 rfl h05 (.slice none 0 0) 0 [] rfl (OwnS.nil _ _ _) (.slice A P.length c) P.length (icells P) rfl HS1.out (icells_one P) hL1 hL2 ?_; intro v1 w2 o2 k2 n2; obtain ⟨A3, cap3, rfl, _, _⟩ := o2.shape; rw [List.nil_append] at o2; have F2 := Lib.hid (fresh_app F00.out (new_nil wr) k2); have N2 := Lib.hid (new_step (Nat.le_refl _) (new_nil wr) n2); rw [Nat.zero_add] at o2 N2; have O2 := Lib.hid o2; clear o2 k2 n2)
        | (refine wpList_append_OwnS _ rfl _ _ 22 rfl 41 i0 (.agg #[.int .i64 0, .int .i64 0, .int .i64 0, .int .i64 0, .int .i64 0]) 5 40 Tryd.underlying22 hi hz0 hz1 hz2 rfl h05 (.slice A3 P.length cap3) P.length (icells P) rfl (O2.out.alloc _) (.slice (some ⟨w2.heap.size, 0, none⟩) 1 1) 1 (icells [stopI]) rfl (HS2.out w2) (icells_one _) hM1 hM2 ?_; intro v3 w3 o3 k3 n3; obtain ⟨A4, cap4, rfl, _, _⟩ := o3.shape; have F3 := Lib.hid (fresh_app (Keep.alloc F2.out _) N2.out k3); have N3 := Lib.hid (new_step (Keep.alloc F2.out _).size N2.out n3); have O3 := Lib.hid o3; clear o3 k3 n3)
        | (refine wpList_append_OwnS _ rfl _ _ 22 rfl 41 i0 (.agg #[.int .i64 0, .int .i64 0, .int .i64 0, .int .i64 0, .int .i64 0]) 5 40 Tryd.underlying22 hi hz0 hz1 hz2 rfl h05 (.slice A4 (P.length + 1) cap4) (P.length + 1) (icells P ++ icells [stopI]) rfl O3.out (.slice A2 Q.length d) Q.length (icells Q) rfl (HS3.out w3 F3.out) (icells_one Q) hN1 hN2 ?_; intro v4 w4 o4 k4 n4; obtain ⟨A5, cap5, rfl, hc5, hm5⟩ := o4.shape; have F4 := Lib.hid (fresh_app F3.out N3.out k4); have O4 := Lib.hid o4; have b4 := Keep.block F4.out; have cb4 := (BR.out.keep F4.out (fun h => h)).cell; have lb4 := (BR.out.keep F4.out (fun h => h)).lt; clear o4 k4 n4 b4))
      obtain ⟨c0, c1, c2, c3, R, hR, hR2, hs, hr⟩ := run_two P Q HPL.out hP30 hQ30 s0 s1 s2 s3 e
      have hwl : (withStop P Q).length = P.length + 1 + Q.length := by simp [withStop]; omega
      have hwc : icells (withStop P Q) = icells P ++ icells [stopI] ++ icells Q := by simp [withStop, icells]
      have TW : Hid (∀ W, Fresh w4 W → Tab W) := fun W f => HT.out.fresh (FR.out.step (F4.out.step f (fun _ _ h => h)) (fun _ _ h => h))
      have hol := outs_len fan R.1
      obtain ⟨L, hL⟩ : ∃ L, outs fan R.1 = L := ⟨_, rfl⟩
      rw [hL] at hol
      have hPQ : Prg w4 A5 (withStop P Q) := prg_own (n := P.length + 1 + Q.length) (c := cap5) (by rw [hwc]; exact O4.out) hwl.symm
      have RUN1 : Hid (Calls Tryd.prog 9 #[.slice A P.length c, .agg #[.int .i64 s0, .int .i64 s1, .int .i64 s2, .int .i64 s3], .agg #[.int .i64 e.at_, .int .i64 o.src, .int .i64 o.sent, .int .i64 o.no, .int .i64 e.dst, .int .i64 e.kind, .int .i64 e.data], .int .i64 1024, .int .i64 fan] w4 fun en w' =>
          ∃ A' c', en = .returned (.tuple #[.agg #[.int .i64 c0, .int .i64 c1, .int .i64 c2, .int .i64 c3], .slice A' L.length c', .int .i64 (R.2 : Nat)]) ∧ c' ≤ 9223372036854775807 ∧ OwnS w' 37 4 (.slice A' L.length c') L.length (ecells L) ∧ Fresh w4 w' ∧ ∀ k, (Value.slice A' L.length c').ownBlock = some k → w4.heap.size ≤ k) := by
        have := hR A c o fan w4 (HP.out.fresh (FR.out.step F4.out (fun _ _ h => h))) hc1 hc2 (TW.out _ (Keep.refl _ _))
        rw [hL] at this
        exact this
      have RUN2 : Hid (∀ W, Fresh w4 W → Calls Tryd.prog 9 #[.slice A5 (P.length + 1 + Q.length) cap5, .agg #[.int .i64 s0, .int .i64 s1, .int .i64 s2, .int .i64 s3], .agg #[.int .i64 e.at_, .int .i64 o.src, .int .i64 o.sent, .int .i64 o.no, .int .i64 e.dst, .int .i64 e.kind, .int .i64 e.data], .int .i64 1024, .int .i64 fan] W fun en w' =>
          ∃ A' c', en = .returned (.tuple #[.agg #[.int .i64 c0, .int .i64 c1, .int .i64 c2, .int .i64 c3], .slice A' L.length c', .int .i64 (R.2 : Nat)]) ∧ c' ≤ 9223372036854775807 ∧ OwnS w' 37 4 (.slice A' L.length c') L.length (ecells L) ∧ Fresh W w' ∧ ∀ k, (Value.slice A' L.length c').ownBlock = some k → W.heap.size ≤ k) := fun W f => by
        have := hR2 A5 cap5 o fan W (hPQ.fresh f) (by rw [hwl]; exact hc5) (by unfold maxLen at hm5; omega) (TW.out W f)
        rw [hL, hwl] at this
        exact this
      have BC4 := Lib.hid (BR.out.keep F4.out (fun h => h))
      have FW4 : Hid (Fresh w w4) := FR.out.step F4.out (fun _ _ h => h)
      clear hR hR2 hwl hwc hPQ hL HS1 HS1d HS2 HS3 F00 F2 N2 O2 F3 N3 O3 O4 F4 BR FR TR hL1 hL2 hM1 hM2 hN1 hN2 hm5 hc5 cb lb
      refine RUN1.out.mono ?_
      rintro en w5 ⟨A6, c6, rfl, hc6, o6, f6, n6⟩
      have O6 := Lib.hid o6
      have F6 : Hid (Fresh w4 w5) := f6
      clear o6 f6 n6 cb4 lb4 RUN1
      have cb := (BC4.out.keep F6.out (fun h => h)).cell
      have lb := (BC4.out.keep F6.out (fun h => h)).lt
      go_wp2_with fail
      have FB : Fresh w5 (w5.alloc (.cells #[.int .i64 c0, .int .i64 c1, .int .i64 c2, .int .i64 c3] 24)) := (Keep.refl _ _).alloc _
      have BT := Blk.new w5 24 #[.int .i64 c0, .int .i64 c1, .int .i64 c2, .int .i64 c3]
      have HRB := RUN2.out _ (F6.out.step FB (fun _ _ h => h))
      refine HRB.mono ?_
      rintro en w7 ⟨A7, c7, rfl, hc7, o7, f7, n7⟩
      have BS7 := Lib.hid (BT.keep f7 (fun h => h))
      have f7 := Keep.step FB f7 (fun _ _ h => h)
      have O77 := Lib.hid o7
      have O67 := Lib.hid (O6.out.fresh f7)
      have F7 : Hid (Fresh w4 w7) := F6.out.step f7 (fun _ _ h => h)
      have BC7 := Lib.hid (BC4.out.keep F7.out (fun h => h))
      clear n7 o7 FB BT HRB cb lb f7 RUN2 O6 F6
      have cs := BS7.out.cell
      have ls := BS7.out.lt
      have cb := BC7.out.cell
      have lb := BC7.out.lt
      have q9 : decide ((P.length : Int) < (R.2 : Int)) = false := decide_eq_false (by omega)
      go_wp2_with fail
      have TB : Hid (∀ W, Fresh w7 W → Tab W) := fun W f => TW.out _ (F7.out.step f (fun _ _ h => h))
      have FW : Hid (Fresh w w7) := FW4.out.step F7.out (fun _ _ h => h)
      clear cs ls cb lb BS7 BC7 BC4 TW F7 FW4
      have hl3 : L.length ≤ 1024 := by omega
      go_loopg [13] L.length (fun gk u wr2 => ∃ q : Nat, q ≤ L.length ∧ gk = L.length - q ∧ u = .int .i64 q ∧ Fresh w7 wr2)
      case atStart => exact ⟨0, Nat.zero_le _, rfl, rfl, by (repeat (first | (with_reducible exact Keep.refl _ _) | (with_reducible assumption) | (with_reducible refine Keep.drew ?_) | (with_reducible refine Keep.drewN ?_ _) | (with_reducible refine Keep.alloc ?_ _) | (with_reducible refine Keep.setCell ?_ ?_ _) | (with_reducible refine fun _ => rfl)))⟩
      case round =>
        obtain ⟨q, hq, rfl, rfl, hF⟩ := hrel
        have FR : Hid (Fresh w7 wr) := hF
        by_cases hlt : q < L.length
        · obtain ⟨x, hx⟩ : ∃ x, L[q]? = some x := ⟨_, List.getElem?_eq_getElem hlt⟩
          obtain ⟨ba, oa, ea, la, a0, a1, a2, a3⟩ := out_at (O67.out.fresh hF) hx
          obtain ⟨bb, ob, eb, lb, e0, e1, e2, e3⟩ := out_at (O77.out.fresh hF) hx
          have hq0 : (0 : Int) ≤ (q : Int) := by omega
          have hq1 : (q : Int) < (L.length : Int) := by omega
          have t1 : decide ((q : Int) < (L.length : Int)) = true := decide_eq_true hq1
          have t1' : decide (q < L.length) = true := decide_eq_true hlt
          clear hF hx
          subst ea eb
          obtain ⟨x0, x1, x2, x3⟩ := x
          simp only at a0 a1 a2 a3 e0 e1 e2 e3
          go_wp2_with fail
          go_quiet (fail)
          go_wp2_with fail
          go_roundg (L.length - (q + 1))
          case measure => omega
          case rel => exact ⟨q + 1, by omega, rfl, by go_num, by have := FR.out; (repeat (first | (with_reducible exact Keep.refl _ _) | (with_reducible assumption) | (with_reducible refine Keep.drew ?_) | (with_reducible refine Keep.drewN ?_ _) | (with_reducible refine Keep.alloc ?_ _) | (with_reducible refine Keep.setCell ?_ ?_ _) | (with_reducible refine fun _ => rfl)))⟩
        · obtain rfl : q = L.length := by omega
          have t1 : decide ((L.length : Int) < (L.length : Int)) = false := decide_eq_false (by omega)
          clear hF
          go_wp2_with (refine (awake_any _ (TB.out _ FR.out)).mono ?_; rintro en w9 ⟨rfl, f9⟩)
          go_returns
          exact ⟨rfl, Fresh.below_ ((FW.out.step FR.out (fun _ _ h => h)).step f9 (fun _ _ h => h)) (Nat.le_refl _)⟩
open Go.ChangeShapes Go.WideShapes Go.ChangeAt
theorem vmEnd_laid (os : Os) : laidMet Tryd.prog Rows.vmEndRow.laid ((laidWorld os).forCall (fun _ _ => 0) ⟨#[], #[.agg #[.slice none 0 0, .int .i64 0, .int .i64 0, .int .i64 0, .int .i64 0, .int .i64 0, .int .i64 0, .int .i64 0, .int .i64 0, .int .i64 0, .int .i64 0, .int .i64 0, .int .i64 0], .slice none 0 0], []⟩).memory :=
  laidMet_of_run' 8 (by kernel_rfl) (by kernel_rfl)
theorem vmEnd_reads (os : Os) {H : Type} (enc : TypeId × Value → H) : ∃ places, DataW.whole enc Tryd.prog ((laidWorld os).forCall (fun _ _ => 0) ⟨#[], #[.agg #[.slice none 0 0, .int .i64 0, .int .i64 0, .int .i64 0, .int .i64 0, .int .i64 0, .int .i64 0, .int .i64 0, .int .i64 0, .int .i64 0, .int .i64 0, .int .i64 0, .int .i64 0], .slice none 0 0], []⟩).memory Tryd.f5.params.toList Rows.vmEndSpec.vars false (#[.agg #[.slice none 0 0, .int .i64 0, .int .i64 0, .int .i64 0, .int .i64 0, .int .i64 0, .int .i64 0, .int .i64 0, .int .i64 0, .int .i64 0, .int .i64 0, .int .i64 0, .int .i64 0], .slice none 0 0] : Array Value).toList 8 = some ([.agg [.nil, .agg [.lit (.int .i64 0), .lit (.int .i64 0), .lit (.int .i64 0), .lit (.int .i64 0)], .agg [.agg [.lit (.int .i64 0), .lit (.int .i64 0), .lit (.int .i64 0), .lit (.int .i64 0)], .lit (.int .i64 0), .lit (.int .i64 0), .lit (.int .i64 0)], .lit (.int .i64 0)], .nil], [], places) :=
  ⟨[], by kernel_rfl⟩
set_option maxRecDepth 100000 in
theorem vmEnd_lifted (os : Os) (started : os.Started) (H : Type) (enc : TypeId × Value → H) (F : Stop.Interp) :
    ReturnsInHanded {} Tryd.checked os 5 .any ((OpenSpec.ofChange Rows.vmEndSpec).preRow enc Tryd.prog Tryd.f5 Rows.vmEndRow.domain false Rows.vmEndRow.laid) (((OpenSpec.ofChange Rows.vmEndSpec).at F).post enc Tryd.prog Tryd.f5 false true false false) := by
  obtain ⟨places, hx⟩ := vmEnd_reads os enc
  refine law_lifted_row (C := Tryd.checked) (tb := 4) (by kernel_rfl) (by kernel_rfl) started (by kernel_rfl) Tryd.func5 rfl ?_ rfl Tryd.underlying4 (by kernel_rfl)
    (witness_row_at (enc := enc) (C := Tryd.checked) false (laidWorld os) #[.agg #[.slice none 0 0, .int .i64 0, .int .i64 0, .int .i64 0, .int .i64 0, .int .i64 0, .int .i64 0, .int .i64 0, .int .i64 0, .int .i64 0, .int .i64 0, .int .i64 0, .int .i64 0], .slice none 0 0] rfl (by kernel_rfl) (by kernel_rfl) (by kernel_rfl)
      (OpenSpec.preRow_of_cond 8 hx (by kernel_rfl) (fun k hk => by cases hk) (by kernel_rfl) (vmEnd_laid os))) ?_
  · intro ds hds
    match ds, hds with
    | [e0, e1], _ => rfl
  · intro W base args ds p hval hA hreach hL
    have hT := tab_of_laid hL
    rw [Tryd.params5] at hA hval hreach
    obtain ⟨v0, vs0, d0, ds0, p0, q0, hargs, rfl, rfl, h0, r0⟩ := trodAll_cons hA
    obtain ⟨v1, vs1, d1, ds1, p1, q1, rfl, rfl, rfl, h1, r1⟩ := trodAll_cons r0
    obtain ⟨rfl, rfl, rfl⟩ := trodAll_nil r1
    obtain rfl : args = #[v0, v1] := by cases args; simp_all
    obtain ⟨l0, rfl, hl0⟩ := arg_struct (n := 6) Tryd.underlying30 (by kernel_rfl) (hval 0 30 v0 rfl rfl) h0
    have hfl : flat Tryd.prog 6 30 = [22, 3, 3, 3, 3, 3, 3, 3, 3, 3, 3, 3, 3] := by kernel_rfl
    rw [hfl] at hl0; clear hfl
    obtain ⟨u_P, l1, e1, h_P, hl1⟩ := all2_cons hl0
    obtain ⟨s0, l2, e2, w_s0, hl2⟩ := all2_int Tryd.underlying3 hl1
    obtain ⟨s1, l3, e3, w_s1, hl3⟩ := all2_int Tryd.underlying3 hl2
    obtain ⟨s2, l4, e4, w_s2, hl4⟩ := all2_int Tryd.underlying3 hl3
    obtain ⟨s3, l5, e5, w_s3, hl5⟩ := all2_int Tryd.underlying3 hl4
    obtain ⟨e0, l6, e6, w_e0, hl6⟩ := all2_int Tryd.underlying3 hl5
    obtain ⟨e1, l7, e7, w_e1, hl7⟩ := all2_int Tryd.underlying3 hl6
    obtain ⟨e2, l8, e8, w_e2, hl8⟩ := all2_int Tryd.underlying3 hl7
    obtain ⟨e3, l9, e9, w_e3, hl9⟩ := all2_int Tryd.underlying3 hl8
    obtain ⟨e4, l10, e10, w_e4, hl10⟩ := all2_int Tryd.underlying3 hl9
    obtain ⟨e5, l11, e11, w_e5, hl11⟩ := all2_int Tryd.underlying3 hl10
    obtain ⟨e6, l12, e12, w_e6, hl12⟩ := all2_int Tryd.underlying3 hl11
    obtain ⟨fan, l13, e13, w_fan, hl13⟩ := all2_int Tryd.underlying3 hl12
    obtain rfl := all2_nil hl13
    subst e13 e12 e11 e10 e9 e8 e7 e6 e5 e4 e3 e2 e1
    clear hl13 hl12 hl11 hl10 hl9 hl8 hl7 hl6 hl5 hl4 hl3 hl2 hl1 hl0
    obtain ⟨A_m, n_m, c_m, rows_m, rfl, len_m, cap_m, max_m, leaf_m, at_m⟩ := arg_slice (n := 6) Tryd.underlying22 (by kernel_rfl) (by kernel_rfl) (by rw [show Tryd.prog.cellsOf 41 = 5 by kernel_rfl]; decide) (hval 1 22 v1 rfl rfl) h1
    rw [show flat Tryd.prog 6 41 = [3, 3, 3, 3, 3] by kernel_rfl] at leaf_m
    rw [show Tryd.prog.cellsOf 41 = 5 by kernel_rfl] at at_m
    obtain ⟨A, n, cp, rows, rfl, hlen, hcap, hmax, hleaf, hat⟩ := leaf_slice (n := 6) Tryd.underlying22 (by kernel_rfl) (by kernel_rfl) (by rw [show Tryd.prog.cellsOf 41 = 5 by kernel_rfl]; decide) h_P
    rw [show flat Tryd.prog 6 41 = [3, 3, 3, 3, 3] by kernel_rfl] at hleaf
    rw [show Tryd.prog.cellsOf 41 = 5 by kernel_rfl] at hat
    obtain ⟨P, hPl, hPp⟩ := ins_arg hleaf hat
    have hn : P.length = n := hPl.trans hlen
    subst hn
    obtain ⟨Q, hQl, hQp⟩ := ins_arg leaf_m at_m
    have hn2 : Q.length = n_m := hQl.trans len_m
    subst hn2
    have hm : cp ≤ 9223372036854775807 := by unfold maxLen at hmax; omega
    by_cases hbad : 30 < P.length ∨ 30 < Q.length ∨ 2000 < fan
    · exact end_no A A_m P.length cp Q.length c_m s0 s1 s2 s3 ⟨e0, e5, e6, e4⟩ ⟨e1, e2, e3⟩ fan W hT hbad
    · exact end_ok A A_m P Q cp c_m s0 s1 s2 s3 ⟨e0, e5, e6, e4⟩ ⟨e1, e2, e3⟩ fan W hT hPp hQp hcap hm (by omega) (by omega) (by omega)

theorem vmEnd_said : Rows.VmEndSaid :=
  OpenClaim.holds_of_cond 5 Tryd.f5 rfl rfl rfl rfl rfl rfl rfl ⟨rfl, rfl, rfl, rfl, rfl⟩ rfl rfl rfl rfl rfl (by kernel_rfl) Tryd.func5 (by kernel_rfl)
    (of_decide_eq_true (by kernel_rfl)) (by unfold Func.isWrapper; first | (rw [if_pos (by decide +kernel)]; kernel_rfl) | (rw [if_neg (by decide +kernel)]; exact ⟨rfl, rfl⟩))
    (fun os started H enc _ F => by rw [OpenClaim.pre_eq_preRow]; exact vmEnd_lifted os started H enc F)
theorem vmEnd_plain (f : FuncId) (fn : Func) (hf : Tryd.pinned.checked.prog.funcNamed "boomerang/boomeranglaw06.VmEnd" = some f) (hfn : Tryd.pinned.checked.prog.funcs[f]? = some fn) :
    false = Tryd.pinned.checked.prog.looks [] ∧ ∀ (j : Nat) t, fn.params[j]? = some t → Tryd.pinned.checked.prog.wantsStandIn t = false := by
  obtain rfl : f = 5 := Option.some.inj ((show Tryd.prog.funcNamed "boomerang/boomeranglaw06.VmEnd" = some 5 by kernel_rfl).symm.trans hf) |>.symm
  obtain rfl : fn = Tryd.f5 := (Option.some.inj (Tryd.func5.symm.trans hfn)).symm
  refine ⟨by kernel_rfl, fun j t ht => ?_⟩
  rw [Tryd.params5] at ht
  have hm := Array.mem_of_getElem? ht
  simp at hm
  rcases hm with rfl | rfl
  · exact (show Tryd.prog.wantsStandIn 30 = false by kernel_rfl)
  · exact (show Tryd.prog.wantsStandIn 22 = false by kernel_rfl)
theorem vmEnd_holds : Rows.VmEndCardSaid :=
  Claim7.holds_tied_plain_at .later [] _ _ _ _ vmEnd_said (fun _ h => by cases h) (by kernel_rfl) (fun _ h => by cases h) vmEnd_row_tie rfl ⟨rfl, rfl⟩ (by kernel_rfl) rfl vmEnd_plain (by kernel_rfl)
end Go.Proofs.YtmamgpgigghocaaDoor
