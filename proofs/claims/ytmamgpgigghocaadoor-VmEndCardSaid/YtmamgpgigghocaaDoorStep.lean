/-
  vm.Machine.Step.
-/
import Derived.Test.YtmamgpgigghocaaDoorDoSend
import Derived.Deep.DeepCutAuto
namespace Go.Proofs.YtmamgpgigghocaaDoor
open Go.RowKit
attribute [local go_sem ↓] Go.wp_at_zero Go.wp_at_succ

theorem do_any (w : World) (g : Nat) (e : Ev) (o : Rest) (vp vs : Value) (P : List Ins) (fan : Int) (m : Ma) (h : Mach w g e o vp vs P fan m) (x : Ins) (n : Nat) (hx : mayE x n = 0) (h15 : x.op ≠ 15) (hsl : m.sent.length ≤ 100000) :
    Calls Tryd.prog 16 #[.pointer (some ⟨g, 0, none⟩), x.val] w fun en w' => en = .returned (.tuple #[]) ∧ DoPost g e o vp vs P fan (doP e x m) w w' := by
  obtain ⟨h1, h2, h3⟩ := may_nums x n hx
  obtain ⟨op, a, b, c, d⟩ := x
  simp only at h1 h2 h15
  unfold Ins.val
  simp only
  have hop : op = 1 ∨ op = 2 ∨ op = 3 ∨ op = 4 ∨ op = 5 ∨ op = 6 ∨ op = 7 ∨ op = 8 ∨ op = 9 ∨ op = 10 ∨ op = 11 ∨ op = 12 ∨ op = 13 ∨ op = 14 := by omega
  rcases hop with rfl | rfl | rfl | rfl | rfl | rfl | rfl | rfl | rfl | rfl | rfl | rfl | rfl | rfl
  · simp [ask, allFit, fitsP, Ins.nums] at h3
    obtain ⟨a, rfl⟩ := Int.eq_ofNat_of_zero_le h3.1.1
    exact do_set w g e o vp vs P fan m h a b c d (by omega)
  · simp [ask, allFit, fitsP, Ins.nums] at h3
    obtain ⟨a, rfl⟩ := Int.eq_ofNat_of_zero_le h3.1.1
    obtain ⟨b, rfl⟩ := Int.eq_ofNat_of_zero_le h3.2.1.1
    exact do_move w g e o vp vs P fan m h a b c d (by omega) (by omega)
  · simp [ask, allFit, fitsP, Ins.nums] at h3
    obtain ⟨a, rfl⟩ := Int.eq_ofNat_of_zero_le h3.1.1
    obtain ⟨b, rfl⟩ := Int.eq_ofNat_of_zero_le h3.2.1.1
    obtain ⟨c, rfl⟩ := Int.eq_ofNat_of_zero_le h3.2.2.1.1
    exact do_reck3 w g e o vp vs P fan m h a b c d (by omega) (by omega) (by omega)
  · simp [ask, allFit, fitsP, Ins.nums] at h3
    obtain ⟨a, rfl⟩ := Int.eq_ofNat_of_zero_le h3.1.1
    obtain ⟨b, rfl⟩ := Int.eq_ofNat_of_zero_le h3.2.1.1
    obtain ⟨c, rfl⟩ := Int.eq_ofNat_of_zero_le h3.2.2.1.1
    exact do_reck4 w g e o vp vs P fan m h a b c d (by omega) (by omega) (by omega)
  · simp [ask, allFit, fitsP, Ins.nums] at h3
    obtain ⟨a, rfl⟩ := Int.eq_ofNat_of_zero_le h3.1.1
    obtain ⟨b, rfl⟩ := Int.eq_ofNat_of_zero_le h3.2.1.1
    obtain ⟨c, rfl⟩ := Int.eq_ofNat_of_zero_le h3.2.2.1.1
    exact do_reck5 w g e o vp vs P fan m h a b c d (by omega) (by omega) (by omega)
  · simp [ask, allFit, fitsP, Ins.nums] at h3
    obtain ⟨a, rfl⟩ := Int.eq_ofNat_of_zero_le h3.1.1
    obtain ⟨b, rfl⟩ := Int.eq_ofNat_of_zero_le h3.2.1.1
    obtain ⟨c, rfl⟩ := Int.eq_ofNat_of_zero_le h3.2.2.1.1
    exact do_reck6 w g e o vp vs P fan m h a b c d (by omega) (by omega) (by omega)
  · simp [ask, allFit, fitsP, Ins.nums] at h3
    obtain ⟨a, rfl⟩ := Int.eq_ofNat_of_zero_le h3.1.1
    obtain ⟨b, rfl⟩ := Int.eq_ofNat_of_zero_le h3.2.1.1
    obtain ⟨c, rfl⟩ := Int.eq_ofNat_of_zero_le h3.2.2.1.1
    exact do_reck7 w g e o vp vs P fan m h a b c d (by omega) (by omega) (by omega)
  · simp [ask, allFit, fitsP, Ins.nums] at h3
    obtain ⟨a, rfl⟩ := Int.eq_ofNat_of_zero_le h3.1.1
    exact do_jump w g e o vp vs P fan m h a b c d
  · simp [ask, allFit, fitsP, Ins.nums] at h3
    obtain ⟨a, rfl⟩ := Int.eq_ofNat_of_zero_le h3.1.1
    obtain ⟨b, rfl⟩ := Int.eq_ofNat_of_zero_le h3.2.1.1
    by_cases hz : m.get a = 0
    · have e1 : doP e ⟨9, a, b, c, d⟩ m = { m with at_ := b } := by simp [doP, hz]
      rw [e1]
      exact do_zero_true w g e o vp vs P fan m h a b c d (by omega) (by simpa using hz)
    · have e1 : doP e ⟨9, a, b, c, d⟩ m = m := by simp [doP, hz]
      rw [e1]
      exact do_zero_false w g e o vp vs P fan m h a b c d (by omega) (by simpa using hz)
  · simp [ask, allFit, fitsP, Ins.nums] at h3
    obtain ⟨a, rfl⟩ := Int.eq_ofNat_of_zero_le h3.1.1
    exact do_now w g e o vp vs P fan m h a b c d (by omega)
  · simp [ask, allFit, fitsP, Ins.nums] at h3
    obtain ⟨a, rfl⟩ := Int.eq_ofNat_of_zero_le h3.1.1
    exact do_kind w g e o vp vs P fan m h a b c d (by omega)
  · simp [ask, allFit, fitsP, Ins.nums] at h3
    obtain ⟨a, rfl⟩ := Int.eq_ofNat_of_zero_le h3.1.1
    exact do_data w g e o vp vs P fan m h a b c d (by omega)
  · simp [ask, allFit, fitsP, Ins.nums] at h3
    obtain ⟨a, rfl⟩ := Int.eq_ofNat_of_zero_le h3.1.1
    exact do_self w g e o vp vs P fan m h a b c d (by omega)
  · simp [ask, allFit, fitsP, Ins.nums] at h3
    obtain ⟨a, rfl⟩ := Int.eq_ofNat_of_zero_le h3.1.1
    obtain ⟨b, rfl⟩ := Int.eq_ofNat_of_zero_le h3.2.1.1
    obtain ⟨c, rfl⟩ := Int.eq_ofNat_of_zero_le h3.2.2.1.1
    by_cases hlt : ((outs fan m).length : Int) < fan
    · exact do_send_yes w g e o vp vs P fan m h a b c d (by omega) (by omega) (by omega) hlt hsl
    · exact do_send_no w g e o vp vs P fan m h a b c d (by omega) (by omega) (by omega) (by omega) hsl

def StepPost (g : Nat) (e : Ev) (o : Rest) (vp vs : Value) (P : List Ins) (fan : Int) (w : World) (r : Option Ma) (en : Ending) (w' : World) : Prop :=
  (r = none ∧ en = .returned (.bool false) ∧ Fresh w w') ∨ ∃ m', r = some m' ∧ en = .returned (.bool true) ∧ DoPost g e o vp vs P fan m' w w'

set_option maxHeartbeats 4000000 in
theorem step_any (w : World) (g : Nat) (e : Ev) (o : Rest) (vp vs : Value) (P : List Ins) (fan : Int) (m : Ma) (h : Mach w g e o vp vs P fan m) (hT : Tab w) (hP : P.length ≤ 64) (hat : m.at_ ≤ 100000) (hsl : m.sent.length ≤ 100000) :
    Calls Tryd.prog 10 #[.pointer (some ⟨g, 0, none⟩)] w (StepPost g e o vp vs P fan w (stepP P e m)) := by
  obtain ⟨Ap, capp, rfl, hcp, hmp⟩ := h.prog.shape
  have hmp : capp ≤ 9223372036854775807 := by unfold maxLen at hmp; omega
  obtain ⟨_, _, _, _, k7, k16, _, _⟩ := h.cells
  have hg := h.blk.lt
  have hf := h.blk.frozen
  unfold stepP nextP
  by_cases hlt : m.at_ < P.length
  · obtain ⟨x, hx⟩ : ∃ x, P[m.at_]? = some x := ⟨_, List.getElem?_eq_getElem hlt⟩
    rw [hx]
    simp only
    obtain ⟨r, hr⟩ : ∃ r, Option.map (fun x => doP e x { m with at_ := m.at_ + 1 }) (if x.op = 15 ∨ mayE x P.length ≠ 0 then none else some x) = r := ⟨_, rfl⟩
    rw [hr]
    have HR := Lib.hid hr
    clear hr
    obtain ⟨gp, off, cap, hv, lp, _, _, hc⟩ := h.prog.form (by omega)
    injection hv with hv1 hv2 hv3
    subst hv1 hv3
    have hcell : ∀ j u, x.vals[j]? = some u → w.cell? ⟨gp, off + m.at_ * 5 + j, none⟩ = some u := fun j u hu => by
      have := hc _ u (icells_at P m.at_ x hx j u hu)
      rw [← Nat.add_assoc] at this
      exact this
    have t1 : decide ((m.at_ : Int) < 0) = false := decide_eq_false (by omega)
    have t2 : decide ((P.length : Int) ≤ (m.at_ : Int)) = false := decide_eq_false (by omega)
    have t2' : decide (P.length ≤ m.at_) = false := decide_eq_false (by omega)
    have hM := fun W (f : Fresh w W) => may_any x P.length (by omega) W (hT.fresh f)
    have HM := Lib.hid hM
    have H := Lib.hid h
    obtain ⟨k, hk⟩ : ∃ k, m.at_ = k := ⟨_, rfl⟩
    have HK := Lib.hid hk
    have hk64 : k ≤ 64 := by omega
    have hkP : k < P.length := by omega
    rw [hk] at k16 t1 t2 t2' hcell
    have c0 := hcell 0 _ rfl
    have c1 := hcell 1 _ rfl
    have c2 := hcell 2 _ rfl
    have c3 := hcell 3 _ rfl
    have c4 := hcell 4 _ rfl
    rw [Nat.add_zero] at c0
    have HX := Lib.hid hx
    clear hM hcell hc hx h hk hT hlt hat
    obtain ⟨op, a, b, c, d⟩ := x
    simp only at c0 c1 c2 c3 c4 ⊢
    go_enter Tryd.func10, Tryd.ntmps10
    go_wp2_with fail
    go_quiet (fail)
    obtain ⟨W1, hW1⟩ : ∃ W1, w.drewN nq = W1 := ⟨_, rfl⟩
    have f1 : Fresh w W1 := hW1 ▸ (Keep.refl _ _).drewN nq
    have lp1 : gp < W1.heap.size := Nat.lt_of_lt_of_le lp f1.size
    have hg1 : g < W1.heap.size := Nat.lt_of_lt_of_le hg f1.size
    have lp2 : gp < W1.heap.size + 1 := Nat.lt_succ_of_lt lp1
    have hg2 : g < W1.heap.size + 1 := Nat.lt_succ_of_lt hg1
    rw [← World.cell?_drewN w nq] at c0 c1 c2 c3 c4 k7 k16
    rw [hW1] at c0 c1 c2 c3 c4 k7 k16 ⊢
    go_wp2_with fail
    go_cut [3] (fun s3 wx => s3 = .pointer (some ⟨W1.heap.size, 0, none⟩) ∧ Fresh w wx ∧ Blk wx W1.heap.size 41 #[.int .i64 op, .int .i64 a, .int .i64 b, .int .i64 c, .int .i64 d])
    case first =>
      have F1 := Lib.hid f1
      clear f1
      go_wp2_with fail
      go_region_law (fail)
      all_goals go_wp2_with fail
      all_goals go_meet
      all_goals exact ⟨rfl, by have := F1.out; (repeat (first | (with_reducible exact Keep.refl _ _) | (with_reducible assumption) | (with_reducible refine Keep.drew ?_) | (with_reducible refine Keep.drewN ?_ _) | (with_reducible refine Keep.alloc ?_ _) | (with_reducible refine Keep.setCell ?_ ?_ _) | (with_reducible refine fun _ => rfl))), by first | exact Blk.new _ _ _ | exact (Blk.new _ _ _).drew⟩
    case rest =>
      obtain ⟨rfl, fc, bc⟩ := hcut
      have hMay := HM.out wc fc
      have HMay := Lib.hid hMay
      have H3 := H.out.fresh fc
      obtain ⟨_, _, _, _, k7c, k16c, _, _⟩ := H3.cells
      have hgc := H3.blk.lt
      have hfc := H3.blk.frozen
      have bcc := bc.cell
      have BC := Lib.hid bc
      have FC := Lib.hid fc
      have HC := Lib.hid H3
      clear hMay H3 bc fc c0 c1 c2 c3 c4 k7 k16 hf hg1 lp1 lp2 hg2 f1 hW1
      by_cases h15 : op = 15
      · subst h15
        have e1 : r = none := by rw [← HR.out, if_pos (.inl rfl)]; rfl
        have E1 := Lib.hid e1
        clear e1
        go_wp2_with fail
        go_quiet (fail)
        go_wp2_with fail
        go_returns
        exact .inl ⟨E1.out, rfl, FC.out.drewN _⟩
      · obtain ⟨q, hq⟩ : ∃ q, mayE ⟨op, a, b, c, d⟩ P.length = q := ⟨_, rfl⟩
        have t15 : (op == 15) = false := by simpa using h15
        have HQ := Lib.hid hq
        have H15 : Hid (op ≠ 15) := h15
        have HMW : Hid (∀ W, Fresh wc W → Calls Tryd.prog 15 #[.agg #[.int .i64 op, .int .i64 a, .int .i64 b, .int .i64 c, .int .i64 d], .int .i64 P.length] W fun en w' => en = .returned (.int .i64 q) ∧ Fresh W w') := fun W f => hq ▸ HM.out W (FC.out.step f (fun _ _ h => h))
        clear hq h15 HM HMay
        have kX := fun (W : World) (f : Fresh wc W) (i : Nat) => (f.blk_ BC.out).cell i
        have kP := fun (W : World) (f : Fresh wc W) => (HC.out.fresh f).cells.2.2.2.2.1
        have fw : Fresh wc wc := Keep.refl _ _
        by_cases hq0 : q = 0
        · have tq : (q != 0) = false := by simpa using hq0
          subst hq0
          have e1 : r = some (doP e ⟨op, a, b, c, d⟩ { m with at_ := m.at_ + 1 }) := by
            rw [← HR.out, HQ.out, if_neg (by intro h; rcases h with h | h; exact H15.out h; exact h rfl)]
            rfl
          have E1 := Lib.hid e1
          clear e1
          go_wp2_with fail
          go_region_held3 (fun W => Fresh wc W)
            (first | (with_reducible assumption) | ((repeat (first | (with_reducible exact Keep.refl _ _) | (with_reducible assumption) | (with_reducible refine Keep.drew ?_) | (with_reducible refine Keep.drewN ?_ _) | (with_reducible refine Keep.alloc ?_ _) | (with_reducible refine Keep.setCell ?_ ?_ _) | (with_reducible refine fun _ => rfl)))))
            ((go_at_call 15; (with_reducible refine (HMW.out _ (by (repeat (first | (with_reducible exact Keep.refl _ _) | (with_reducible assumption) | (with_reducible refine Keep.drew ?_) | (with_reducible refine Keep.drewN ?_ _) | (with_reducible refine Keep.alloc ?_ _) | (with_reducible refine Keep.setCell ?_ ?_ _) | (with_reducible refine fun _ => rfl))))).mono ?_); rintro en w4 ⟨rfl, f4⟩; have f4 := Keep.step (S := fun _ => False) (by (repeat (first | (with_reducible exact Keep.refl _ _) | (with_reducible assumption) | (with_reducible refine Keep.drew ?_) | (with_reducible refine Keep.drewN ?_ _) | (with_reducible refine Keep.alloc ?_ _) | (with_reducible refine Keep.setCell ?_ ?_ _) | (with_reducible refine fun _ => rfl))) : Fresh wc _) f4 (fun _ _ h => h)))
          have H4 := HC.out.fresh f4
          obtain ⟨_, _, _, _, _, k16, _, _⟩ := H4.cells
          rw [HK.out] at k16
          have hf4 := H4.blk.frozen
          have hg4 := H4.blk.lt
          have B4 := Fresh.blk_ f4 BC.out
          have h5 : Mach (w4.setCell ⟨g, 16, none⟩ (.int .i64 ((k : Int) + 1))) g e o (.slice (some ⟨gp, off, none⟩) P.length capp) vs P fan { m with at_ := m.at_ + 1 } := by
            have := H4.jump (m.at_ + 1)
            have e5 : ((m.at_ + 1 : Nat) : Int) = (k : Int) + 1 := by rw [HK.out]; rfl
            rw [e5] at this
            exact this
          have hd := fun W (hW : Mach W g e o (.slice (some ⟨gp, off, none⟩) P.length capp) vs P fan { m with at_ := m.at_ + 1 }) => do_any W g e o (.slice (some ⟨gp, off, none⟩) P.length capp) vs P fan { m with at_ := m.at_ + 1 } hW ⟨op, a, b, c, d⟩ P.length HQ.out H15.out hsl
          have hne : W1.heap.size ≠ g := by
            intro e6
            have h1 := HC.out.blk
            have h2 := BC.out
            rw [e6] at h2
            unfold Blk at h1 h2
            rw [h1] at h2
            injection h2 with h2
            injection h2 with _ h2
            exact absurd h2 (by decide)
          have bx5 := B4.far (p := ⟨g, 16, none⟩) hne (.int .i64 ((k : Int) + 1))
          have K5 : Keep (fun i => i = g ∨ vs.ownBlock = some i) w (w4.setCell ⟨g, 16, none⟩ (.int .i64 ((k : Int) + 1))) := Keep.setCell (S := fun i => i = g ∨ vs.ownBlock = some i) (p := ⟨g, 16, none⟩) ((FC.out.step f4 (fun _ _ h => h)).more (fun _ _ h => h.elim)) (fun _ => .inl rfl) _
          have SZ : Hid (w.heap.size ≤ w4.heap.size) := (FC.out.step f4 (fun _ _ h => h)).size
          have KK5 := Lib.hid K5
          have HH5 := Lib.hid (hd _ h5)
          have b5 := bx5.cell
          have BX5 := Lib.hid bx5
          have bx4 := B4.cell
          clear H4 B4 h5 hd hne bx5 K5 kX kP f4 fw HMW
          simp only [Ins.val] at HH5
          go_wp2_with fail
          refine HH5.out.mono ?_
          rintro en w6 ⟨rfl, d6⟩
          have D6 := Lib.hid d6
          clear d6 b5 bx4 hf4
          go_wp2_with fail
          go_returns
          obtain ⟨vs', m6, k6, n6⟩ := D6.out
          refine .inr ⟨_, E1.out, rfl, vs', m6, KK5.out.trans k6, fun i hi => ?_⟩
          rcases n6 i hi with h6 | h6
          · exact .inl h6
          · right
            have := SZ.out
            simp at h6
            omega
        · have tq : (q != 0) = true := by simpa using hq0
          have e1 : r = none := by rw [← HR.out, HQ.out, if_pos (.inr hq0)]; rfl
          have E1 := Lib.hid e1
          clear e1 hq0
          go_wp2_with fail
          go_region_held3 (fun W => Fresh wc W)
            (first | (with_reducible assumption) | ((repeat (first | (with_reducible exact Keep.refl _ _) | (with_reducible assumption) | (with_reducible refine Keep.drew ?_) | (with_reducible refine Keep.drewN ?_ _) | (with_reducible refine Keep.alloc ?_ _) | (with_reducible refine Keep.setCell ?_ ?_ _) | (with_reducible refine fun _ => rfl)))))
            ((go_at_call 15; (with_reducible refine (HMW.out _ (by (repeat (first | (with_reducible exact Keep.refl _ _) | (with_reducible assumption) | (with_reducible refine Keep.drew ?_) | (with_reducible refine Keep.drewN ?_ _) | (with_reducible refine Keep.alloc ?_ _) | (with_reducible refine Keep.setCell ?_ ?_ _) | (with_reducible refine fun _ => rfl))))).mono ?_); rintro en w4 ⟨rfl, f4⟩; have f4 := Keep.step (S := fun _ => False) (by (repeat (first | (with_reducible exact Keep.refl _ _) | (with_reducible assumption) | (with_reducible refine Keep.drew ?_) | (with_reducible refine Keep.drewN ?_ _) | (with_reducible refine Keep.alloc ?_ _) | (with_reducible refine Keep.setCell ?_ ?_ _) | (with_reducible refine fun _ => rfl))) : Fresh wc _) f4 (fun _ _ h => h)))
          go_wp2_with fail
          go_returns
          exact .inl ⟨E1.out, rfl, FC.out.step (by (repeat (first | (with_reducible exact Keep.refl _ _) | (with_reducible assumption) | (with_reducible refine Keep.drew ?_) | (with_reducible refine Keep.drewN ?_ _) | (with_reducible refine Keep.alloc ?_ _) | (with_reducible refine Keep.setCell ?_ ?_ _) | (with_reducible refine fun _ => rfl)))) (fun _ _ h => h)⟩
  · have hx : P[m.at_]? = none := List.getElem?_eq_none (by omega)
    rw [hx]
    have t1 : decide ((m.at_ : Int) < 0) = false := decide_eq_false (by omega)
    have t2 : decide ((P.length : Int) ≤ (m.at_ : Int)) = true := decide_eq_true (by omega)
    have t2' : decide (P.length ≤ m.at_) = true := decide_eq_true (by omega)
    clear hx h hT hlt
    go_enter Tryd.func10, Tryd.ntmps10
    go_wp2_with fail
    go_quiet (fail)
    go_wp2_with fail
    go_returns
    exact .inl ⟨rfl, rfl, by (repeat (first | (with_reducible exact Keep.refl _ _) | (with_reducible assumption) | (with_reducible refine Keep.drew ?_) | (with_reducible refine Keep.drewN ?_ _) | (with_reducible refine Keep.alloc ?_ _) | (with_reducible refine Keep.setCell ?_ ?_ _) | (with_reducible refine fun _ => rfl)))⟩
end Go.Proofs.YtmamgpgigghocaaDoor
