/- Chapter 13: LpM, LpR, LpN, PMulti. -/
import Derived.Test.YthbcdkeammhakaaGreatM12
import Derived.Test.YthbcdkeammhakaaGreatM10
import Derived.Deep.DeepCutAuto
import Derived.Test.YthbcdkeammhakaaGreatM09
import Derived.Test.YthbcdkeammhakaaGreatM05
/-
  A process where it lies: how its parts turn.
-/
namespace Go.Proofs.YthbcdkeammhakaaGreat
open Go.RowKit
attribute [local go_sem ↓] Go.wp_at_zero Go.wp_at_succ
theorem Blk.ne_type {w : World} {a b : Nat} {t t' : TypeId} {cs cs' : Array Value} (h : Blk w a t cs) (h' : Blk w b t' cs') (hne : t ≠ t') : a ≠ b := by
  rintro rfl
  unfold Blk at h h'
  rw [h] at h'
  injection h' with h'
  injection h' with _ h2 _
  exact hne h2
section
variable {w w' : World} {c : LC} {y : PV} {p : LPs}
theorem SLP.ne_q (h : SLP w c y p) : ∀ i, foot y.gq y.v1 y.v2 i → i ≠ y.g := by
  rintro i (rfl | hi | hi)
  · exact h.sq.blk.ne_type h.blk (by decide)
  · rintro rfl; exact h.sq.own1.ne_blk h.blk (by decide) hi
  · rintro rfl; exact h.sq.own2.ne_blk h.blk (by decide) hi
theorem SLP.ne_o (h : SLP w c y p) : ∀ i, ofoot y.go y.v3 i → i ≠ y.g := by
  rintro i (rfl | hi)
  · exact h.oq.blk.ne_type h.blk (by decide)
  · rintro rfl; exact h.oq.own.ne_blk h.blk (by decide) hi
theorem SLP.ne_r (h : SLP w c y p) : ∀ i, RS.foot y.gr y.v4 i → i ≠ y.g := by
  rintro i (rfl | hi)
  · exact h.sr.blk.ne_type h.blk (by decide)
  · rintro rfl; exact h.sr.own.ne_blk h.blk (by decide) hi
theorem SLP.ne_qo (h : SLP w c y p) : ∀ i, foot y.gq y.v1 y.v2 i → ¬ ofoot y.go y.v3 i := by
  rintro i (rfl | hi | hi) (e | hj)
  · exact h.sq.blk.ne_type h.oq.blk (by decide) e
  · exact h.oq.own.ne_blk h.sq.blk (by decide) hj
  · subst e; exact h.sq.own1.ne_blk h.oq.blk (by decide) hi
  · exact h.sq.own1.ne_own h.oq.own (by decide) i hi hj
  · subst e; exact h.sq.own2.ne_blk h.oq.blk (by decide) hi
  · exact h.sq.own2.ne_own h.oq.own (by decide) i hi hj
theorem SLP.ne_qr (h : SLP w c y p) : ∀ i, foot y.gq y.v1 y.v2 i → ¬ RS.foot y.gr y.v4 i := by
  rintro i (rfl | hi | hi) (e | hj)
  · exact h.sq.blk.ne_type h.sr.blk (by decide) e
  · exact h.sr.own.ne_blk h.sq.blk (by decide) hj
  · subst e; exact h.sq.own1.ne_blk h.sr.blk (by decide) hi
  · exact h.sq.own1.ne_own h.sr.own (by decide) i hi hj
  · subst e; exact h.sq.own2.ne_blk h.sr.blk (by decide) hi
  · exact h.sq.own2.ne_own h.sr.own (by decide) i hi hj
theorem SLP.ne_or (h : SLP w c y p) : ∀ i, ofoot y.go y.v3 i → ¬ RS.foot y.gr y.v4 i := by
  rintro i (rfl | hi) (e | hj)
  · exact h.oq.blk.ne_type h.sr.blk (by decide) e
  · exact h.sr.own.ne_blk h.oq.blk (by decide) hj
  · subst e; exact h.oq.own.ne_blk h.sr.blk (by decide) hi
  · exact h.oq.own.ne_own h.sr.own (by decide) i hi hj
/-- a store into the process's own block -/
theorem SLP.set (h : SLP w c y p) (i : Nat) (u : Value) (p' : LPs) (hc : lcells c y p' = (lcells c y p).setIfInBounds i u) (h1 : p'.l = p.l) (h2 : p'.m = p.m) (h3 : p'.q = p.q) (h4 : p'.sv = p.sv) : SLP (w.setCell ⟨y.g, i, none⟩ u) c y p' := by
  have k : Keep (fun k => k = y.g) w (w.setCell ⟨y.g, i, none⟩ u) := (Keep.refl (fun k => k = y.g) w).setCell (p := ⟨y.g, i, none⟩) (fun _ => rfl) u
  refine ⟨?_, ?_, ?_, ?_⟩
  · rw [hc]; exact h.blk.set_ i u
  · rw [h1, h2]; exact h.sq.kept k (fun i hi => h.ne_q i hi)
  · rw [h3]; exact h.oq.kept k (fun i hi => h.ne_o i hi)
  · rw [h4]; exact h.sr.kept k (fun e => h.ne_r _ (.inl rfl) e) (fun i hi e => h.ne_r i (.inr hi) e)
theorem LTurn.set (y : PV) (w : World) (i : Nat) (u : Value) : LTurn w (w.setCell ⟨y.g, i, none⟩ u) y y := ⟨(Keep.refl _ w).setCell (p := ⟨y.g, i, none⟩) (fun _ => .inl rfl) u, rfl, rfl, rfl, rfl, fun _ h => .inl h⟩
theorem SLP.turnQ (h : SLP w c y p) {v1' v2' : Value} {l' m' : List Ev} (s : SQ w' y.gq v1' v2' l' m') (t : Turn w w' y.gq y.v1 y.v2 v1' v2') : SLP w' c { y with v1 := v1', v2 := v2' } { p with l := l', m := m' } ∧ LTurn w w' y { y with v1 := v1', v2 := v2' } := by
  refine ⟨⟨h.blk.keep t.keep (fun e => h.ne_q _ e rfl), s, h.oq.kept t.keep (fun i hi e => h.ne_qo i e hi), h.sr.kept t.keep (fun e => h.ne_qr _ e (.inl rfl)) (fun i hi e => h.ne_qr i e (.inr hi))⟩, ⟨t.keep.more (fun k _ hk => .inr (.inl hk)), rfl, rfl, rfl, rfl, ?_⟩⟩
  rintro k (hk | hk | hk | hk)
  · exact .inl (.inl hk)
  · rcases t.later k hk with h | h
    · exact .inl (.inr (.inl h))
    · exact .inr h
  · exact .inl (.inr (.inr (.inl hk)))
  · exact .inl (.inr (.inr (.inr hk)))
theorem SLP.turnO (h : SLP w c y p) {v3' : Value} {q' : List Rec} (s : OQ w' y.go v3' q') (t : OTurn w w' y.go y.v3 v3') : SLP w' c { y with v3 := v3' } { p with q := q' } ∧ LTurn w w' y { y with v3 := v3' } := by
  refine ⟨⟨h.blk.keep t.keep (fun e => h.ne_o _ e rfl), h.sq.kept t.keep (fun i hi e => h.ne_qo i hi e), s, h.sr.kept t.keep (fun e => h.ne_or _ e (.inl rfl)) (fun i hi e => h.ne_or i e (.inr hi))⟩, ⟨t.keep.more (fun k _ hk => .inr (.inr (.inl hk))), rfl, rfl, rfl, rfl, ?_⟩⟩
  rintro k (hk | hk | hk | hk)
  · exact .inl (.inl hk)
  · exact .inl (.inr (.inl hk))
  · rcases t.later k hk with h | h
    · exact .inl (.inr (.inr (.inl h)))
    · exact .inr h
  · exact .inl (.inr (.inr (.inr hk)))
theorem SLP.turnR (h : SLP w c y p) {v4' : Value} {sv' : List (Int × St)} (s : RS.SRow w' y.gr v4' sv') (k : Keep (RS.foot y.gr y.v4) w w') (t : RS.Later w y.v4 v4') : SLP w' c { y with v4 := v4' } { p with sv := sv' } ∧ LTurn w w' y { y with v4 := v4' } := by
  refine ⟨⟨h.blk.keep k (fun e => h.ne_r _ e rfl), h.sq.kept k (fun i hi e => h.ne_qr i hi e), h.oq.kept k (fun i hi e => h.ne_or i hi e), s⟩, ⟨k.more (fun k _ hk => .inr (.inr (.inr hk))), rfl, rfl, rfl, rfl, ?_⟩⟩
  rintro i (hk | hk | hk | hk)
  · exact .inl (.inl hk)
  · exact .inl (.inr (.inl hk))
  · exact .inl (.inr (.inr (.inl hk)))
  · rcases hk with hk | hk
    · exact .inl (.inr (.inr (.inr (.inl hk))))
    · rcases t i hk with h | h
      · exact .inl (.inr (.inr (.inr (.inr h))))
      · exact .inr h
end
end Go.Proofs.YthbcdkeammhakaaGreat

/-
  lp.LP: ran, goBack.
-/
namespace Go.Proofs.YthbcdkeammhakaaGreat
open Go.RowKit
attribute [local go_sem ↓] Go.wp_at_zero Go.wp_at_succ
def dueB (every since : Int) : Bool := decide (0 < every) && decide (every ≤ since)
theorem due_any (every since : Int) (w : World) : Calls Tryz.prog 99 #[.int .i64 every, .int .i64 since] w fun e w' => e = .returned (.bool (dueB every since)) ∧ w = w' := by
  unfold dueB
  cases t1 : decide (0 < every) <;> cases t2 : decide (every ≤ since) <;>
  (go_enter Tryz.func99, Tryz.ntmps99; go_wp2; go_ret; exact ⟨rfl, rfl⟩)
def ranL (c : LC) (p : LPs) (at_ : Int) (s : St) : LPs := { p with now := at_, st := s, since := if dueB c.every (p.since + 1) then 0 else p.since + 1, sv := if dueB c.every (p.since + 1) then p.sv ++ [(at_, s)] else p.sv }
set_option maxRecDepth 100000 in
set_option maxHeartbeats 4000000 in
theorem ran_any (c : LC) (y : PV) (p : LPs) (at_ : Int) (s : St) (w : World) (h : SLP w c y p) (pre : List (Int × St)) (last : Int × St) (hsv : p.sv = pre ++ [last]) (h1 : last.1 < at_) (h2 : at_ ≤ 1073741824) (hl : pre.length ≤ 100000) (hs : 0 ≤ p.since ∧ p.since ≤ 1000000) :
    Calls Tryz.prog 55 #[.pointer (some ⟨y.g, 0, none⟩), .int .i64 at_, s.val] w fun e w' => e = .returned (.tuple #[]) ∧ ∃ y', SLP w' c y' (ranL c p at_ s) ∧ LTurn w w' y y' := by
  obtain ⟨s0, s1, s2, s3⟩ := s
  unfold St.val
  simp only
  have hlt := h.blk.lt
  have HDU := Lib.hid (fun W => due_any c.every (p.since + 1) W)
  have HRAN : Hid (ranL c p at_ ⟨s0, s1, s2, s3⟩ = { p with now := at_, st := ⟨s0, s1, s2, s3⟩, since := if dueB c.every (p.since + 1) then 0 else p.since + 1, sv := if dueB c.every (p.since + 1) then p.sv ++ [(at_, ⟨s0, s1, s2, s3⟩)] else p.sv }) := Lib.hid rfl
  obtain ⟨RL, hRL⟩ : ∃ RL, ranL c p at_ ⟨s0, s1, s2, s3⟩ = RL := ⟨_, rfl⟩
  rw [hRL] at HRAN ⊢
  clear hRL
  obtain ⟨bd, hbd⟩ : ∃ bd, dueB c.every (p.since + 1) = bd := ⟨_, rfl⟩
  rw [hbd] at HDU HRAN
  clear hbd
  have H0 := Lib.hid (h.fresh ((Keep.refl _ w).alloc (.cells #[.int .i64 s0, .int .i64 s1, .int .i64 s2, .int .i64 s3] 23)).drew)
  have BX : Hid (Blk (w.alloc (.cells #[.int .i64 s0, .int .i64 s1, .int .i64 s2, .int .i64 s3] 23)).drew w.heap.size 23 #[.int .i64 s0, .int .i64 s1, .int .i64 s2, .int .i64 s3]) := Lib.hid (Blk.new w _ _).drew
  have c0 := fun i => (h.blk.cell i).trans (lcells_at c y p i)
  have f0 := h.blk.frozen
  have HL := Lib.hid h
  clear h
  go_enter Tryz.func55, Tryz.ntmps55
  go_wp2_with fail
  go_cut [] (fun wx => SLP wx c y { p with now := at_, st := ⟨s0, s1, s2, s3⟩ } ∧ LTurn w wx y y ∧ Blk wx w.heap.size 23 #[.int .i64 s0, .int .i64 s1, .int .i64 s2, .int .i64 s3])
  case first =>
    have c1 := BX.out.cell
    have l1 := BX.out.lt
    have FIN : Hid (SLP ((((((w.setCell ⟨y.g, 7, none⟩ (.int .i64 at_)).setCell ⟨y.g, 8, none⟩ (.int .i64 s0)).setCell ⟨y.g, 9, none⟩ (.int .i64 s1)).setCell ⟨y.g, 10, none⟩ (.int .i64 s2)).setCell ⟨y.g, 11, none⟩ (.int .i64 s3)).alloc (.cells #[.int .i64 s0, .int .i64 s1, .int .i64 s2, .int .i64 s3] 23)).drew c y { p with now := at_, st := ⟨s0, s1, s2, s3⟩ } ∧ LTurn w ((((((w.setCell ⟨y.g, 7, none⟩ (.int .i64 at_)).setCell ⟨y.g, 8, none⟩ (.int .i64 s0)).setCell ⟨y.g, 9, none⟩ (.int .i64 s1)).setCell ⟨y.g, 10, none⟩ (.int .i64 s2)).setCell ⟨y.g, 11, none⟩ (.int .i64 s3)).alloc (.cells #[.int .i64 s0, .int .i64 s1, .int .i64 s2, .int .i64 s3] 23)).drew y y ∧ Blk ((((((w.setCell ⟨y.g, 7, none⟩ (.int .i64 at_)).setCell ⟨y.g, 8, none⟩ (.int .i64 s0)).setCell ⟨y.g, 9, none⟩ (.int .i64 s1)).setCell ⟨y.g, 10, none⟩ (.int .i64 s2)).setCell ⟨y.g, 11, none⟩ (.int .i64 s3)).alloc (.cells #[.int .i64 s0, .int .i64 s1, .int .i64 s2, .int .i64 s3] 23)).drew w.heap.size 23 #[.int .i64 s0, .int .i64 s1, .int .i64 s2, .int .i64 s3]) := Lib.hid (by
      have a1 := HL.out.set 7 (.int .i64 at_) { p with now := at_ } rfl rfl rfl rfl rfl
      have a2 := a1.set 8 (.int .i64 s0) { p with now := at_, st := { p.st with s0 := s0 } } rfl rfl rfl rfl rfl
      have a3 := a2.set 9 (.int .i64 s1) { p with now := at_, st := { p.st with s0 := s0, s1 := s1 } } rfl rfl rfl rfl rfl
      have a4 := a3.set 10 (.int .i64 s2) { p with now := at_, st := { p.st with s0 := s0, s1 := s1, s2 := s2 } } rfl rfl rfl rfl rfl
      have a5 := a4.set 11 (.int .i64 s3) { p with now := at_, st := ⟨s0, s1, s2, s3⟩ } rfl rfl rfl rfl rfl
      refine ⟨a5.fresh ((Keep.refl _ _).alloc _).drew, ?_, (Blk.at_new (by simp) _ _).drew⟩
      exact ((((((LTurn.set y w 7 _).two (LTurn.set y _ 8 _)).two (LTurn.set y _ 9 _)).two (LTurn.set y _ 10 _)).two (LTurn.set y _ 11 _)).two (LTurn.fresh ((Keep.refl _ _).alloc _).drew)))
    go_region_law (fail)
    all_goals
      go_wp2_with fail
      go_meet
      exact FIN.out
  case rest =>
    obtain ⟨hS, hT, hB⟩ := hcut
    have HS := Lib.hid hS
    have HT := Lib.hid hT
    have HB := Lib.hid hB
    have d0 := fun i => (hS.blk.cell i).trans (lcells_at c y _ i)
    have g0 := hS.blk.frozen
    have k0 := hS.blk.lt
    clear hS hT hB c0 f0 H0 BX HL
    have hwr : IntKind.i64.wrap (p.since + 1) = p.since + 1 := IntWalk.i64_in _ (by omega)
    go_wp2_with fail
    have HS2 := Lib.hid (HS.out.set 12 (.int .i64 (p.since + 1)) { p with now := at_, st := ⟨s0, s1, s2, s3⟩, since := p.since + 1 } rfl rfl rfl rfl rfl)
    have HT2 := Lib.hid (HT.out.two (LTurn.set y wc 12 (.int .i64 (p.since + 1))))
    have HB2 := Lib.hid (HB.out.far (p := ⟨y.g, 12, none⟩) (by show w.heap.size ≠ y.g; omega) (.int .i64 (p.since + 1)))
    obtain ⟨W2, hW2⟩ : ∃ W2, wc.setCell ⟨y.g, 12, none⟩ (.int .i64 (p.since + 1)) = W2 := ⟨_, rfl⟩
    rw [hW2] at HS2 HT2 HB2 ⊢
    clear hW2 d0 g0 k0 HS HT HB
    have d0 := fun i => (HS2.out.blk.cell i).trans (lcells_at c y _ i)
    have g0 := HS2.out.blk.frozen
    have k0 := HS2.out.blk.lt
    cases bd with
    | false =>
      have hRL : RL = { p with now := at_, st := ⟨s0, s1, s2, s3⟩, since := p.since + 1 } := HRAN.out
      subst hRL
      have HSD := Lib.hid (HS2.out.fresh (Keep.refl _ W2).drew)
      have HTD := Lib.hid (HT2.out.two (LTurn.fresh (y := y) (Keep.refl _ W2).drew))
      go_still_tail 8, (by kernel_rfl)
      change wpList _ _ _ _ _ W2.drew
      go_wp2_with (go_at_call 99; refine (HDU.out _).mono ?_; rintro e w3 ⟨rfl, rfl⟩)
      go_returns
      exact ⟨rfl, y, HSD.out, HTD.out⟩
    | true =>
      have hRL : RL = { p with now := at_, st := ⟨s0, s1, s2, s3⟩, since := 0, sv := p.sv ++ [(at_, ⟨s0, s1, s2, s3⟩)] } := HRAN.out
      subst hRL
      go_still_tail 8, (by kernel_rfl)
      change wpList _ _ _ _ _ W2.drew
      go_wp2_with (go_at_call 99; refine (HDU.out _).mono ?_; rintro e w3 ⟨rfl, rfl⟩)
      have HSD := Lib.hid (HS2.out.fresh (Keep.refl _ W2).drew)
      have HTD := Lib.hid (HT2.out.two (LTurn.fresh (y := y) (Keep.refl _ W2).drew))
      have HBD := Lib.hid HB2.out.drew
      obtain ⟨W3, hW3⟩ : ∃ W3, W2.drew = W3 := ⟨_, rfl⟩
      rw [hW3] at HSD HTD HBD ⊢
      clear hW3 d0 g0 k0
      have d0 := fun i => (HSD.out.blk.cell i).trans (lcells_at c y _ i)
      have k0 := HSD.out.blk.lt
      have e1 := HBD.out.cell
      have m1 := HBD.out.lt
      go_wp2_with fail
      go_still_tail 6, (by kernel_rfl)
      change wpList _ _ _ _ _ W3.drew
      have HSA : Hid (∀ W, Fresh W3 W → Calls Tryz.prog 100 #[.pointer (some ⟨y.gr, 0, none⟩), .int .i64 at_, .agg #[.int .i64 s0, .int .i64 s1, .int .i64 s2, .int .i64 s3]] W fun e w' => e = .returned (.int .i64 0) ∧ ∃ v', RS.SRow w' y.gr v' (pre ++ [last] ++ [(at_, ⟨s0, s1, s2, s3⟩)]) ∧ Keep (RS.foot y.gr y.v4) W w' ∧ RS.Later W y.v4 v') := Lib.hid fun W f => RS.save_ok y.gr y.v4 pre last at_ ⟨s0, s1, s2, s3⟩ W (by have := (HSD.out.fresh f).sr; rw [← hsv]; exact this) h1 h2 hl
      go_wp2_with (go_at_call 100; (with_reducible refine (HSA.out _ (Keep.refl _ W3).drew).mono ?_); rintro e w4 ⟨rfl, v4', sr4, k4, n4⟩; have sr4 : RS.SRow w4 y.gr v4' (p.sv ++ [(at_, ⟨s0, s1, s2, s3⟩)]) := (by rw [hsv]; exact sr4); obtain ⟨a4, b4⟩ := (HSD.out.fresh (Keep.refl _ W3).drew).turnR sr4 k4 n4; have A4 := Lib.hid a4; have B4 := Lib.hid (HTD.out.two ((LTurn.fresh (y := y) (Keep.refl _ W3).drew).two b4)); have bl4 : Blk w4 y.g 103 _ := a4.blk; have q0 := fun i => (bl4.cell i).trans (lcells_at c _ _ i); have r0 := bl4.frozen; have t0 := bl4.lt; clear bl4; clear a4 b4 sr4 k4 n4 d0 k0 e1 m1)
      go_returns
      refine ⟨rfl, { y with v4 := v4' }, A4.out.set 12 (.int .i64 0) _ rfl rfl rfl rfl rfl, B4.out.two ?_⟩
      exact LTurn.set { y with v4 := v4' } w4 12 (.int .i64 0)
end Go.Proofs.YthbcdkeammhakaaGreat

/-
  lp.LP: Next, Now, State, Least.
-/
namespace Go.Proofs.YthbcdkeammhakaaGreat
open Go.RowKit
attribute [local go_sem ↓] Go.wp_at_zero Go.wp_at_succ
set_option maxRecDepth 100000 in
set_option maxHeartbeats 4000000 in
theorem lnext_any (c : LC) (y : PV) (p : LPs) (w : World) (h : SLP w c y p) (hl : p.l.length ≤ 100000) : Calls Tryz.prog 40 #[.pointer (some ⟨y.g, 0, none⟩)] w (NextP (nextE p.l p.now) w) := by
  have HN := Lib.hid (fun W (f : Fresh w W) => next_any y.gq y.v1 y.v2 p.l p.m p.now W (h.sq.fresh f) hl)
  have HB0 : Hid (Blk w.drew y.g 103 (lcells c y p)) := Lib.hid (h.blk.drew)
  have y0 := fun (W' : World) (h : Blk W' y.g 103 (lcells c y p)) (i : Nat) => (h.cell i).trans (lcells_at c y p i)
  have y1 := fun (W' : World) (h : Blk W' y.g 103 (lcells c y p)) => h.lt
  clear h
  obtain ⟨N, hN⟩ : ∃ N, nextE p.l p.now = N := ⟨_, rfl⟩
  rw [hN] at HN ⊢
  clear hN
  unfold NextP at HN ⊢
  go_enter Tryz.func40, Tryz.ntmps40
  go_wp2_with fail
  cases N with
  | none =>
    -- <nexta
    refine region_T (S := fun W' => Blk W' y.g 103 (lcells c y p)) (T := []) (by kernel_rfl) ?_
    refine anyT_take (i := 0) (oi := _) (v := ?va0) rfl (by kernel_rfl) (by kernel_rfl) (by kernel_rfl) (by kernel_rfl) (fun _ _ _ h => h) (Or.inl ⟨by rfl, ?hya0⟩) HB0.out ?resta0
    case hya0 => (intro W hSw; go_simp; try with_reducible rfl)
    try simp only [List.getElem_toArray, List.getElem_cons_zero, Act.put, List.setIfInBounds_toArray, List.set_cons_zero, List.set_cons_succ]
    refine anyT_take (i := 1) (oi := _) (v := ?va1) rfl (by kernel_rfl) (by kernel_rfl) (by kernel_rfl) (by kernel_rfl) (fun _ _ _ h => h) (Or.inl ⟨by rfl, ?hya1⟩) HB0.out ?resta1
    case hya1 => (intro W hSw; go_simp; try with_reducible rfl)
    try simp only [List.getElem_toArray, List.getElem_cons_zero, List.getElem_cons_succ, Act.put, List.setIfInBounds_toArray, List.set_cons_zero, List.set_cons_succ]
    refine anyT_take (i := 2) (oi := _) (v := ?va2) rfl (by kernel_rfl) (by kernel_rfl) (by kernel_rfl) (by kernel_rfl) (fun _ _ _ h => h) (Or.inl ⟨by rfl, ?hya2⟩) HB0.out ?resta2
    case hya2 => (intro W hSw; go_simp; try with_reducible rfl)
    try simp only [List.getElem_toArray, List.getElem_cons_zero, List.getElem_cons_succ, Act.put, List.setIfInBounds_toArray, List.set_cons_zero, List.set_cons_succ]
    refine anyT_take (i := 3) (oi := _) (v := ?va3) rfl (by kernel_rfl) (by kernel_rfl) (by kernel_rfl) (by kernel_rfl) (fun _ _ _ h => h) (Or.inl ⟨by rfl, ?hya3⟩) HB0.out ?resta3
    case hya3 => (intro W hSw; go_simp; try with_reducible rfl)
    try simp only [List.getElem_toArray, List.getElem_cons_zero, List.getElem_cons_succ, Act.put, List.setIfInBounds_toArray, List.set_cons_zero, List.set_cons_succ]
    refine anyT_take (i := 4) (oi := _) (v := ?va4) rfl (by kernel_rfl) (by kernel_rfl) (by kernel_rfl) (by kernel_rfl) (fun _ _ _ h => h) (Or.inl ⟨by rfl, ?hya4⟩) HB0.out ?resta4
    case hya4 => (intro W hSw; go_simp; try with_reducible rfl)
    try simp only [List.getElem_toArray, List.getElem_cons_zero, List.getElem_cons_succ, Act.put, List.setIfInBounds_toArray, List.set_cons_zero, List.set_cons_succ]
    refine anyT_take (i := 5) (oi := _) (v := ?va5) rfl (by kernel_rfl) (by kernel_rfl) (by kernel_rfl) (by kernel_rfl) (fun _ _ _ h => h) (Or.inl ⟨by rfl, ?hya5⟩) HB0.out ?resta5
    case hya5 => (intro W hSw; go_simp; try with_reducible rfl)
    try simp only [List.getElem_toArray, List.getElem_cons_zero, List.getElem_cons_succ, Act.put, List.setIfInBounds_toArray, List.set_cons_zero, List.set_cons_succ]
    refine anyT_take (i := 6) (oi := _) (v := ?va6) rfl (by kernel_rfl) (by kernel_rfl) (by kernel_rfl) (by kernel_rfl) (fun _ _ _ h => h) (Or.inl ⟨by rfl, ?hya6⟩) HB0.out ?resta6
    case hya6 => (intro W hSw; go_simp; try with_reducible rfl)
    try simp only [List.getElem_toArray, List.getElem_cons_zero, List.getElem_cons_succ, Act.put, List.setIfInBounds_toArray, List.set_cons_zero, List.set_cons_succ]
    refine anyT_take (i := 7) (oi := _) (v := ?va7) rfl (by kernel_rfl) (by kernel_rfl) (by kernel_rfl) (by kernel_rfl) (fun _ _ _ h => h) (Or.inl ⟨by rfl, ?hya7⟩) HB0.out ?resta7
    case hya7 => (intro W hSw; go_simp; try with_reducible rfl)
    try simp only [List.getElem_toArray, List.getElem_cons_zero, List.getElem_cons_succ, Act.put, List.setIfInBounds_toArray, List.set_cons_zero, List.set_cons_succ]
    refine anyT_one' (i := 8) (by kernel_rfl) rfl (by rfl) (fun KQ hK => ?_)
    go_simp
    go_at_call 82
    (with_reducible refine (HN.out _ (Keep.refl _ w).drew).mono ?_)
    rintro e w3 ⟨rfl, f3⟩
    have HB3 := Lib.hid (f3.blk_ HB0.out)
    have F3 := Lib.hid (((Keep.refl (fun _ => False) w).drew).step f3 (fun _ _ h => h))
    clear f3
    refine hK.out _ _ HB3.out ?_
    clear hK KQ
    try simp only [List.getElem_toArray, List.getElem_cons_zero, List.getElem_cons_succ, Act.put, List.setIfInBounds_toArray, List.set_cons_zero, List.set_cons_succ]
    refine anyT_take (i := 9) (oi := _) (v := ?va9) rfl (by kernel_rfl) (by kernel_rfl) (by kernel_rfl) (by kernel_rfl) (fun _ _ _ h => h) (Or.inl ⟨by rfl, ?hya9⟩) HB3.out ?resta9
    case hya9 => (intro W hSw; go_simp; try with_reducible rfl)
    try simp only [List.getElem_toArray, List.getElem_cons_zero, List.getElem_cons_succ, Act.put, List.setIfInBounds_toArray, List.set_cons_zero, List.set_cons_succ]
    refine anyT_take (i := 10) (oi := _) (v := ?va10) rfl (by kernel_rfl) (by kernel_rfl) (by kernel_rfl) (by kernel_rfl) (fun _ _ _ h => h) (Or.inl ⟨by rfl, ?hya10⟩) HB3.out ?resta10
    case hya10 => (intro W hSw; go_simp; try with_reducible rfl)
    try simp only [List.getElem_toArray, List.getElem_cons_zero, List.getElem_cons_succ, Act.put, List.setIfInBounds_toArray, List.set_cons_zero, List.set_cons_succ]
    refine anyT_take (i := 11) (oi := _) (v := ?va11) rfl (by kernel_rfl) (by kernel_rfl) (by kernel_rfl) (by kernel_rfl) (fun _ _ _ h => h) (Or.inl ⟨by rfl, ?hya11⟩) HB3.out ?resta11
    case hya11 => (intro W hSw; go_simp; try with_reducible rfl)
    try simp only [List.getElem_toArray, List.getElem_cons_zero, List.getElem_cons_succ, Act.put, List.setIfInBounds_toArray, List.set_cons_zero, List.set_cons_succ]
    refine anyT_take (i := 12) (oi := _) (v := ?va12) rfl (by kernel_rfl) (by kernel_rfl) (by kernel_rfl) (by kernel_rfl) (fun _ _ _ h => h) (Or.inl ⟨by rfl, ?hya12⟩) HB3.out ?resta12
    case hya12 => (intro W hSw; go_simp; try with_reducible rfl)
    try simp only [List.getElem_toArray, List.getElem_cons_zero, List.getElem_cons_succ, Act.put, List.setIfInBounds_toArray, List.set_cons_zero, List.set_cons_succ]
    refine anyT_done (by kernel_rfl) ?_
    -- nexta>
    go_wp2_with fail
    go_returns
    exact ⟨rfl, F3.out⟩
  | some x =>
    -- <nextb
    refine region_T (S := fun W' => Blk W' y.g 103 (lcells c y p)) (T := []) (by kernel_rfl) ?_
    refine anyT_take (i := 0) (oi := _) (v := ?vb0) rfl (by kernel_rfl) (by kernel_rfl) (by kernel_rfl) (by kernel_rfl) (fun _ _ _ h => h) (Or.inl ⟨by rfl, ?hyb0⟩) HB0.out ?restb0
    case hyb0 => (intro W hSw; go_simp; try with_reducible rfl)
    try simp only [List.getElem_toArray, List.getElem_cons_zero, Act.put, List.setIfInBounds_toArray, List.set_cons_zero, List.set_cons_succ]
    refine anyT_take (i := 1) (oi := _) (v := ?vb1) rfl (by kernel_rfl) (by kernel_rfl) (by kernel_rfl) (by kernel_rfl) (fun _ _ _ h => h) (Or.inl ⟨by rfl, ?hyb1⟩) HB0.out ?restb1
    case hyb1 => (intro W hSw; go_simp; try with_reducible rfl)
    try simp only [List.getElem_toArray, List.getElem_cons_zero, List.getElem_cons_succ, Act.put, List.setIfInBounds_toArray, List.set_cons_zero, List.set_cons_succ]
    refine anyT_take (i := 2) (oi := _) (v := ?vb2) rfl (by kernel_rfl) (by kernel_rfl) (by kernel_rfl) (by kernel_rfl) (fun _ _ _ h => h) (Or.inl ⟨by rfl, ?hyb2⟩) HB0.out ?restb2
    case hyb2 => (intro W hSw; go_simp; try with_reducible rfl)
    try simp only [List.getElem_toArray, List.getElem_cons_zero, List.getElem_cons_succ, Act.put, List.setIfInBounds_toArray, List.set_cons_zero, List.set_cons_succ]
    refine anyT_take (i := 3) (oi := _) (v := ?vb3) rfl (by kernel_rfl) (by kernel_rfl) (by kernel_rfl) (by kernel_rfl) (fun _ _ _ h => h) (Or.inl ⟨by rfl, ?hyb3⟩) HB0.out ?restb3
    case hyb3 => (intro W hSw; go_simp; try with_reducible rfl)
    try simp only [List.getElem_toArray, List.getElem_cons_zero, List.getElem_cons_succ, Act.put, List.setIfInBounds_toArray, List.set_cons_zero, List.set_cons_succ]
    refine anyT_take (i := 4) (oi := _) (v := ?vb4) rfl (by kernel_rfl) (by kernel_rfl) (by kernel_rfl) (by kernel_rfl) (fun _ _ _ h => h) (Or.inl ⟨by rfl, ?hyb4⟩) HB0.out ?restb4
    case hyb4 => (intro W hSw; go_simp; try with_reducible rfl)
    try simp only [List.getElem_toArray, List.getElem_cons_zero, List.getElem_cons_succ, Act.put, List.setIfInBounds_toArray, List.set_cons_zero, List.set_cons_succ]
    refine anyT_take (i := 5) (oi := _) (v := ?vb5) rfl (by kernel_rfl) (by kernel_rfl) (by kernel_rfl) (by kernel_rfl) (fun _ _ _ h => h) (Or.inl ⟨by rfl, ?hyb5⟩) HB0.out ?restb5
    case hyb5 => (intro W hSw; go_simp; try with_reducible rfl)
    try simp only [List.getElem_toArray, List.getElem_cons_zero, List.getElem_cons_succ, Act.put, List.setIfInBounds_toArray, List.set_cons_zero, List.set_cons_succ]
    refine anyT_take (i := 6) (oi := _) (v := ?vb6) rfl (by kernel_rfl) (by kernel_rfl) (by kernel_rfl) (by kernel_rfl) (fun _ _ _ h => h) (Or.inl ⟨by rfl, ?hyb6⟩) HB0.out ?restb6
    case hyb6 => (intro W hSw; go_simp; try with_reducible rfl)
    try simp only [List.getElem_toArray, List.getElem_cons_zero, List.getElem_cons_succ, Act.put, List.setIfInBounds_toArray, List.set_cons_zero, List.set_cons_succ]
    refine anyT_take (i := 7) (oi := _) (v := ?vb7) rfl (by kernel_rfl) (by kernel_rfl) (by kernel_rfl) (by kernel_rfl) (fun _ _ _ h => h) (Or.inl ⟨by rfl, ?hyb7⟩) HB0.out ?restb7
    case hyb7 => (intro W hSw; go_simp; try with_reducible rfl)
    try simp only [List.getElem_toArray, List.getElem_cons_zero, List.getElem_cons_succ, Act.put, List.setIfInBounds_toArray, List.set_cons_zero, List.set_cons_succ]
    refine anyT_one' (i := 8) (by kernel_rfl) rfl (by rfl) (fun KQ hK => ?_)
    go_simp
    go_at_call 82
    (with_reducible refine (HN.out _ (Keep.refl _ w).drew).mono ?_)
    rintro e w3 ⟨rfl, f3⟩
    have HB3 := Lib.hid (f3.blk_ HB0.out)
    have F3 := Lib.hid (((Keep.refl (fun _ => False) w).drew).step f3 (fun _ _ h => h))
    clear f3
    refine hK.out _ _ HB3.out ?_
    clear hK KQ
    try simp only [List.getElem_toArray, List.getElem_cons_zero, List.getElem_cons_succ, Act.put, List.setIfInBounds_toArray, List.set_cons_zero, List.set_cons_succ]
    refine anyT_take (i := 9) (oi := _) (v := ?vb9) rfl (by kernel_rfl) (by kernel_rfl) (by kernel_rfl) (by kernel_rfl) (fun _ _ _ h => h) (Or.inl ⟨by rfl, ?hyb9⟩) HB3.out ?restb9
    case hyb9 => (intro W hSw; go_simp; try with_reducible rfl)
    try simp only [List.getElem_toArray, List.getElem_cons_zero, List.getElem_cons_succ, Act.put, List.setIfInBounds_toArray, List.set_cons_zero, List.set_cons_succ]
    refine anyT_take (i := 10) (oi := _) (v := ?vb10) rfl (by kernel_rfl) (by kernel_rfl) (by kernel_rfl) (by kernel_rfl) (fun _ _ _ h => h) (Or.inl ⟨by rfl, ?hyb10⟩) HB3.out ?restb10
    case hyb10 => (intro W hSw; go_simp; try with_reducible rfl)
    try simp only [List.getElem_toArray, List.getElem_cons_zero, List.getElem_cons_succ, Act.put, List.setIfInBounds_toArray, List.set_cons_zero, List.set_cons_succ]
    refine anyT_take (i := 11) (oi := _) (v := ?vb11) rfl (by kernel_rfl) (by kernel_rfl) (by kernel_rfl) (by kernel_rfl) (fun _ _ _ h => h) (Or.inl ⟨by rfl, ?hyb11⟩) HB3.out ?restb11
    case hyb11 => (intro W hSw; go_simp; try with_reducible rfl)
    try simp only [List.getElem_toArray, List.getElem_cons_zero, List.getElem_cons_succ, Act.put, List.setIfInBounds_toArray, List.set_cons_zero, List.set_cons_succ]
    refine anyT_take (i := 12) (oi := _) (v := ?vb12) rfl (by kernel_rfl) (by kernel_rfl) (by kernel_rfl) (by kernel_rfl) (fun _ _ _ h => h) (Or.inl ⟨by rfl, ?hyb12⟩) HB3.out ?restb12
    case hyb12 => (intro W hSw; go_simp; try with_reducible rfl)
    try simp only [List.getElem_toArray, List.getElem_cons_zero, List.getElem_cons_succ, Act.put, List.setIfInBounds_toArray, List.set_cons_zero, List.set_cons_succ]
    refine anyT_done (by kernel_rfl) ?_
    -- nextb>
    go_wp2_with fail
    go_returns
    exact ⟨rfl, F3.out⟩
set_option maxRecDepth 100000 in
set_option maxHeartbeats 4000000 in
theorem lnow_any (c : LC) (y : PV) (p : LPs) (w : World) (h : SLP w c y p) : Calls Tryz.prog 19 #[.pointer (some ⟨y.g, 0, none⟩)] w fun e w' => e = .returned (.int .i64 p.now) ∧ Fresh w w' := by
  have c0 := fun i => (h.blk.cell i).trans (lcells_at c y p i)
  have l0 := h.blk.lt
  clear h
  go_enter Tryz.func19, Tryz.ntmps19
  go_wp2_with fail
  go_returns
  exact ⟨rfl, by (repeat (first | (with_reducible exact Keep.refl _ _) | (with_reducible assumption) | (with_reducible refine Keep.drew ?_) | (with_reducible refine Keep.drewN ?_ _) | (with_reducible refine Keep.alloc ?_ _) | (with_reducible refine Keep.setCell ?_ ?_ _) | (with_reducible refine fun _ => rfl)))⟩
set_option maxRecDepth 100000 in
set_option maxHeartbeats 4000000 in
theorem lstate_any (c : LC) (y : PV) (p : LPs) (w : World) (h : SLP w c y p) : Calls Tryz.prog 18 #[.pointer (some ⟨y.g, 0, none⟩)] w fun e w' => e = .returned p.st.val ∧ Fresh w w' := by
  have c0 := fun i => (h.blk.cell i).trans (lcells_at c y p i)
  have l0 := h.blk.lt
  clear h
  go_enter Tryz.func18, Tryz.ntmps18
  go_wp2_with fail
  have C := (Blk.new w 23 #[.int .i64 p.st.s0, .int .i64 p.st.s1, .int .i64 p.st.s2, .int .i64 p.st.s3]).cell
  exact bodyPost_ret (v := .agg #[.int .i64 p.st.s0, .int .i64 p.st.s1, .int .i64 p.st.s2, .int .i64 p.st.s3]) (by simp [results, Tryz.results18, go_sem, C]; try rfl) rfl ⟨rfl, by (repeat (first | (with_reducible exact Keep.refl _ _) | (with_reducible assumption) | (with_reducible refine Keep.drew ?_) | (with_reducible refine Keep.drewN ?_ _) | (with_reducible refine Keep.alloc ?_ _) | (with_reducible refine Keep.setCell ?_ ?_ _) | (with_reducible refine fun _ => rfl)))⟩
/-- the least time at which the process may still do something -/
def leastP (p : LPs) : Int := match leastL p.q with
  | some r => min (match nextE p.l p.now with | some x => min 1073741825 x.a | none => 1073741825) r.1.t
  | none => match nextE p.l p.now with | some x => min 1073741825 x.a | none => 1073741825
attribute [local go_sem ↓] RS.run_max RS.run_min
set_option maxRecDepth 100000 in
set_option maxHeartbeats 4000000 in
theorem lleast_any (c : LC) (y : PV) (p : LPs) (w : World) (h : SLP w c y p) (hl : p.l.length ≤ 100000) (hq : p.q.length ≤ 100000) : Calls Tryz.prog 20 #[.pointer (some ⟨y.g, 0, none⟩)] w fun e w' => e = .returned (.int .i64 (leastP p)) ∧ Fresh w w' := by
  have HNX := Lib.hid (lnext_any c y p w h hl)
  have HLE : Hid (∀ W, Fresh w W → Calls Tryz.prog 45 #[.pointer (some ⟨y.go, 0, none⟩)] W (LeastP (leastL p.q) W)) := Lib.hid fun W f => least_any y.go y.v3 p.q W (h.oq.fresh f) hq
  have HB0 : Hid (Blk w y.g 103 (lcells c y p)) := Lib.hid h.blk
  have HLP : Hid (leastP p = _) := Lib.hid (show leastP p = match leastL p.q with
    | some r => min (match nextE p.l p.now with | some x => min 1073741825 x.a | none => 1073741825) r.1.t
    | none => match nextE p.l p.now with | some x => min 1073741825 x.a | none => 1073741825 from rfl)
  obtain ⟨N, hN⟩ : ∃ N, nextE p.l p.now = N := ⟨_, rfl⟩
  obtain ⟨M, hM⟩ : ∃ M, leastL p.q = M := ⟨_, rfl⟩
  obtain ⟨L, hL⟩ : ∃ L, leastP p = L := ⟨_, rfl⟩
  rw [hN] at HNX HLP
  rw [hM] at HLE HLP
  rw [hL] at HLP ⊢
  clear hN hM hL h
  unfold NextP at HNX
  unfold LeastP at HLE
  cases N with
  | none =>
    cases M with
    | none =>
      have hL : L = 1073741825 := HLP.out
      subst hL
      go_enter Tryz.func20, Tryz.ntmps20
      go_wp2_with (first
        | (go_at_call 40; (with_reducible refine HNX.out.mono ?_); rintro e w1 ⟨rfl, f1⟩; have F1 := Lib.hid f1; have b1 := f1.blk_ HB0.out; have c1 := fun i => (b1.cell i).trans (lcells_at c y p i); have l1 := b1.lt; clear f1 b1)
        | (go_at_call 45; (with_reducible refine (HLE.out _ F1.out).mono ?_); rintro e w2 ⟨rfl, f2⟩))
      go_returns
      exact ⟨rfl, F1.out.step f2 (fun _ _ h => h)⟩
    | some r =>
      have hL : L = min 1073741825 r.1.t := HLP.out
      subst hL
      go_enter Tryz.func20, Tryz.ntmps20
      go_wp2_with (first
        | (go_at_call 40; (with_reducible refine HNX.out.mono ?_); rintro e w1 ⟨rfl, f1⟩; have F1 := Lib.hid f1; have b1 := f1.blk_ HB0.out; have c1 := fun i => (b1.cell i).trans (lcells_at c y p i); have l1 := b1.lt; clear f1 b1)
        | (go_at_call 45; (with_reducible refine (HLE.out _ F1.out).mono ?_); rintro e w2 ⟨rfl, f2⟩))
      go_returns
      exact ⟨rfl, F1.out.step f2 (fun _ _ h => h)⟩
  | some x =>
    cases M with
    | none =>
      have hL : L = min 1073741825 x.a := HLP.out
      subst hL
      go_enter Tryz.func20, Tryz.ntmps20
      go_wp2_with (first
        | (go_at_call 40; (with_reducible refine HNX.out.mono ?_); rintro e w1 ⟨rfl, f1⟩; have F1 := Lib.hid f1; have b1 := f1.blk_ HB0.out; have c1 := fun i => (b1.cell i).trans (lcells_at c y p i); have l1 := b1.lt; clear f1 b1)
        | (go_at_call 45; (with_reducible refine (HLE.out _ F1.out).mono ?_); rintro e w2 ⟨rfl, f2⟩))
      go_returns
      exact ⟨rfl, F1.out.step f2 (fun _ _ h => h)⟩
    | some r =>
      have hL : L = min (min 1073741825 x.a) r.1.t := HLP.out
      subst hL
      go_enter Tryz.func20, Tryz.ntmps20
      go_wp2_with (first
        | (go_at_call 40; (with_reducible refine HNX.out.mono ?_); rintro e w1 ⟨rfl, f1⟩; have F1 := Lib.hid f1; have b1 := f1.blk_ HB0.out; have c1 := fun i => (b1.cell i).trans (lcells_at c y p i); have l1 := b1.lt; clear f1 b1)
        | (go_at_call 45; (with_reducible refine (HLE.out _ F1.out).mono ?_); rintro e w2 ⟨rfl, f2⟩))
      go_returns
      exact ⟨by rw [Int.min_assoc]; rfl, F1.out.step f2 (fun _ _ h => h)⟩
end Go.Proofs.YthbcdkeammhakaaGreat

/-
  Rows of events as multisets: how often an event is there; what a queue is, told by how often each event was told, less how often it was taken back.
-/
namespace Go.Proofs.YthbcdkeammhakaaGreat
open Go.RowKit

theorem cnt_count (l : List Ev) (x : Ev) : cnt l x = l.count x := by
  unfold cnt List.count
  congr 1
  funext y
  cases h : evB y x
  · have : y ≠ x := fun e => by rw [(evB_iff y x).2 e] at h; cases h
    simp [this]
  · simp [(evB_iff y x).1 h]
theorem ins_perm (l : List Ev) (x : Ev) : (ins l x).Perm (x :: l) := by
  unfold ins
  refine List.perm_middle.trans ?_
  rw [List.take_append_drop]
theorem rem_perm {l : List Ev} {x : Ev} (h : has l x = true) : l.Perm (x :: rem l x) := by
  have hl := has_lt h
  have hx : l[pos l x]? = some x := of_decide_eq_true h
  have e : l = l.take (pos l x) ++ x :: l.drop (pos l x + 1) := by
    have h2 : l.drop (pos l x) = l[pos l x] :: l.drop (pos l x + 1) := List.drop_eq_getElem_cons hl
    have h3 : l[pos l x] = x := by rw [List.getElem?_eq_getElem hl] at hx; injection hx
    rw [h3] at h2
    rw [← h2, List.take_append_drop]
  unfold rem
  refine List.Perm.trans (e ▸ List.Perm.refl _) List.perm_middle
theorem has_mem {l : List Ev} (hs : Srt l) (x : Ev) : has l x = true ↔ x ∈ l := by
  constructor
  · intro h
    exact List.mem_of_getElem? (of_decide_eq_true h)
  · intro h
    obtain ⟨t, ht⟩ := List.mem_iff_getElem?.1 h
    obtain ⟨h1, h2⟩ := hs.pos_ x
    have htp : pos l x ≤ t := by
      by_cases hlt : t < pos l x
      · have := h1 t x hlt ht
        rw [evLt_irrefl] at this
        cases this
      · omega
    have htl := (List.getElem?_eq_some_iff.1 ht).1
    have hpl : pos l x < l.length := by omega
    have hy := List.getElem?_eq_getElem hpl
    have h3 := h2 _ _ (Nat.le_refl _) hy
    have h4 : evLt x (l[pos l x]) = false := by
      cases h5 : evLt x (l[pos l x])
      · rfl
      · by_cases hne : pos l x = t
        · rw [← hne, hy] at ht
          injection ht with ht
          rw [ht, evLt_irrefl] at h5
          cases h5
        · obtain ⟨h6, h7⟩ := List.getElem?_eq_some_iff.1 ht
          have := List.pairwise_iff_getElem.1 hs (pos l x) t hpl h6 (by omega)
          rw [h7, h5] at this
          cases this
    unfold has
    rw [hy, evLt_total h3 h4]
    simp
theorem has_cnt {l : List Ev} (hs : Srt l) (x : Ev) : has l x = decide (0 < cnt l x) := by
  rw [cnt_count]
  cases h : has l x
  · have : x ∉ l := fun hm => by rw [(has_mem hs x).2 hm] at h; cases h
    rw [List.count_eq_zero_of_not_mem this]
    rfl
  · have := (has_mem hs x).1 h
    rw [eq_comm, decide_eq_true_iff]
    exact List.count_pos_iff.2 this
theorem cnt_ins (l : List Ev) (x y : Ev) : cnt (ins l x) y = cnt l y + (if x = y then 1 else 0) := by
  rw [cnt_count, cnt_count, (ins_perm l x).count, List.count_cons]
  simp
theorem cnt_rem {l : List Ev} {x : Ev} (h : has l x = true) (y : Ev) : cnt (rem l x) y + (if x = y then 1 else 0) = cnt l y := by
  rw [cnt_count, cnt_count, (rem_perm h).count, List.count_cons]
  simp
theorem srt_ext {l m : List Ev} (hl : Srt l) (hm : Srt m) (h : ∀ x, cnt l x = cnt m x) : l = m := by
  have hp : l.Perm m := List.perm_iff_count.2 fun x => by rw [← cnt_count, ← cnt_count, h]
  exact List.Perm.eq_of_pairwise (le := fun p q => evLt q p = false) (fun a b _ _ h1 h2 => evLt_total h2 h1) hl hm hp

/-- a queue by how often each event was told, less how often it was taken back -/
structure QIs (l m : List Ev) (d : Ev → Int) : Prop where
  s1 : Srt l
  s2 : Srt m
  c1 : ∀ x, (cnt l x : Int) = max 0 (d x)
  c2 : ∀ x, (cnt m x : Int) = max 0 (-d x)
theorem QIs.nil : QIs [] [] (fun _ => 0) := ⟨List.Pairwise.nil, List.Pairwise.nil, fun _ => rfl, fun _ => rfl⟩
theorem QIs.ext {l m l' m' : List Ev} {d : Ev → Int} (h : QIs l m d) (h' : QIs l' m' d) : l = l' ∧ m = m' :=
  ⟨srt_ext h.s1 h'.s1 fun x => by have := h.c1 x; have := h'.c1 x; omega, srt_ext h.s2 h'.s2 fun x => by have := h.c2 x; have := h'.c2 x; omega⟩
theorem QIs.diff {l m : List Ev} {d : Ev → Int} (h : QIs l m d) (x : Ev) : (cnt l x : Int) - (cnt m x : Int) = d x := by
  have := h.c1 x; have := h.c2 x; omega
/-- what a message adds -/
def sg (an : Bool) : Int := if an then -1 else 1
def dput (d : Ev → Int) (x : Ev) (an : Bool) (y : Ev) : Int := d y + (if x = y then sg an else 0)
theorem QIs.put {l m : List Ev} {d : Ev → Int} (h : QIs l m d) (x : Ev) (an : Bool) : QIs (putL l m x an) (putB l m x an) (dput d x an) := by
  have hx1 := h.c1 x
  have hx2 := h.c2 x
  have e1 := has_cnt h.s1 x
  have e2 := has_cnt h.s2 x
  cases an
  · cases hh : has m x
    · rw [hh] at e2
      have e3 : cnt m x = 0 := by have := of_decide_eq_false e2.symm; omega
      simp only [putL, putB, hh, Bool.false_eq_true, if_false]
      refine ⟨h.s1.ins_ x, h.s2, fun y => ?_, fun y => ?_⟩
      · rw [cnt_ins]
        have := h.c1 y
        unfold dput sg
        by_cases hy : x = y
        · subst hy; simp; omega
        · simp [hy]; omega
      · have := h.c2 y
        unfold dput sg
        by_cases hy : x = y
        · subst hy; simp; omega
        · simp [hy]; omega
    · rw [hh] at e2
      have e3 : 0 < cnt m x := of_decide_eq_true e2.symm
      simp only [putL, putB, hh, Bool.false_eq_true, if_false, if_true]
      refine ⟨h.s1, h.s2.rem_ x, fun y => ?_, fun y => ?_⟩
      · have := h.c1 y
        unfold dput sg
        by_cases hy : x = y
        · subst hy; simp; omega
        · simp [hy]; omega
      · have h3 := cnt_rem hh y
        have := h.c2 y
        unfold dput sg
        by_cases hy : x = y
        · subst hy; simp at h3 ⊢; omega
        · simp [hy] at h3 ⊢; omega
  · cases hh : has l x
    · rw [hh] at e1
      have e3 : cnt l x = 0 := by have := of_decide_eq_false e1.symm; omega
      simp only [putL, putB, hh, Bool.false_eq_true, if_false, if_true]
      refine ⟨h.s1, h.s2.ins_ x, fun y => ?_, fun y => ?_⟩
      · have := h.c1 y
        unfold dput sg
        by_cases hy : x = y
        · subst hy; simp; omega
        · simp [hy]; omega
      · rw [cnt_ins]
        have := h.c2 y
        unfold dput sg
        by_cases hy : x = y
        · subst hy; simp; omega
        · simp [hy]; omega
    · rw [hh] at e1
      have e3 : 0 < cnt l x := of_decide_eq_true e1.symm
      simp only [putL, putB, hh, if_true]
      refine ⟨h.s1.rem_ x, h.s2, fun y => ?_, fun y => ?_⟩
      · have h3 := cnt_rem hh y
        have := h.c1 y
        unfold dput sg
        by_cases hy : x = y
        · subst hy; simp at h3 ⊢; omega
        · simp [hy] at h3 ⊢; omega
      · have := h.c2 y
        unfold dput sg
        by_cases hy : x = y
        · subst hy; simp; omega
        · simp [hy]; omega
theorem put_len (l m : List Ev) (x : Ev) (an : Bool) : ((putL l m x an).length : Int) - (putB l m x an).length = l.length - m.length + sg an ∧ (putL l m x an).length ≤ l.length + 1 ∧ (putB l m x an).length ≤ m.length + 1 := by
  cases an
  · cases hh : has m x
    · simp only [putL, putB, hh, Bool.false_eq_true, if_false, sg]
      have := ins_len l x
      omega
    · simp only [putL, putB, hh, Bool.false_eq_true, if_false, if_true, sg]
      have := rem_len hh
      omega
  · cases hh : has l x
    · simp only [putL, putB, hh, Bool.false_eq_true, if_false, if_true, sg]
      have := ins_len m x
      omega
    · simp only [putL, putB, hh, if_true, sg]
      have := rem_len hh
      omega
end Go.Proofs.YthbcdkeammhakaaGreat
