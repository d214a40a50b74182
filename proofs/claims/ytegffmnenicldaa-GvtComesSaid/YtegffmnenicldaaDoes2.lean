/-
  The law's does: a call of a worker, and of the document's.
-/
import Derived.Test.YtegffmnenicldaaDoes
namespace Go.Proofs.Ytegffmnenicldaa
open Go.RowKit Go.Maps
attribute [local go_sem ↓] Go.wp_at_zero Go.wp_at_succ run_min

def GW.does (s : GW) (o : GOp) : Int × Int × GW := if o.ask = 0 then (0, s.sent o.a o.b) else if o.ask = 1 then (0, s.acked o.a o.b) else s.start o.a o.l
theorem GW.Ok.does {s : GW} {k : Nat} (h : s.Ok k) {o : GOp} (hw : (Lit.int .i64 o.a).wf = true) : (s.does o).2.2.Ok (k + 1) := by
  unfold GW.does
  by_cases h0 : o.ask = 0
  · rw [if_pos h0]; exact h.sent hw
  rw [if_neg h0]
  by_cases h1 : o.ask = 1
  · rw [if_pos h1]; exact h.acked
  rw [if_neg h1]; exact h.start
def doesB (s s2 : GW) (o : GOp) : Bool := (s.does o).1 == (s2.does o).1 && (s.does o).2.1 == (s2.does o).2.1
theorem doesB_self (s : GW) (o : GOp) : doesB s s o = true := by simp [doesB]

/-- what a call leaves of both -/
structure DPost (g b K gr : Nat) (vn va : Value) (s s2 : GW) (w w' : World) : Prop where
  sw : SWork w' g b (K + 1) s
  ex : ∃ vn' va', RWork w' gr vn' va' s2 ∧ Later w gr vn va vn' va'
  kp : Keep (fun k => k = g ∨ k = b ∨ foot gr vn va k) w w'

section
variable {w w1 w2 : World} {g b K gr : Nat} {vn va : Value} {s s2 s' s2' : GW}
theorem apart (h : SWork w g b K s) (h2 : RWork w gr vn va s2) : ¬ foot gr vn va g ∧ ¬ foot gr vn va b := by
  constructor
  · rintro (e | e | e)
    · subst e
      have e1 := h.blk
      have e2 := h2.blk
      unfold Blk at e1 e2
      rw [e1] at e2
      injection e2 with e2
      injection e2 with _ e2
      exact absurd e2 (by decide)
    · exact h2.on.ne_blk h.blk (by decide) e
    · exact h2.oa.ne_blk h.blk (by decide) e
  · rintro (e | e | e)
    · exact h.map.ne_blk h2.blk e.symm
    · exact h.map.ne_own h2.on e
    · exact h.map.ne_own h2.oa e
/-- a call of the worker, then one of the document's -/
theorem DPost.two (h : SWork w g b K s) (h2 : RWork w gr vn va s2) (a1 : SWork w1 g b (K + 1) s') (k1 : Keep (fun k => k = g ∨ k = b) w w1) {W : World} (f : Fresh w1 W) (p2 : RPost gr vn va s2' W w2) : DPost g b K gr vn va s' s2' w w2 := by
  obtain ⟨vn', va', r2, k2, l2⟩ := p2
  obtain ⟨n1, n2⟩ := apart h h2
  have kf : Keep (fun k => k = g ∨ k = b) w W := k1.step f (fun _ _ h => h.elim)
  refine ⟨(a1.fresh f).kept k2 n1 n2, ⟨vn', va', r2, fun k hk => (l2 k hk).imp id (fun h => Nat.le_trans kf.size h)⟩, ?_⟩
  exact (kf.more (fun k _ hk => by rcases hk with e | e <;> simp [e])).step k2 (fun i _ hi => .inr (.inr hi))
theorem RWork.off (h : SWork w g b K s) (h2 : RWork w gr vn va s2) {S : Nat → Prop} (k1 : Keep S w w1) (hS : ∀ k, S k → k = g ∨ k = b) : RWork w1 gr vn va s2 :=
  h2.kept k1 (fun k hk e => by
    obtain ⟨n1, n2⟩ := apart h h2
    rcases hS k e with rfl | rfl
    · exact n1 hk
    · exact n2 hk)
end

set_option maxHeartbeats 2000000 in
theorem does_any (g b K gr k : Nat) (vn va : Value) (s s2 : GW) (o : GOp) (w : World) (h : SWork w g b K s) (h2 : RWork w gr vn va s2) (hs : s.Ok k) (hs2 : s2.Ok k) (hk : k ≤ 1000) (hK : K ≤ 1000) (hw : (Lit.int .i64 o.a).wf = true) (hl : IntsAt w o.A o.l) (hA : ∀ x, o.A = some x → o.l.length ≠ 0 → x.block ≠ g ∧ x.block ≠ b) (hn : o.l.length ≤ 1000) :
    Calls Try.prog 12 #[.pointer (some ⟨g, 0, none⟩), .pointer (some ⟨gr, 0, none⟩), .agg o.arr] w fun e w' => e = .returned (.bool (doesB s s2 o)) ∧ DPost g b K gr vn va (s.does o).2.2 (s2.does o).2.2 w w' := by
  have f0 : Fresh w (w.alloc (.cells o.arr 33)) := (Keep.refl _ _).alloc _
  have bo := Blk.new w 33 o.arr
  have h' := h.fresh f0
  have h2' := h2.fresh f0
  obtain ⟨ask, a, bb, c, A, cap, l⟩ := o
  simp only [GOp.arr] at f0 bo hn hl hA hw h' h2' ⊢
  have hlen := hs2.len
  have kX := fun (W : World) (h : Blk W w.heap.size 33 #[.int .i64 ask, .int .i64 a, .int .i64 bb, .int .i64 c, .slice A l.length cap]) (i : Nat) => h.cell i
  have hne : w.heap.size ≠ g ∧ w.heap.size ≠ b ∧ ¬ foot gr vn va w.heap.size := ⟨fun e => by have := h.blk.lt; omega, fun e => by have := h.map.lt; omega, fun e => by have := h2.lt _ e; omega⟩
  have HNE := Lib.hid hne
  have BO := Lib.hid bo
  have F0 := Lib.hid f0
  have H1 := Lib.hid h'
  have H2 := Lib.hid h2'
  have H0 := Lib.hid h
  have H20 := Lib.hid h2
  clear h h2 h' h2' hne
  have LIFT : Hid (∀ (s' s2' : GW) (w' : World), DPost g b K gr vn va s' s2' (w.alloc (.cells #[.int .i64 ask, .int .i64 a, .int .i64 bb, .int .i64 c, .slice A l.length cap] 33)) w' → DPost g b K gr vn va s' s2' w w') := fun s' s2' w' p => by
    obtain ⟨p1, ⟨vn', va', p2, p3⟩, p4⟩ := p
    exact ⟨p1, ⟨vn', va', p2, fun k hk => (p3 k hk).imp id (fun h => Nat.le_trans F0.out.size h)⟩, (F0.out.more (fun _ _ h => h.elim)).trans p4⟩
  clear f0
  unfold doesB GW.does
  by_cases h0 : ask = 0
  · subst h0
    simp only [if_true]
    have FS : Hid (∀ W, Fresh (w.alloc (.cells #[.int .i64 0, .int .i64 a, .int .i64 bb, .int .i64 c, .slice A l.length cap] 33)) W → Calls Try.prog 32 #[.pointer (some ⟨g, 0, none⟩), .int .i64 a, .int .i64 bb] W fun e w' => e = .returned (.int .i64 (s.sent a bb).1) ∧ SWork w' g b (K + 1) (s.sent a bb).2 ∧ Keep (fun k => k = g ∨ k = b) (w.alloc (.cells #[.int .i64 0, .int .i64 a, .int .i64 bb, .int .i64 c, .slice A l.length cap] 33)) w') := fun W f =>
      (sent_any g b K s a bb W (H1.out.fresh f) (by omega) hw).mono fun e w' ⟨e1, e2, e3⟩ => ⟨e1, e2, (f.more (fun _ _ h => h.elim)).step e3 (fun i _ e => .inr e)⟩
    have FR : Hid (∀ W, Keep (fun k => k = g ∨ k = b) (w.alloc (.cells #[.int .i64 0, .int .i64 a, .int .i64 bb, .int .i64 c, .slice A l.length cap] 33)) W → Calls Try.prog 34 #[.pointer (some ⟨gr, 0, none⟩), .int .i64 a, .int .i64 bb] W fun e w' => e = .returned (.int .i64 (s2.sent a bb).1) ∧ RPost gr vn va (s2.sent a bb).2 W w') := fun W f =>
      rsent_any gr vn va s2 a bb W (RWork.off H1.out H2.out f (fun _ h => h)) (by omega)
    obtain ⟨X, hX⟩ : ∃ X, s.sent a bb = X := ⟨_, rfl⟩
    obtain ⟨Y, hY⟩ : ∃ Y, s2.sent a bb = Y := ⟨_, rfl⟩
    rw [hX] at FS ⊢
    rw [hY] at FR ⊢
    clear hX hY
    have hz : ((0 : Int) == 0) = true := rfl
    have FD : Fresh (w.alloc (.cells #[.int .i64 0, .int .i64 a, .int .i64 bb, .int .i64 c, .slice A l.length cap] 33)) (w.alloc (.cells #[.int .i64 0, .int .i64 a, .int .i64 bb, .int .i64 c, .slice A l.length cap] 33)).drew := (Keep.refl _ _).drew
    have FDh := Lib.hid FD
    have BK1 : Hid (∀ W, Keep (fun k => k = g ∨ k = b) (w.alloc (.cells #[.int .i64 0, .int .i64 a, .int .i64 bb, .int .i64 c, .slice A l.length cap] 33)) W → Blk W w.heap.size 33 #[.int .i64 0, .int .i64 a, .int .i64 bb, .int .i64 c, .slice A l.length cap]) := fun W kk => BO.out.keep kk (fun e => e.elim (fun e => HNE.out.1 e) (fun e => HNE.out.2.1 e))
    have BK2 : Hid (∀ W W' s', Keep (fun k => k = g ∨ k = b) (w.alloc (.cells #[.int .i64 0, .int .i64 a, .int .i64 bb, .int .i64 c, .slice A l.length cap] 33)) W → RPost gr vn va s' W W' → Blk W' w.heap.size 33 #[.int .i64 0, .int .i64 a, .int .i64 bb, .int .i64 c, .slice A l.length cap]) := fun W W' s' kk p => by
      obtain ⟨vn', va', _, k2, _⟩ := p
      exact (BK1.out W kk).keep k2 HNE.out.2.2
    clear FD
    go_enter Try.func12, Try.ntmps12
    go_wp2_with fail
    go_region_held3 (fun W => Blk W w.heap.size 33 #[.int .i64 0, .int .i64 a, .int .i64 bb, .int .i64 c, .slice A l.length cap])
      (first
        | exact BO.out.drew
        | exact BK1.out _ k3
        | exact BK2.out _ _ _ k3 p4)
      (first
        | (go_at_call 32; (with_reducible refine (FS.out _ FDh.out).mono ?_); rintro e w3 ⟨rfl, a3, k3⟩)
        | (go_at_call 34; (with_reducible refine (FR.out _ k3).mono ?_); rintro e w4 ⟨rfl, p4⟩))
    go_split_ands
    have HEND := Lib.hid (DPost.two H1.out H2.out a3 k3 (Keep.refl _ _) p4)
    clear a3 k3 p4
    go_wp2_with fail
    go_ret
    exact ⟨rfl, LIFT.out _ _ _ HEND.out⟩
  · rw [if_neg h0, if_neg h0]
    have t0 : (ask == 0) = false := by simpa using h0
    by_cases h1 : ask = 1
    · subst h1
      simp only [if_true]
      have FS : Hid (∀ W, Fresh (w.alloc (.cells #[.int .i64 1, .int .i64 a, .int .i64 bb, .int .i64 c, .slice A l.length cap] 33)) W → Calls Try.prog 33 #[.pointer (some ⟨g, 0, none⟩), .int .i64 a, .int .i64 bb] W fun e w' => e = .returned (.int .i64 (s.acked a bb).1) ∧ SWork w' g b (K + 1) (s.acked a bb).2 ∧ Keep (fun k => k = g ∨ k = b) (w.alloc (.cells #[.int .i64 1, .int .i64 a, .int .i64 bb, .int .i64 c, .slice A l.length cap] 33)) w') := fun W f =>
        (acked_any g b K k s a bb W (H1.out.fresh f) hs (by omega) hw).mono fun e w' ⟨e1, e2, e3⟩ => ⟨e1, e2, (f.more (fun _ _ h => h.elim)).step e3 (fun i _ e => e)⟩
      have FR : Hid (∀ W, Keep (fun k => k = g ∨ k = b) (w.alloc (.cells #[.int .i64 1, .int .i64 a, .int .i64 bb, .int .i64 c, .slice A l.length cap] 33)) W → Calls Try.prog 35 #[.pointer (some ⟨gr, 0, none⟩), .int .i64 a, .int .i64 bb] W fun e w' => e = .returned (.int .i64 (s2.acked a bb).1) ∧ RPost gr vn va (s2.acked a bb).2 W w') := fun W f =>
        racked_any gr k vn va s2 a bb W (RWork.off H1.out H2.out f (fun _ h => h)) hs2 (by omega)
      obtain ⟨X, hX⟩ : ∃ X, s.acked a bb = X := ⟨_, rfl⟩
      obtain ⟨Y, hY⟩ : ∃ Y, s2.acked a bb = Y := ⟨_, rfl⟩
      rw [hX] at FS ⊢
      rw [hY] at FR ⊢
      clear hX hY
      have hz : ((1 : Int) == 1) = true := rfl
      have hz0 : ((1 : Int) == 0) = false := rfl
      have FD : Fresh (w.alloc (.cells #[.int .i64 1, .int .i64 a, .int .i64 bb, .int .i64 c, .slice A l.length cap] 33)) (w.alloc (.cells #[.int .i64 1, .int .i64 a, .int .i64 bb, .int .i64 c, .slice A l.length cap] 33)).drew := (Keep.refl _ _).drew
      have FDh := Lib.hid FD
      have BK1 : Hid (∀ W, Keep (fun k => k = g ∨ k = b) (w.alloc (.cells #[.int .i64 1, .int .i64 a, .int .i64 bb, .int .i64 c, .slice A l.length cap] 33)) W → Blk W w.heap.size 33 #[.int .i64 1, .int .i64 a, .int .i64 bb, .int .i64 c, .slice A l.length cap]) := fun W kk => BO.out.keep kk (fun e => e.elim (fun e => HNE.out.1 e) (fun e => HNE.out.2.1 e))
      have BK2 : Hid (∀ W W' s', Keep (fun k => k = g ∨ k = b) (w.alloc (.cells #[.int .i64 1, .int .i64 a, .int .i64 bb, .int .i64 c, .slice A l.length cap] 33)) W → RPost gr vn va s' W W' → Blk W' w.heap.size 33 #[.int .i64 1, .int .i64 a, .int .i64 bb, .int .i64 c, .slice A l.length cap]) := fun W W' s' kk p => by
        obtain ⟨vn', va', _, k2, _⟩ := p
        exact (BK1.out W kk).keep k2 HNE.out.2.2
      clear FD
      go_enter Try.func12, Try.ntmps12
      go_wp2_with fail
      go_region_held3 (fun W => Blk W w.heap.size 33 #[.int .i64 1, .int .i64 a, .int .i64 bb, .int .i64 c, .slice A l.length cap])
        (first
          | exact BO.out.drew
          | exact BK1.out _ k3
          | exact BK2.out _ _ _ k3 p4)
        (first
          | (go_at_call 33; (with_reducible refine (FS.out _ FDh.out).mono ?_); rintro e w3 ⟨rfl, a3, k3⟩)
          | (go_at_call 35; (with_reducible refine (FR.out _ k3).mono ?_); rintro e w4 ⟨rfl, p4⟩))
      go_split_ands
      have HEND := Lib.hid (DPost.two H1.out H2.out a3 k3 (Keep.refl _ _) p4)
      clear a3 k3 p4
      go_wp2_with fail
      go_ret
      exact ⟨rfl, LIFT.out _ _ _ HEND.out⟩
    · rw [if_neg h1, if_neg h1]
      have t1 : (ask == 1) = false := by simpa using h1
      have HL := Lib.hid (hl.fresh F0.out)
      have FS := Lib.hid (start_any g b K k s a A cap l _ H1.out hs (by omega) HL.out (by omega))
      have FR : Hid (∀ W, Keep (fun k => k = g ∨ k = b) (w.alloc (.cells #[.int .i64 ask, .int .i64 a, .int .i64 bb, .int .i64 c, .slice A l.length cap] 33)) W → Calls Try.prog 36 #[.pointer (some ⟨gr, 0, none⟩), .int .i64 a, .slice A l.length cap] W fun e w' => e = .returned (.tuple #[.int .i64 (s2.start a l).1, .int .i64 (s2.start a l).2.1]) ∧ RPost gr vn va (s2.start a l).2.2 W w') := fun W f =>
        rstart_any gr k vn va s2 a A cap l W (RWork.off H1.out H2.out f (fun _ h => h)) hs2 (by omega) (by
          by_cases hz : l.length = 0
          · rw [List.length_eq_zero_iff.1 hz]
            exact fun i u hu => by simp at hu
          · exact HL.out.keep f (fun x hx e => by
              obtain ⟨e1, e2⟩ := hA x hx hz
              exact e.elim e1 e2)) (by omega)
      obtain ⟨⟨x1, x2, x3⟩, hX⟩ : ∃ X, s.start a l = X := ⟨_, rfl⟩
      obtain ⟨⟨y1, y2, y3⟩, hY⟩ : ∃ Y, s2.start a l = Y := ⟨_, rfl⟩
      rw [hX] at FS ⊢
      rw [hY] at FR ⊢
      simp only at FS FR ⊢
      clear hX hY h0 h1
      have BK1 : Hid (∀ W, Keep (fun k => k = g ∨ k = b) (w.alloc (.cells #[.int .i64 ask, .int .i64 a, .int .i64 bb, .int .i64 c, .slice A l.length cap] 33)) W → Blk W w.heap.size 33 #[.int .i64 ask, .int .i64 a, .int .i64 bb, .int .i64 c, .slice A l.length cap]) := fun W kk => BO.out.keep kk (fun e => e.elim (fun e => HNE.out.1 e) (fun e => HNE.out.2.1 e))
      have hcase : (x1 == y1) = false ∨ ((x1 == y1) = true ∧ (x2 == y2) = false) ∨ ((x1 == y1) = true ∧ (x2 == y2) = true) := by cases (x1 == y1) <;> cases (x2 == y2) <;> simp
      rcases hcase with u1 | ⟨u1, u2⟩ | ⟨u1, u2⟩
      · rw [u1, Bool.false_and]
        go_enter Try.func12, Try.ntmps12
        go_wp2_with fail
        refine FS.out.mono ?_
        rintro e w3 ⟨rfl, a3, k3⟩
        have hb3 := (BK1.out _ k3).cell
        have hl3 := (BK1.out _ k3).lt
        have A3 := Lib.hid a3
        have K3 := Lib.hid k3
        clear a3 k3
        go_wp2_with fail
        refine (FR.out _ K3.out).mono ?_
        rintro e w4 ⟨rfl, p4⟩
        have HEND := Lib.hid (DPost.two H1.out H2.out A3.out K3.out (Keep.refl _ _) p4)
        clear p4
        go_wp2_with fail
        go_ret
        exact ⟨rfl, LIFT.out _ _ _ HEND.out⟩
      all_goals
        rw [u1, u2, Bool.true_and]
        go_enter Try.func12, Try.ntmps12
        go_wp2_with fail
        refine FS.out.mono ?_
        rintro e w3 ⟨rfl, a3, k3⟩
        have hb3 := (BK1.out _ k3).cell
        have hl3 := (BK1.out _ k3).lt
        have A3 := Lib.hid a3
        have K3 := Lib.hid k3
        clear a3 k3
        go_wp2_with fail
        refine (FR.out _ K3.out).mono ?_
        rintro e w4 ⟨rfl, p4⟩
        have HEND := Lib.hid (DPost.two H1.out H2.out A3.out K3.out (Keep.refl _ _) p4)
        clear p4
        go_wp2_with fail
        go_ret
        exact ⟨rfl, LIFT.out _ _ _ HEND.out⟩
end Go.Proofs.Ytegffmnenicldaa
