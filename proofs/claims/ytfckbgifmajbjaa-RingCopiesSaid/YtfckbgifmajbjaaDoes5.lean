/-
  The law's does: a call of a ring, and of the document's.
-/
import Derived.Test.YtfckbgifmajbjaaDoes4
namespace Go.Proofs.Ytfckbgifmajbjaa
open Go.RowKit
attribute [local go_sem ↓] Go.wp_at_zero Go.wp_at_succ run_min run_max

set_option maxHeartbeats 4000000 in
set_option maxRecDepth 100000 in
theorem does_any (g gs off cap gr room : Nat) (v : Value) (L : List (Int × Int)) (o : ROp) (w : World) (h : Held g gs off cap room L w) (h2 : RRing w gr v room L) :
    Calls Try.prog 12 #[.pointer (some ⟨g, 0, none⟩), .pointer (some ⟨gr, 0, none⟩), .agg o.arr] w fun e w' => e = .returned (.bool true) ∧ DPost g gs off cap gr v room (doesL L room o) w w' := by
  have f0 : Fresh w (w.alloc (.cells o.arr 36)) := (Keep.refl _ _).alloc _
  have bo := Blk.new w 36 o.arr
  have h' := h.fresh f0
  have h2' := h2.fresh f0
  obtain ⟨ask, t, x⟩ := o
  simp only [ROp.arr] at f0 bo h' h2' ⊢
  have hasc := h.asc
  have hroom := h.room
  have hne : w.heap.size ≠ g ∧ w.heap.size ≠ gs ∧ ¬ foot gr v w.heap.size := ⟨fun e => by have := h.lt.1; omega, fun e => by have := h.lt.2; omega, fun e => by have := h2.lt _ e; omega⟩
  have HNE := Lib.hid hne
  have HASC := Lib.hid hasc
  have BO := Lib.hid bo
  have F0 := Lib.hid f0
  have H1 := Lib.hid h'
  have H2 := Lib.hid h2'
  have HR := Lib.hid hroom
  have hL := hroom.2
  have hr1 := hroom.1.1
  have hr2 := hroom.1.2
  clear h h2 h' h2' hne f0 bo hasc hroom
  unfold doesL
  by_cases h0 : ask = 0
  · subst h0
    simp only [if_true]
    have FS : Hid (∀ W, Fresh (w.alloc (.cells #[.int .i64 0, .int .i64 t, .int .i64 x] 36)) W → Calls Try.prog 24 #[.pointer (some ⟨g, 0, none⟩), .int .i64 t, .int .i64 x] W fun e w' => e = .returned (.int .i64 (pushL L room (t, x)).1) ∧ Held g gs off cap room (pushL L room (t, x)).2 w' ∧ Keep (fun k => k = g ∨ k = gs) (w.alloc (.cells #[.int .i64 0, .int .i64 t, .int .i64 x] 36)) w') := fun W f =>
      (push_any g gs off cap room L t x W (H1.out.fresh f)).mono fun e w' ⟨e1, e2, e3⟩ => ⟨e1, e2, (f.more (fun _ _ h => h.elim)).step e3 (fun i _ e => e)⟩
    have FR : Hid (∀ W, Keep (fun k => k = g ∨ k = gs) (w.alloc (.cells #[.int .i64 0, .int .i64 t, .int .i64 x] 36)) W → Calls Try.prog 26 #[.pointer (some ⟨gr, 0, none⟩), .int .i64 t, .int .i64 x] W fun e w' => e = .returned (.int .i64 (pushL L room (t, x)).1) ∧ RPost gr v room (pushL L room (t, x)).2 W w') := fun W f =>
      rpush_any gr room v L t x W (RRing.off_ H1.out H2.out f (fun _ h => h)) HASC.out hr2 hL
    obtain ⟨⟨er, L'⟩, hX⟩ : ∃ X, pushL L room (t, x) = X := ⟨_, rfl⟩
    rw [hX] at FS FR ⊢
    simp only at FS FR ⊢
    clear hX
    have FDh : Hid (Fresh (w.alloc (.cells #[.int .i64 0, .int .i64 t, .int .i64 x] 36)) (w.alloc (.cells #[.int .i64 0, .int .i64 t, .int .i64 x] 36)).drew) := (Keep.refl _ _).drew
    have BK1 : Hid (∀ W, Keep (fun k => k = g ∨ k = gs) (w.alloc (.cells #[.int .i64 0, .int .i64 t, .int .i64 x] 36)) W → Blk W w.heap.size 36 #[.int .i64 0, .int .i64 t, .int .i64 x]) := fun W kk => BO.out.keep kk (fun e => e.elim (fun e => HNE.out.1 e) (fun e => HNE.out.2.1 e))
    have BK2 : Hid (∀ W W' L', Keep (fun k => k = g ∨ k = gs) (w.alloc (.cells #[.int .i64 0, .int .i64 t, .int .i64 x] 36)) W → RPost gr v room L' W W' → Blk W' w.heap.size 36 #[.int .i64 0, .int .i64 t, .int .i64 x]) := fun W W' s' kk p => by
      obtain ⟨v', _, k2, _⟩ := p
      exact (BK1.out W kk).keep k2 HNE.out.2.2
    have kX := fun (W : World) (h : Blk W w.heap.size 36 #[.int .i64 0, .int .i64 t, .int .i64 x]) (i : Nat) => h.cell i
    go_enter Try.func12, Try.ntmps12
    go_wp2_with fail
    go_region_held3 (fun W => Blk W w.heap.size 36 #[.int .i64 0, .int .i64 t, .int .i64 x])
      (first
        | exact BO.out.drew
        | exact BK1.out _ k3
        | exact BK2.out _ _ _ k3 p4)
      (first
        | (go_at_call 24; (with_reducible refine (FS.out _ FDh.out).mono ?_); rintro e w3 ⟨rfl, a3, k3⟩)
        | (go_at_call 26; (with_reducible refine (FR.out _ k3).mono ?_); rintro e w4 ⟨rfl, p4⟩))
    go_split_ands
    have HEND := Lib.hid (DPost.after F0.out (DPost.two H1.out H2.out a3 k3 (Keep.refl _ _) p4))
    clear a3 k3 p4
    go_wp2_with fail
    go_ret
    exact ⟨by simp, HEND.out⟩
  rw [if_neg h0]
  have t0 : (ask == 0) = false := by simpa using h0
  by_cases h1 : ask = 1
  · subst h1
    simp only [if_true]
    have FS : Hid (∀ W, Fresh (w.alloc (.cells #[.int .i64 1, .int .i64 t, .int .i64 x] 36)) W → Calls Try.prog 19 #[.pointer (some ⟨g, 0, none⟩), .int .i64 t] W fun e w' => ∃ u, e = .returned u ∧ Given (w.alloc (.cells #[.int .i64 1, .int .i64 t, .int .i64 x] 36)) w' u (vals (L.drop (lows L t)).reverse) ∧ Held g gs off cap room (L.take (lows L t)) w' ∧ Keep (fun k => k = g ∨ k = gs) (w.alloc (.cells #[.int .i64 1, .int .i64 t, .int .i64 x] 36)) w') := fun W f =>
      (back_any g gs off cap room L t W (H1.out.fresh f)).mono fun e w' p => by
        obtain ⟨u, e1, e2, e3, e4⟩ := p
        exact ⟨u, e1, ⟨e2.1, fun k hk => Nat.le_trans f.size (e2.2 k hk)⟩, e3, (f.more (fun _ _ h => h.elim)).step e4 (fun i _ e => e)⟩
    have FR : Hid (∀ W, Keep (fun k => k = g ∨ k = gs) (w.alloc (.cells #[.int .i64 1, .int .i64 t, .int .i64 x] 36)) W → Calls Try.prog 27 #[.pointer (some ⟨gr, 0, none⟩), .int .i64 t] W fun e w' => ∃ u, e = .returned u ∧ Given W w' u (vals (L.drop (lows L t)).reverse) ∧ RPost gr v room (L.take (lows L t)) W w') := fun W f =>
      (rback_any gr room v L t W (RRing.off_ H1.out H2.out f (fun _ h => h)) HASC.out (by omega)).mono fun e w' p => p
    have hlo : (vals (L.drop (lows L t)).reverse).length ≤ 4096 := by
      unfold vals
      simp
      omega
    have hle : lows L t ≤ L.length := List.countP_le_length
    obtain ⟨OU, hOU⟩ : ∃ OU, vals (L.drop (lows L t)).reverse = OU := ⟨_, rfl⟩
    obtain ⟨RE, hRE⟩ : ∃ RE, L.take (lows L t) = RE := ⟨_, rfl⟩
    rw [hOU] at FS FR hlo
    rw [hRE] at FS FR ⊢
    clear hOU hRE hle
    have FDh : Hid (Fresh (w.alloc (.cells #[.int .i64 1, .int .i64 t, .int .i64 x] 36)) (w.alloc (.cells #[.int .i64 1, .int .i64 t, .int .i64 x] 36)).drew) := (Keep.refl _ _).drew
    have BK1 : Hid (∀ W, Keep (fun k => k = g ∨ k = gs) (w.alloc (.cells #[.int .i64 1, .int .i64 t, .int .i64 x] 36)) W → Blk W w.heap.size 36 #[.int .i64 1, .int .i64 t, .int .i64 x]) := fun W kk => BO.out.keep kk (fun e => e.elim (fun e => HNE.out.1 e) (fun e => HNE.out.2.1 e))
    have BK2 : Hid (∀ W W' L', Keep (fun k => k = g ∨ k = gs) (w.alloc (.cells #[.int .i64 1, .int .i64 t, .int .i64 x] 36)) W → RPost gr v room L' W W' → Blk W' w.heap.size 36 #[.int .i64 1, .int .i64 t, .int .i64 x]) := fun W W' s' kk p => by
      obtain ⟨v', _, k2, _⟩ := p
      exact (BK1.out W kk).keep k2 HNE.out.2.2
    have kX := fun (W : World) (h : Blk W w.heap.size 36 #[.int .i64 1, .int .i64 t, .int .i64 x]) (i : Nat) => h.cell i
    have FI : Hid (∀ (w3 w4 : World) (ua ub : Value), Given (w.alloc (.cells #[.int .i64 1, .int .i64 t, .int .i64 x] 36)) w3 ua OU → Keep (fun k => k = g ∨ k = gs) (w.alloc (.cells #[.int .i64 1, .int .i64 t, .int .i64 x] 36)) w3 → RPost gr v room RE w3 w4 → Given w3 w4 ub OU → Calls Try.prog 25 #[ua, ub] w4 fun e w' => e = .returned (.bool true) ∧ Fresh w4 w') := fun w3 w4 ua ub ga k3 p4 gb => by
      obtain ⟨A, B, c, c', rfl, rfl, m1, m2, i1, i2⟩ := both_parts H1.out H2.out ga p4 gb k3.size
      exact ints_any A B c c' OU w4 i1 i2 (by omega)
    go_enter Try.func12, Try.ntmps12
    go_wp2_with fail
    go_region_held3 (fun W => Blk W w.heap.size 36 #[.int .i64 1, .int .i64 t, .int .i64 x])
      (first
        | exact BO.out.drew
        | exact BK1.out _ k3
        | exact BK2.out _ _ _ k3 p4
        | exact f5.blk_ (BK2.out _ _ _ k3 p4))
      (first
        | (go_at_call 19; (with_reducible refine (FS.out _ FDh.out).mono ?_); rintro e w3 ⟨ua, rfl, g3, a3, k3⟩)
        | (go_at_call 27; (with_reducible refine (FR.out _ k3).mono ?_); rintro e w4 ⟨ub, rfl, g4, p4⟩)
        | (go_at_call 25; (with_reducible refine (FI.out _ _ _ _ g3 k3 p4 g4).mono ?_); rintro e w5 ⟨rfl, f5⟩))
    go_split_ands
    have HEND := Lib.hid ((DPost.after F0.out (DPost.two H1.out H2.out a3 k3 (Keep.refl _ _) p4)).more f5)
    clear a3 k3 p4 f5 g3 g4
    go_wp2_with fail
    go_ret
    exact ⟨rfl, HEND.out⟩
  rw [if_neg h1]
  have t1 : (ask == 1) = false := by simpa using h1
  by_cases h2 : ask = 2
  · subst h2
    simp only [if_true]
    have FS : Hid (∀ W, Fresh (w.alloc (.cells #[.int .i64 2, .int .i64 t, .int .i64 x] 36)) W → Calls Try.prog 20 #[.pointer (some ⟨g, 0, none⟩), .int .i64 t] W fun e w' => ∃ u, e = .returned u ∧ Given (w.alloc (.cells #[.int .i64 2, .int .i64 t, .int .i64 x] 36)) w' u (vals (L.take (lows L t))) ∧ Held g gs off cap room (L.drop (lows L t)) w' ∧ Keep (fun k => k = g ∨ k = gs) (w.alloc (.cells #[.int .i64 2, .int .i64 t, .int .i64 x] 36)) w') := fun W f =>
      (front_any g gs off cap room L t W (H1.out.fresh f)).mono fun e w' p => by
        obtain ⟨u, e1, e2, e3, e4⟩ := p
        exact ⟨u, e1, ⟨e2.1, fun k hk => Nat.le_trans f.size (e2.2 k hk)⟩, e3, (f.more (fun _ _ h => h.elim)).step e4 (fun i _ e => e)⟩
    have FR : Hid (∀ W, Keep (fun k => k = g ∨ k = gs) (w.alloc (.cells #[.int .i64 2, .int .i64 t, .int .i64 x] 36)) W → Calls Try.prog 28 #[.pointer (some ⟨gr, 0, none⟩), .int .i64 t] W fun e w' => ∃ u, e = .returned u ∧ Given W w' u (vals (L.take (lows L t))) ∧ RPost gr v room (L.drop (lows L t)) W w') := fun W f =>
      (rfront_any gr room v L t W (RRing.off_ H1.out H2.out f (fun _ h => h)) HASC.out (by omega)).mono fun e w' p => p
    have hlo : (vals (L.take (lows L t))).length ≤ 4096 := by
      unfold vals
      simp
      omega
    have hle : lows L t ≤ L.length := List.countP_le_length
    obtain ⟨OU, hOU⟩ : ∃ OU, vals (L.take (lows L t)) = OU := ⟨_, rfl⟩
    obtain ⟨RE, hRE⟩ : ∃ RE, L.drop (lows L t) = RE := ⟨_, rfl⟩
    rw [hOU] at FS FR hlo
    rw [hRE] at FS FR ⊢
    clear hOU hRE hle
    have FDh : Hid (Fresh (w.alloc (.cells #[.int .i64 2, .int .i64 t, .int .i64 x] 36)) (w.alloc (.cells #[.int .i64 2, .int .i64 t, .int .i64 x] 36)).drew) := (Keep.refl _ _).drew
    have BK1 : Hid (∀ W, Keep (fun k => k = g ∨ k = gs) (w.alloc (.cells #[.int .i64 2, .int .i64 t, .int .i64 x] 36)) W → Blk W w.heap.size 36 #[.int .i64 2, .int .i64 t, .int .i64 x]) := fun W kk => BO.out.keep kk (fun e => e.elim (fun e => HNE.out.1 e) (fun e => HNE.out.2.1 e))
    have BK2 : Hid (∀ W W' L', Keep (fun k => k = g ∨ k = gs) (w.alloc (.cells #[.int .i64 2, .int .i64 t, .int .i64 x] 36)) W → RPost gr v room L' W W' → Blk W' w.heap.size 36 #[.int .i64 2, .int .i64 t, .int .i64 x]) := fun W W' s' kk p => by
      obtain ⟨v', _, k2, _⟩ := p
      exact (BK1.out W kk).keep k2 HNE.out.2.2
    have kX := fun (W : World) (h : Blk W w.heap.size 36 #[.int .i64 2, .int .i64 t, .int .i64 x]) (i : Nat) => h.cell i
    have FI : Hid (∀ (w3 w4 : World) (ua ub : Value), Given (w.alloc (.cells #[.int .i64 2, .int .i64 t, .int .i64 x] 36)) w3 ua OU → Keep (fun k => k = g ∨ k = gs) (w.alloc (.cells #[.int .i64 2, .int .i64 t, .int .i64 x] 36)) w3 → RPost gr v room RE w3 w4 → Given w3 w4 ub OU → Calls Try.prog 25 #[ua, ub] w4 fun e w' => e = .returned (.bool true) ∧ Fresh w4 w') := fun w3 w4 ua ub ga k3 p4 gb => by
      obtain ⟨A, B, c, c', rfl, rfl, m1, m2, i1, i2⟩ := both_parts H1.out H2.out ga p4 gb k3.size
      exact ints_any A B c c' OU w4 i1 i2 (by omega)
    go_enter Try.func12, Try.ntmps12
    go_wp2_with fail
    go_region_held3 (fun W => Blk W w.heap.size 36 #[.int .i64 2, .int .i64 t, .int .i64 x])
      (first
        | exact BO.out.drew
        | exact BK1.out _ k3
        | exact BK2.out _ _ _ k3 p4
        | exact f5.blk_ (BK2.out _ _ _ k3 p4))
      (first
        | (go_at_call 20; (with_reducible refine (FS.out _ FDh.out).mono ?_); rintro e w3 ⟨ua, rfl, g3, a3, k3⟩)
        | (go_at_call 28; (with_reducible refine (FR.out _ k3).mono ?_); rintro e w4 ⟨ub, rfl, g4, p4⟩)
        | (go_at_call 25; (with_reducible refine (FI.out _ _ _ _ g3 k3 p4 g4).mono ?_); rintro e w5 ⟨rfl, f5⟩))
    go_split_ands
    have HEND := Lib.hid ((DPost.after F0.out (DPost.two H1.out H2.out a3 k3 (Keep.refl _ _) p4)).more f5)
    clear a3 k3 p4 f5 g3 g4
    go_wp2_with fail
    go_ret
    exact ⟨rfl, HEND.out⟩
  rw [if_neg h2]
  have t2 : (ask == 2) = false := by simpa using h2
  by_cases h3 : ask = 3
  · subst h3
    have BKx := BO.out.cell
    have hcase : (L = [] ∧ L[0]? = none) ∨ ∃ y, 0 < L.length ∧ L[0]? = some y := by
      rcases Nat.eq_zero_or_pos L.length with hz | hp
      · exact .inl ⟨List.length_eq_zero_iff.1 hz, List.getElem?_eq_none (by omega)⟩
      · exact .inr ⟨_, hp, List.getElem?_eq_getElem (by omega)⟩
    have FS := Lib.hid (first_held H1.out)
    obtain ⟨Ar, capr, rfl, hc1, hc2⟩ := H2.out.own.shape
    have hc2 : capr ≤ 9223372036854775807 := by unfold maxLen at hc2; omega
    rcases hcase with ⟨rfl, hn⟩ | ⟨⟨ya, yb⟩, hp, hn⟩
    · rw [hn] at FS
      unfold told at FS
      simp only at FS
      simp only [List.length_nil] at *
      clear hn
      go_enter Try.func12, Try.ntmps12
      go_wp2_with fail
      refine FS.out.mono ?_
      rintro e w3 ⟨rfl, f3⟩
      have R3 := Lib.hid (H2.out.fresh f3)
      have F3 := Lib.hid f3
      have b3 := R3.out.blk.cell
      clear f3
      go_wp2_with fail
      refine (told_no gr _).mono ?_
      rintro e w4 ⟨rfl, rfl⟩
      have HEND := Lib.hid (DPost.after F0.out (DPost.stay H1.out H2.out F3.out))
      go_wp2_with fail
      go_ret
      exact ⟨rfl, HEND.out⟩
    · rw [hn] at FS
      unfold told at FS
      simp only at FS
      have HN := Lib.hid hn
      clear hn
      have e1 : min 0 ((L.length : Int) - 1) = ((0 : Nat) : Int) := by omega
      go_enter Try.func12, Try.ntmps12
      go_wp2_with fail
      refine FS.out.mono ?_
      rintro e w3 ⟨rfl, f3⟩
      have R3 := Lib.hid (H2.out.fresh f3)
      have F3 := Lib.hid f3
      have b3 := R3.out.blk.cell
      clear f3
      go_wp2_with fail
      have TY := Lib.hid (told_yes gr room _ L (0) (ya, yb) _ R3.out HN.out (by omega))
      rw [show ((0 : Nat) : Int) = 0 from rfl] at TY
      with_reducible refine TY.out.mono ?_
      rintro e w4 ⟨rfl, f4⟩
      have HEND := Lib.hid (DPost.after F0.out (DPost.stay H1.out H2.out (F3.out.step f4 (fun _ _ h => h))))
      clear f4
      go_wp2_with fail
      go_ret
      exact ⟨rfl, HEND.out⟩
  have t3 : (ask == 3) = false := by simpa using h3
  by_cases h4 : ask = 4
  · subst h4
    have BKx := BO.out.cell
    have hcase : (L = [] ∧ L[L.length - 1]? = none) ∨ ∃ y, 0 < L.length ∧ L[L.length - 1]? = some y := by
      rcases Nat.eq_zero_or_pos L.length with hz | hp
      · exact .inl ⟨List.length_eq_zero_iff.1 hz, List.getElem?_eq_none (by omega)⟩
      · exact .inr ⟨_, hp, List.getElem?_eq_getElem (by omega)⟩
    have FS := Lib.hid (last_held H1.out)
    obtain ⟨Ar, capr, rfl, hc1, hc2⟩ := H2.out.own.shape
    have hc2 : capr ≤ 9223372036854775807 := by unfold maxLen at hc2; omega
    rcases hcase with ⟨rfl, hn⟩ | ⟨⟨ya, yb⟩, hp, hn⟩
    · rw [hn] at FS
      unfold told at FS
      simp only at FS
      simp only [List.length_nil] at *
      clear hn
      go_enter Try.func12, Try.ntmps12
      go_wp2_with fail
      refine FS.out.mono ?_
      rintro e w3 ⟨rfl, f3⟩
      have R3 := Lib.hid (H2.out.fresh f3)
      have F3 := Lib.hid f3
      have b3 := R3.out.blk.cell
      clear f3
      go_wp2_with fail
      refine (told_no gr _).mono ?_
      rintro e w4 ⟨rfl, rfl⟩
      have HEND := Lib.hid (DPost.after F0.out (DPost.stay H1.out H2.out F3.out))
      go_wp2_with fail
      go_ret
      exact ⟨rfl, HEND.out⟩
    · rw [hn] at FS
      unfold told at FS
      simp only at FS
      have HN := Lib.hid hn
      clear hn
      have e1 : (L.length : Int) - 1 = ((L.length - 1 : Nat) : Int) := by omega
      go_enter Try.func12, Try.ntmps12
      go_wp2_with fail
      refine FS.out.mono ?_
      rintro e w3 ⟨rfl, f3⟩
      have R3 := Lib.hid (H2.out.fresh f3)
      have F3 := Lib.hid f3
      have b3 := R3.out.blk.cell
      clear f3
      go_wp2_with fail
      have TY := Lib.hid (told_yes gr room _ L (L.length - 1) (ya, yb) _ R3.out HN.out (by omega))
      with_reducible refine TY.out.mono ?_
      rintro e w4 ⟨rfl, f4⟩
      have HEND := Lib.hid (DPost.after F0.out (DPost.stay H1.out H2.out (F3.out.step f4 (fun _ _ h => h))))
      clear f4
      go_wp2_with fail
      go_ret
      exact ⟨rfl, HEND.out⟩
  have t4 : (ask == 4) = false := by simpa using h4
  have BKx := BO.out.cell
  have hcase : (ups L t = 0 ∧ uptoL L t = none) ∨ ∃ y, 0 < ups L t ∧ L[ups L t - 1]? = some y ∧ uptoL L t = some y := by
    have hle : ups L t ≤ L.length := List.countP_le_length
    unfold uptoL
    rcases Nat.eq_zero_or_pos (ups L t) with hz | hp
    · exact .inl ⟨hz, by rw [if_neg (by omega)]⟩
    · exact .inr ⟨_, hp, List.getElem?_eq_getElem (by omega), by rw [if_pos hp]; exact List.getElem?_eq_getElem (by omega)⟩
  have FS := Lib.hid (upto_held H1.out t)
  have FU : Hid (∀ W, Fresh (w.alloc (.cells #[.int .i64 ask, .int .i64 t, .int .i64 x] 36)) W → Calls Try.prog 30 #[.pointer (some ⟨gr, 0, none⟩), .int .i64 t] W fun e w' => e = .returned (.int .i64 ((ups L t : Int) - 1)) ∧ Fresh W w') := fun W f => rupto_any gr room v L t W (H2.out.fresh f) HASC.out (by omega)
  clear h0 h1 h2 h3 h4
  rcases hcase with ⟨hu, hn⟩ | ⟨⟨ya, yb⟩, hp, hy, hn⟩
  · rw [hn] at FS
    rw [hu] at FU
    unfold told at FS
    simp only at FS
    rw [show ((0 : Nat) : Int) - 1 = -1 from rfl] at FU
    clear hn hu
    go_enter Try.func12, Try.ntmps12
    go_wp2_with fail
    refine FS.out.mono ?_
    rintro e w3 ⟨rfl, f3⟩
    have F3 := Lib.hid f3
    have B3 := (f3.blk_ BO.out).cell
    have l3 := (f3.blk_ BO.out).lt
    clear f3
    go_wp2_with fail
    with_reducible refine (FU.out _ F3.out).mono ?_
    rintro e w4 ⟨rfl, f4⟩
    have F4 := Lib.hid (F3.out.step f4 (fun _ _ h => h))
    clear f4
    go_wp2_with fail
    refine (told_no gr _).mono ?_
    rintro e w5 ⟨rfl, rfl⟩
    have HEND := Lib.hid (DPost.after F0.out (DPost.stay H1.out H2.out F4.out))
    go_wp2_with fail
    go_ret
    exact ⟨rfl, HEND.out⟩
  · rw [hn] at FS
    unfold told at FS
    simp only at FS
    have HY := Lib.hid hy
    have e1 : (ups L t : Int) - 1 = ((ups L t - 1 : Nat) : Int) := by omega
    rw [e1] at FU
    obtain ⟨k, hk⟩ : ∃ k, ups L t - 1 = k := ⟨_, rfl⟩
    rw [hk] at FU HY
    clear hn hy e1 hk hp
    go_enter Try.func12, Try.ntmps12
    go_wp2_with fail
    refine FS.out.mono ?_
    rintro e w3 ⟨rfl, f3⟩
    have F3 := Lib.hid f3
    have B3 := (f3.blk_ BO.out).cell
    have l3 := (f3.blk_ BO.out).lt
    clear f3
    go_wp2_with fail
    with_reducible refine (FU.out _ F3.out).mono ?_
    rintro e w4 ⟨rfl, f4⟩
    have F4 := Lib.hid (F3.out.step f4 (fun _ _ h => h))
    have R4 := Lib.hid (H2.out.fresh F4.out)
    clear f4
    go_wp2_with fail
    have TY := Lib.hid (told_yes gr room _ L k (ya, yb) _ R4.out HY.out (by omega))
    with_reducible refine TY.out.mono ?_
    rintro e w5 ⟨rfl, f5⟩
    have HEND := Lib.hid (DPost.after F0.out (DPost.stay H1.out H2.out (F4.out.step f5 (fun _ _ h => h))))
    clear f5
    go_wp2_with fail
    go_ret
    exact ⟨rfl, HEND.out⟩
end Go.Proofs.Ytfckbgifmajbjaa
