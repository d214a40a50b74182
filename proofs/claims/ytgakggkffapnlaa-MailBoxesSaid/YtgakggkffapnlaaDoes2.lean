/-
  The law's does, by its calls' contracts.
-/
import Derived.Test.YtgakggkffapnlaaDoes
namespace Go.Proofs.Ytgakggkffapnlaa
open Go.RowKit R_int
attribute [local go_sem ↓] Go.wp_at_zero Go.wp_at_succ

theorem OutIs.one {o : Option Pk} {a b c x r a' b' c' x' r' : Int} (h : OutIs o a b c x r) (h' : OutIs o a' b' c' x' r') : a' = a ∧ b' = b ∧ c' = c ∧ x' = x ∧ r' = r := by
  rcases h with ⟨p, rfl, rfl, rfl, rfl, rfl, rfl⟩ | ⟨rfl, rfl, rfl, rfl, rfl, rfl⟩
  · rcases h' with ⟨q, e, rfl, rfl, rfl, rfl, rfl⟩ | ⟨e, _⟩
    · injection e with e
      subst e
      exact ⟨rfl, rfl, rfl, rfl, rfl⟩
    · cases e
  · rcases h' with ⟨q, e, _⟩ | ⟨_, rfl, rfl, rfl, rfl, rfl⟩
    · cases e
    · exact ⟨rfl, rfl, rfl, rfl, rfl⟩
/-- what a Take, or Pick, leaves: o the packet, l' what is left -/
def TookN (g : Nat) (v : Value) (bx nx : Int) (o : Option Pk) (l' : List Pk) (w : World) (e : Ending) (w' : World) : Prop :=
  ∃ a b c x er : Int, e = .returned (.tuple #[.agg #[.int .i64 a, .int .i64 b, .int .i64 c, .int .i64 x], .int .i64 er]) ∧ OutIs o a b c x er ∧ ∃ v', SNet w' g v' bx nx l' ∧ Keep (foot g v) w w' ∧ Later w v v'
def RTookN (g : Nat) (v : Value) (bx nx : Int) (o : Option Pk) (l' : List Pk) (w : World) (e : Ending) (w' : World) : Prop :=
  ∃ a b c x er : Int, e = .returned (.tuple #[.agg #[.int .i64 a, .int .i64 b, .int .i64 c, .int .i64 x], .int .i64 er]) ∧ OutIs o a b c x er ∧ ∃ v', RNet w' g v' bx nx l' ∧ Keep (foot g v) w w' ∧ Later w v v'
/-- the packet of a number -/
def byNo (l : List Pk) (no : Int) : Option Pk := (l.filter (fun p => p.no == no)).getLast?
theorem TakeP.norm {g : Nat} {v : Value} {bx nx : Int} {l : List Pk} {no : Int} {w : World} {e : Ending} {w' : World} (hS : SNet w g v bx nx l) (hG : Good bx nx l) (h : TakeP g v bx nx l no w e w') : TookN g v bx nx (byNo l no) (rm l no) w e w' := by
  rcases h with ⟨i, p, h1, rfl, h3, h4, v', h5, h6, h7⟩ | ⟨h1, h2, h3⟩
  · obtain ⟨e1, e2⟩ := up_at hG.up i p h1
    refine ⟨_, _, _, _, _, h4, .inl ⟨p, by rw [byNo, e2]; rfl, rfl, rfl, rfl, rfl, rfl⟩, v', by rw [e1]; exact h5, h6, h7⟩
  · refine ⟨_, _, _, _, _, h2, .inr ⟨by rw [byNo, got_none h1]; rfl, rfl, rfl, rfl, rfl, rfl⟩, v, by rw [rm_none h1]; exact hS.fresh h3, h3.more (fun _ _ h => h.elim), fun k hk => .inl hk⟩
theorem RTakeP.norm {g : Nat} {v : Value} {bx nx : Int} {l : List Pk} {no : Int} {w : World} {e : Ending} {w' : World} (h : RTakeP g bx nx l no w e w') : RTookN g v bx nx (byNo l no) (rm l no) w e w' := by
  obtain ⟨a, b, c, x, r, h1, h2, v', h3, h4, h5⟩ := h
  exact ⟨a, b, c, x, r, h1, h2, v', h3, h4.more (fun _ _ h => .inl h), fun k hk => .inr (h5 k hk)⟩
theorem toL_nil_pick {bx : Int} {l : List Pk} {to which : Int} (h : toL l to = []) : pickO bx l to which = none := by
  unfold pickO
  rw [h]
  split <;> simp
theorem at_pick {bx : Int} {l : List Pk} {to which : Int} {i : Nat} {p : Pk} (hb : boxB bx to = true) (h1 : (i : Int) = idxW which (toL l to).length) (h2 : (toL l to)[i]? = some p) : pickO bx l to which = some p := by
  unfold pickO
  rw [if_pos hb, ← h1, Int.toNat_natCast, h2]
def left (l : List Pk) (o : Option Pk) : List Pk := match o with
  | some p => rm l p.no
  | none => l
theorem byNo_mem {bx nx : Int} {l : List Pk} (hG : Good bx nx l) {p : Pk} (h : p ∈ l) : byNo l p.no = some p := by
  obtain ⟨i, hi, rfl⟩ := List.mem_iff_getElem.1 h
  rw [byNo, (up_at hG.up i _ (List.getElem?_eq_getElem hi)).2]
  rfl
theorem PickP.norm {g : Nat} {v : Value} {bx nx : Int} {l : List Pk} {to which : Int} {w : World} {e : Ending} {w' : World} (hS : SNet w g v bx nx l) (hG : Good bx nx l) (hb : boxB bx to = true) (h : PickP g v bx nx l to which w e w') : TookN g v bx nx (pickO bx l to which) (left l (pickO bx l to which)) w e w' := by
  rcases h with ⟨h1, h2, h3⟩ | ⟨i, p, h1, h2, h3⟩
  · rw [toL_nil_pick h1]
    exact ⟨_, _, _, _, _, h2, .inr ⟨rfl, rfl, rfl, rfl, rfl, rfl⟩, v, hS.fresh h3, h3.more (fun _ _ h => h.elim), fun k hk => .inl hk⟩
  · rw [at_pick hb h1 h2]
    have hm : p ∈ l := (List.mem_filter.1 (List.mem_of_getElem? h2)).1
    have := TakeP.norm hS hG h3
    rw [byNo_mem hG hm] at this
    exact this
theorem RPickP.norm {g : Nat} {v : Value} {bx nx : Int} {l : List Pk} {to which : Int} {w : World} {e : Ending} {w' : World} (hS : RNet w g v bx nx l) (hG : Good bx nx l) (hb : boxB bx to = true) (h : RPickP g bx nx l to which w e w') : RTookN g v bx nx (pickO bx l to which) (left l (pickO bx l to which)) w e w' := by
  rcases h with ⟨h1, h2, h3⟩ | ⟨i, p, h1, h2, h3⟩
  · rw [toL_nil_pick h1]
    exact ⟨_, _, _, _, _, h2, .inr ⟨rfl, rfl, rfl, rfl, rfl, rfl⟩, v, hS.fresh h3, h3.more (fun _ _ h => h.elim), fun k hk => .inl hk⟩
  · rw [at_pick hb h1 h2]
    have hm : p ∈ l := (List.mem_filter.1 (List.mem_of_getElem? h2)).1
    have := RTakeP.norm (v := v) h3
    rw [byNo_mem hG hm] at this
    exact this

set_option maxHeartbeats 4000000 in
theorem does_any (bx : Int) (g : Nat) (v : Value) (gr : Nat) (vr : Value) (s : Int × List Pk) (o : GOp) (w : World) (hS : SNet w g v bx s.1 s.2) (hR : RNet w gr vr bx s.1 s.2) (hG : Good bx s.1 s.2) (hl : s.2.length ≤ 10000) (hnx : s.1 ≤ 10000)
    (ho : ElAt w o.A o.l) (hol : o.l.length ≤ 20) (hA : ∀ a, o.A = some a → o.l.length ≠ 0 → ¬ foot g v a.block ∧ ¬ foot gr vr a.block) :
    Calls Try.prog 10 #[.pointer (some ⟨g, 0, none⟩), .pointer (some ⟨gr, 0, none⟩), .agg o.arr] w fun e w' => e = .returned (.bool true) ∧ DPost bx g v gr vr (stepN bx s o) w w' := by
  obtain ⟨nx, l⟩ := s
  obtain ⟨ask, a, b, A, cap, xs⟩ := o
  simp only [GOp.arr] at *
  have F0 : Fresh w (w.alloc (.cells #[.int .i64 ask, .int .i64 a, .int .i64 b, .slice A xs.length cap] 36)) := (Keep.refl _ _).alloc _
  have B0 := Blk.new w 36 #[.int .i64 ask, .int .i64 a, .int .i64 b, .slice A xs.length cap]
  have hSl := hS.lt
  have hRl := hR.lt
  have hap := apart hS hR
  have BOX : Hid (∀ {S : Nat → Prop} {W : World}, Keep S (w.alloc (.cells #[.int .i64 ask, .int .i64 a, .int .i64 b, .slice A xs.length cap] 36)) W → (∀ k, S k → k < w.heap.size) → Blk W w.heap.size 36 #[.int .i64 ask, .int .i64 a, .int .i64 b, .slice A xs.length cap]) := fun k hS => B0.keep k (fun h => by have := hS _ h; omega)
  have MK : Hid (∀ {w2 w3 : World} {s' : Int × List Pk} {v' vr' : Value}, SNet w2 g v' bx s'.1 s'.2 → Keep (foot g v) (w.alloc (.cells #[.int .i64 ask, .int .i64 a, .int .i64 b, .slice A xs.length cap] 36)) w2 → Later (w.alloc (.cells #[.int .i64 ask, .int .i64 a, .int .i64 b, .slice A xs.length cap] 36)) v v' → RNet w3 gr vr' bx s'.1 s'.2 → Keep (foot gr vr) w2 w3 → Later w2 vr vr' → DPost bx g v gr vr s' w w3) := fun a1 k1 l1 a2 k2 l2 => DPost.mk1 (s := (nx, l)) hS hR F0 a1 k1 l1 a2 k2 l2
  have RK : Hid (∀ {W : World}, Keep (foot g v) (w.alloc (.cells #[.int .i64 ask, .int .i64 a, .int .i64 b, .slice A xs.length cap] 36)) W → RNet W gr vr bx nx l) := fun k => (hR.fresh F0).kept k (fun h => hap gr h (.inl rfl)) (fun j hj hh => hap j hh (.inr hj))
  have SF := Lib.hid (hS.fresh F0)
  have XF := Lib.hid (ho.fresh F0)
  have cb := B0.cell
  by_cases h0 : ask = 0
  · have t0 : (ask == 0) = true := by simpa using h0
    cases hb : (boxB bx a && boxB bx b)
    · have e : stepN bx (nx, l) ⟨ask, a, b, A, cap, xs⟩ = (nx, l) := by unfold stepN; rw [if_pos h0, if_neg (by simp only; rw [hb]; simp)]
      rw [e]
      have C1 := Lib.hid (send_bad g v bx nx a b l A xs.length cap _ SF.out hb)
      have RC := Lib.hid (rsend_bad gr vr bx nx a b l A xs.length cap _ (hR.fresh F0) hb)
      have D : Hid (DPost bx g v gr vr (nx, l) w (w.alloc (.cells #[.int .i64 ask, .int .i64 a, .int .i64 b, .slice A xs.length cap] 36))) := Lib.hid ⟨⟨v, vr, ⟨SF.out, hR.fresh F0⟩, fun k hk => .inl hk, fun k hk => .inl hk⟩, F0.more (fun _ _ h => h.elim)⟩
      clear hS hR hG ho hA F0 B0 hap e h0 hb
      go_enter Try.func10, Try.ntmps10
      go_wp2_with (first
        | (go_at_call 17; (with_reducible refine C1.out.mono ?_); rintro e w1 ⟨rfl, rfl⟩)
        | (go_at_call 26; (with_reducible refine RC.out.mono ?_); rintro e w2 ⟨rfl, rfl⟩))
      go_ret
      exact ⟨rfl, D.out⟩
    · have e : stepN bx (nx, l) ⟨ask, a, b, A, cap, xs⟩ = (nx + xs.length, l ++ mk nx a b xs) := by unfold stepN; rw [if_pos h0, if_pos (by simpa using hb)]
      rw [e]
      have C1 := Lib.hid (send_ok g v bx nx a b l A cap xs _ SF.out hb XF.out (fun x hx hn => (hA x hx hn).1) (by omega) (by omega) hG.nx0 (by omega))
      have RC : Hid (∀ {W : World}, Keep (foot g v) (w.alloc (.cells #[.int .i64 ask, .int .i64 a, .int .i64 b, .slice A xs.length cap] 36)) W → Calls Try.prog 26 #[.pointer (some ⟨gr, 0, none⟩), .int .i64 a, .int .i64 b, .slice A xs.length cap] W (RSendP gr vr bx nx a b l xs W)) := fun {W} k =>
        rsend_ok gr vr bx nx a b l A cap xs W (RK.out k) hb (by
          by_cases hx0 : xs.length = 0
          · intro i x hx
            have := (List.getElem?_eq_some_iff.1 hx).1
            omega
          · exact XF.out.keep k (fun y hy => (hA y hy hx0).1)) (fun x hx hn => (hA x hx hn).2) (by omega) (by omega) hG.nx0 (by omega)
      clear hS hR hG ho hA F0 B0 hap e h0 hb
      go_enter Try.func10, Try.ntmps10
      go_wp2_with fail
      refine C1.out.mono ?_
      rintro e w1 ⟨rfl, v', a1, k1, l1⟩
      have b1 := BOX.out k1 hSl
      have cb1 := b1.cell
      have A1 := Lib.hid a1
      have K1 := Lib.hid k1
      have L1 := Lib.hid l1
      clear b1 a1 k1 l1 cb
      go_wp2_with fail
      refine (RC.out K1.out).mono ?_
      rintro e w2 ⟨rfl, vr', a2, k2, l2⟩
      have D := Lib.hid (MK.out (s' := (nx + xs.length, l ++ mk nx a b xs)) A1.out K1.out L1.out a2 k2 l2)
      clear a2 k2 l2
      go_wp2_with fail
      go_ret
      exact ⟨rfl, D.out⟩
  · have t0 : (ask == 0) = false := by simpa using h0
    by_cases h1 : ask = 1
    · have t1 : (ask == 1) = true := by simpa using h1
      have e : stepN bx (nx, l) ⟨ask, a, b, A, cap, xs⟩ = (nx, rm l a) := by unfold stepN; rw [if_neg h0, if_pos h1]
      rw [e]
      have C1 := Lib.hid ((take_any g v bx nx a l _ SF.out (by omega)).mono fun e w' h => TakeP.norm SF.out hG h)
      have RC : Hid (∀ {W : World}, Keep (foot g v) (w.alloc (.cells #[.int .i64 ask, .int .i64 a, .int .i64 b, .slice A xs.length cap] 36)) W → Calls Try.prog 27 #[.pointer (some ⟨gr, 0, none⟩), .int .i64 a] W (RTookN gr vr bx nx (byNo l a) (rm l a) W)) := fun {W} k =>
        (rtake_any gr vr bx nx a l W (RK.out k) (by omega)).mono fun e w' h => RTakeP.norm h
      clear hS hR hG ho hA F0 B0 hap e h0 h1
      go_enter Try.func10, Try.ntmps10
      go_wp2_with fail
      refine C1.out.mono ?_
      rintro e w1 ⟨p1, p2, p3, p4, p5, rfl, ho1, v', a1, k1, l1⟩
      have b1 := BOX.out k1 hSl
      have cb1 := b1.cell
      have lb1 := b1.lt
      have fP : Fresh w1 (w1.alloc (.cells #[.int .i64 p1, .int .i64 p2, .int .i64 p3, .int .i64 p4] 41)) := (Keep.refl _ _).alloc _
      have BP := Blk.new w1 41 #[.int .i64 p1, .int .i64 p2, .int .i64 p3, .int .i64 p4]
      have A1 := Lib.hid (a1.fresh fP)
      have K1 := Lib.hid (k1.alloc (.cells #[.int .i64 p1, .int .i64 p2, .int .i64 p3, .int .i64 p4] 41))
      have L1 := Lib.hid l1
      have O1 := Lib.hid ho1
      have P1 := Lib.hid BP
      clear b1 a1 k1 l1 cb ho1 fP BP
      go_wp2_with fail
      refine (RC.out K1.out).mono ?_
      rintro e w2 ⟨q1, q2, q3, q4, q5, rfl, ho2, vr', a2, k2, l2⟩
      obtain ⟨rfl, rfl, rfl, rfl, rfl⟩ := OutIs.one O1.out ho2
      have p2b := P1.out.keep k2 (fun h => by have := hRl _ h; omega)
      have cp2 := p2b.cell
      have lp2 := p2b.lt
      have D := Lib.hid (MK.out (s' := (nx, rm l a)) A1.out K1.out L1.out a2 k2 l2)
      clear a2 k2 l2 p2b cb1 ho2
      go_wp2_with (go_at_call 28; refine (packet_same _ _ _ _ _).mono ?_; rintro e w3 ⟨rfl, f3⟩)
      go_ret
      exact ⟨rfl, D.out.fresh ((Keep.refl _ _).alloc _) f3⟩
    · have t1 : (ask == 1) = false := by simpa using h1
      have e : stepN bx (nx, l) ⟨ask, a, b, A, cap, xs⟩ = (nx, left l (pickO bx l a b)) := by
        unfold stepN left
        rw [if_neg h0, if_neg h1]
        simp only
        cases pickO bx l a b <;> rfl
      rw [e]
      cases hb : boxB bx a
      · have e2 : pickO bx l a b = none := by unfold pickO; rw [if_neg (by simp [hb])]
        rw [e2]
        have C1 : Hid (Calls Try.prog 12 #[.pointer (some ⟨g, 0, none⟩), .int .i64 a, .int .i64 b] (w.alloc (.cells #[.int .i64 ask, .int .i64 a, .int .i64 b, .slice A xs.length cap] 36)) fun e w' => e = .returned (.tuple #[.agg #[.int .i64 0, .int .i64 0, .int .i64 0, .int .i64 0], .int .i64 1]) ∧ ∃ v', SNet w' g v' bx nx (left l none) ∧ Keep (foot g v) (w.alloc (.cells #[.int .i64 ask, .int .i64 a, .int .i64 b, .slice A xs.length cap] 36)) w' ∧ Later (w.alloc (.cells #[.int .i64 ask, .int .i64 a, .int .i64 b, .slice A xs.length cap] 36)) v v') :=
          Lib.hid ((pick_bad g v bx nx a b l _ SF.out hb).mono fun e w' ⟨h1, h2⟩ => ⟨h1, v, SF.out.fresh h2, h2.more (fun _ _ h => h.elim), fun k hk => .inl hk⟩)
        have RC : Hid (∀ {W : World}, Keep (foot g v) (w.alloc (.cells #[.int .i64 ask, .int .i64 a, .int .i64 b, .slice A xs.length cap] 36)) W → Calls Try.prog 29 #[.pointer (some ⟨gr, 0, none⟩), .int .i64 a, .int .i64 b] W fun e w' => e = .returned (.tuple #[.agg #[.int .i64 0, .int .i64 0, .int .i64 0, .int .i64 0], .int .i64 1]) ∧ ∃ v', RNet w' gr v' bx nx (left l none) ∧ Keep (foot gr vr) W w' ∧ Later W vr v') :=
          fun {W} k => (rpick_bad gr vr bx nx a b l W (RK.out k) hb).mono fun e w' ⟨h1, h2⟩ => ⟨h1, vr, (RK.out k).fresh h2, h2.more (fun _ _ h => h.elim), fun k hk => .inl hk⟩
        clear hS hR hG ho hA F0 B0 hap e h0 h1 hb e2
        go_enter Try.func10, Try.ntmps10
        go_wp2_with fail
        refine C1.out.mono ?_
        rintro e w1 ⟨rfl, v', a1, k1, l1⟩
        have b1 := BOX.out k1 hSl
        have cb1 := b1.cell
        have lb1 := b1.lt
        have fP : Fresh w1 (w1.alloc (.cells #[.int .i64 0, .int .i64 0, .int .i64 0, .int .i64 0] 41)) := (Keep.refl _ _).alloc _
        have BP := Blk.new w1 41 #[.int .i64 0, .int .i64 0, .int .i64 0, .int .i64 0]
        have A1 := Lib.hid (a1.fresh fP)
        have K1 := Lib.hid (k1.alloc (.cells #[.int .i64 0, .int .i64 0, .int .i64 0, .int .i64 0] 41))
        have L1 := Lib.hid l1
        have P1 := Lib.hid BP
        clear b1 a1 k1 l1 cb fP BP
        go_wp2_with fail
        refine (RC.out K1.out).mono ?_
        rintro e w2 ⟨rfl, vr', a2, k2, l2⟩
        have p2b := P1.out.keep k2 (fun h => by have := hRl _ h; omega)
        have cp2 := p2b.cell
        have lp2 := p2b.lt
        have D := Lib.hid (MK.out (s' := (nx, left l none)) A1.out K1.out L1.out a2 k2 l2)
        clear a2 k2 l2 p2b cb1
        go_wp2_with (go_at_call 28; refine (packet_same _ _ _ _ _).mono ?_; rintro e w3 ⟨rfl, f3⟩)
        go_ret
        exact ⟨rfl, D.out.fresh ((Keep.refl _ _).alloc _) f3⟩
      · have C1 := Lib.hid ((pick_ok g v bx nx a b l _ SF.out hb (by omega)).mono fun e w' h => PickP.norm SF.out hG hb h)
        have RC : Hid (∀ {W : World}, Keep (foot g v) (w.alloc (.cells #[.int .i64 ask, .int .i64 a, .int .i64 b, .slice A xs.length cap] 36)) W → Calls Try.prog 29 #[.pointer (some ⟨gr, 0, none⟩), .int .i64 a, .int .i64 b] W (RTookN gr vr bx nx (pickO bx l a b) (left l (pickO bx l a b)) W)) := fun {W} k =>
          (rpick_ok gr vr bx nx a b l W (RK.out k) hb (by omega)).mono fun e w' h => RPickP.norm (RK.out k) hG hb h
        obtain ⟨oo, hoo⟩ : ∃ oo, pickO bx l a b = oo := ⟨_, rfl⟩
        rw [hoo] at C1 RC ⊢
        clear hS hR hG ho hA F0 B0 hap e h0 h1 hb hoo
        go_enter Try.func10, Try.ntmps10
        go_wp2_with fail
        refine C1.out.mono ?_
        rintro e w1 ⟨p1, p2, p3, p4, p5, rfl, ho1, v', a1, k1, l1⟩
        have b1 := BOX.out k1 hSl
        have cb1 := b1.cell
        have lb1 := b1.lt
        have fP : Fresh w1 (w1.alloc (.cells #[.int .i64 p1, .int .i64 p2, .int .i64 p3, .int .i64 p4] 41)) := (Keep.refl _ _).alloc _
        have BP := Blk.new w1 41 #[.int .i64 p1, .int .i64 p2, .int .i64 p3, .int .i64 p4]
        have A1 := Lib.hid (a1.fresh fP)
        have K1 := Lib.hid (k1.alloc (.cells #[.int .i64 p1, .int .i64 p2, .int .i64 p3, .int .i64 p4] 41))
        have L1 := Lib.hid l1
        have O1 := Lib.hid ho1
        have P1 := Lib.hid BP
        clear b1 a1 k1 l1 cb ho1 fP BP
        go_wp2_with fail
        refine (RC.out K1.out).mono ?_
        rintro e w2 ⟨q1, q2, q3, q4, q5, rfl, ho2, vr', a2, k2, l2⟩
        obtain ⟨rfl, rfl, rfl, rfl, rfl⟩ := OutIs.one O1.out ho2
        have p2b := P1.out.keep k2 (fun h => by have := hRl _ h; omega)
        have cp2 := p2b.cell
        have lp2 := p2b.lt
        have D := Lib.hid (MK.out (s' := (nx, left l oo)) A1.out K1.out L1.out a2 k2 l2)
        clear a2 k2 l2 p2b cb1 ho2
        go_wp2_with (go_at_call 28; refine (packet_same _ _ _ _ _).mono ?_; rintro e w3 ⟨rfl, f3⟩)
        go_ret
        exact ⟨rfl, D.out.fresh ((Keep.refl _ _).alloc _) f3⟩
end Go.Proofs.Ytgakggkffapnlaa
