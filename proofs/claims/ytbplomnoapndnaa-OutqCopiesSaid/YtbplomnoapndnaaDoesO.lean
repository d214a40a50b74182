/-
  The law's does: a call with both.
-/
import Derived.Test.YtbplomnoapndnaaRefS
import Derived.Test.YtbplomnoapndnaaDropsP
namespace Go.Proofs.Ytbplomnoapndnaa
open Go.RowKit
attribute [local go_sem ↓] Go.wp_at_zero Go.wp_at_succ

/-- the queue, and the document's, of a call's own -/
structure DQ (w : World) (gq : Nat) (v : Value) (Q : List Rec) (gr : Nat) (v1 v2 : Value) (R : List Rec) (W : World) : Prop where
  f : Fresh w W
  q : OQ W gq v Q
  r : RQ W gr v1 v2 R
  nq : ∀ k, foot gq v k → w.heap.size ≤ k
  nr : ∀ k, rfoot gr v1 v2 k → w.heap.size ≤ k
  s : Sm R Q
theorem Blk.ty {W : World} {g : Nat} {t t' : TypeId} {cs cs' : Array Value} (h : Blk W g t cs) (h' : Blk W g t' cs') : t = t' := by
  unfold Blk at h h'
  rw [h] at h'
  injection h' with h'
  injection h'
section
variable {w W W' : World} {gq gr : Nat} {v v1 v2 v' v1' v2' : Value} {Q R Q' R' : List Rec}
theorem dq_dis (q : OQ W gq v Q) (r : RQ W gr v1 v2 R) (k : Nat) (h1 : foot gq v k) (h2 : rfoot gr v1 v2 k) : False := by
  rcases h1 with rfl | h1
  · rcases h2 with rfl | h2 | h2
    · exact absurd (Blk.ty q.blk r.blk) (by decide)
    · exact r.o1.ne_blk q.blk (by decide) h2
    · exact r.o2.ne_blk q.blk (by decide) h2
  · rcases h2 with rfl | h2 | h2
    · exact q.own.ne_blk r.blk (by decide) h1
    · exact q.own.ne_own r.o1 (by decide) k h1 h2
    · exact q.own.ne_own r.o2 (by decide) k h1 h2
theorem DQ.fresh (h : DQ w gq v Q gr v1 v2 R W) (f : Fresh W W') : DQ w gq v Q gr v1 v2 R W' := ⟨h.f.step f (fun _ _ h => h), h.q.fresh f, h.r.fresh f, h.nq, h.nr, h.s⟩
/-- both turned, one behind the other -/
structure DH (w : World) (gq : Nat) (v : Value) (Q : List Rec) (gr : Nat) (v1 v2 : Value) (R : List Rec) (W : World) : Prop where
  f : Fresh w W
  q : OQ W gq v Q
  r : RQ W gr v1 v2 R
  nq : ∀ k, foot gq v k → w.heap.size ≤ k
  nr : ∀ k, rfoot gr v1 v2 k → w.heap.size ≤ k
theorem DQ.half (h : DQ w gq v Q gr v1 v2 R W) : DH w gq v Q gr v1 v2 R W := ⟨h.f, h.q, h.r, h.nq, h.nr⟩
theorem DH.full (h : DH w gq v Q gr v1 v2 R W) (s : Sm R Q) : DQ w gq v Q gr v1 v2 R W := ⟨h.f, h.q, h.r, h.nq, h.nr, s⟩
theorem DH.fresh (h : DH w gq v Q gr v1 v2 R W) (f : Fresh W W') : DH w gq v Q gr v1 v2 R W' := ⟨h.f.step f (fun _ _ h => h), h.q.fresh f, h.r.fresh f, h.nq, h.nr⟩
theorem DH.turnQ (h : DH w gq v Q gr v1 v2 R W) (q : OQ W' gq v' Q') (t : Turn W W' gq v v') : DH w gq v' Q' gr v1 v2 R W' :=
  ⟨h.f.step t.keep (fun k hk hf => by have := h.nq k hf; omega), q, h.r.kept t.keep (fun i hi hf => dq_dis h.q h.r i hf hi), fun k hk => by
    rcases t.later k hk with h1 | h1
    · exact h.nq k h1
    · have := h.f.size; omega, h.nr⟩
theorem DH.turnR (h : DH w gq v Q gr v1 v2 R W) (r : RQ W' gr v1' v2' R') (t : RTurn W W' gr v1 v2 v1' v2') : DH w gq v Q gr v1' v2' R' W' :=
  ⟨h.f.step t.keep (fun k hk hf => by have := h.nr k hf; omega), h.q.kept t.keep (fun i hi hf => dq_dis h.q h.r i hi hf), r, h.nq, fun k hk => by
    rcases t.later k hk with h1 | h1
    · exact h.nr k h1
    · have := h.f.size; omega⟩
/-- messages of the call's own are not turned -/
theorem DH.msgQ {u : Value} {n : Nat} {xs : List Value} (h : DH w gq v Q gr v1 v2 R W) (t : Turn W W' gq v v') (o : OwnS W 46 8 u n xs) : OwnS W' 46 8 u n xs := h.q.own_turn t o (by decide) (by decide)
theorem DH.msgR {u : Value} {n : Nat} {xs : List Value} (h : DH w gq v Q gr v1 v2 R W) (t : RTurn W W' gr v1 v2 v1' v2') (o : OwnS W 46 8 u n xs) : OwnS W' 46 8 u n xs :=
  o.kept t.keep (fun k hk hf => by
    rcases hf with rfl | hf | hf
    · exact o.ne_blk h.r.blk (by decide) hk
    · exact o.ne_own h.r.o1 (by decide) k hk hf
    · exact o.ne_own h.r.o2 (by decide) k hk hf)
end
def DoesP (w : World) (gq gr n : Nat) (e : Ending) (w' : World) : Prop :=
  e = .returned (.bool true) ∧ ∃ v Q v1 v2 R, DQ w gq v Q gr v1 v2 R w' ∧ Q.length ≤ n
theorem DoesP.of {w w' : World} {gq gr n : Nat} {v v1 v2 : Value} {Q R : List Rec} (h : DQ w gq v Q gr v1 v2 R w') (hn : Q.length ≤ n) : DoesP w gq gr n (.returned (.bool true)) w' := ⟨rfl, v, Q, v1, v2, R, h, hn⟩
theorem DH.blkR {w W W' : World} {gq gr b : Nat} {v v1 v2 v1' v2' : Value} {Q R : List Rec} {t : TypeId} {cs : Array Value} (h : DH w gq v Q gr v1 v2 R W) (tt : RTurn W W' gr v1 v2 v1' v2') (hb : Blk W b t cs) (h1 : 59 ≠ t) (h2 : 44 ≠ t) (h3 : 4 ≠ t) : Blk W' b t cs :=
  hb.keep tt.keep (fun hf => by
    rcases hf with rfl | hf | hf
    · exact absurd (Blk.ty h.r.blk hb) h1
    · exact h.r.o1.ne_blk hb h2 hf
    · exact h.r.o2.ne_blk hb h3 hf)
set_option maxHeartbeats 4000000 in
set_option maxRecDepth 100000 in
theorem does_any (w : World) (gq : Nat) (v : Value) (Q : List Rec) (gr : Nat) (v1 v2 : Value) (R : List Rec) (k a : Int) (u : Value) (l : List Ev) (W : World) (h : DQ w gq v Q gr v1 v2 R W) (hu : EvAt w u l) (hcu : ∀ A c, u = .slice A l.length c → l.length ≤ c) (hl : l.length ≤ 1000) (hQ : Q.length ≤ 40000) :
    Calls Try.prog 27 #[.pointer (some ⟨gq, 0, none⟩), .pointer (some ⟨gr, 0, none⟩), .agg #[.int .i64 k, .int .i64 a, u]] W (DoesP w gq gr (Q.length + l.length)) := by
  have HU := Lib.hid hu
  have HC := Lib.hid hcu
  have HO := Lib.hid (fun (W : World) (f : Fresh w W) => one_any k a u l W (hu.fresh f) (by omega))
  obtain ⟨A, c, rfl, hv⟩ := hu
  have hR : R.length ≤ 40000 := by rw [h.s.len]; exact hQ
  have HS := Lib.hid h.s
  have H0 := Lib.hid (h.half.fresh ((Keep.refl _ W).alloc (.cells #[.int .i64 k, .int .i64 a, .slice A l.length c] 30)))
  have B0 := Lib.hid (Blk.new W 30 #[.int .i64 k, .int .i64 a, .slice A l.length c])
  clear h hv hcu
  by_cases h0 : k = 0
  · subst h0
    have hqs := sentQ_len a l Q
    have hms := HS.out.sent a l
    have HW := Lib.hid (HS.out.wrong a l)
    have hml : (sentM a l Q).length ≤ Q.length + l.length := by
      unfold sentM
      split
      · unfold sentFrom
        have h1 := (steps_le (esort l) (stay (sentP a (esort l)) Q, antis (sentP a (esort l)) Q)).2
        have h2 := antis_le (sentP a (esort l)) Q
        rw [(esort_perm l).length_eq] at h1
        simp only at h1
        omega
      · simp
    go_enter Try.func27, Try.ntmps27
    go_wp2_with fail
    refine (sent_any gq v _ Q a l _ H0.out.q (HU.out.fresh H0.out.f) hl (by omega)).mono ?_
    rintro e w1 ⟨va, v', rfl, o1, q1, t1, n1⟩
    have H1 := Lib.hid (H0.out.turnQ q1 t1)
    have B1 := Lib.hid (H0.out.q.blk_turn t1 B0.out (by decide) (by decide))
    obtain ⟨A1, c1, rfl, _, _⟩ := o1.shape
    have O1 := Lib.hid o1
    clear o1 q1 t1 n1 H0 B0
    have cb := B1.out.cell
    have lb := B1.out.lt
    go_wp2_with fail
    refine (rsent_any gr v1 v2 a _ l R _ H1.out.r (HU.out.fresh H1.out.f) HC.out hl (by omega)).mono ?_
    rintro e w2 ⟨vb, x1, x2, rfl, o2, r2, t2, n2⟩
    have H2 := Lib.hid (H1.out.turnR r2 t2)
    have O12 := Lib.hid (H1.out.msgR t2 O1.out)
    rw [hms.2] at o2
    obtain ⟨A2, c2, rfl, _, _⟩ := o2.shape
    have O2 := Lib.hid o2
    have HM := Lib.hid hms
    rw [HW.out]
    clear o2 r2 t2 n2 H1 B1 O1 cb lb hms
    go_wp2_with fail
    refine (msgs_same _ _ (sentM a l Q) _ (OwnS.msgs O12.out) (OwnS.msgs O2.out) (by omega)).mono ?_
    rintro e w3 ⟨rfl, f3⟩
    have H3 := Lib.hid ((H2.out.fresh f3).full HM.out.1)
    clear f3
    go_wp2_with fail
    go_ret
    exact DoesP.of H3.out hqs
  · have t0 : (k == 0) = false := by simp [h0]
    by_cases h1 : k = 1
    · subst h1
      have hal := antis_le (backP a) Q
      have hsl := stay_le (backP a) Q
      have fD := Lib.hid (show Fresh (W.alloc (.cells #[.int .i64 1, .int .i64 a, .slice A l.length c] 30)) (W.alloc (.cells #[.int .i64 1, .int .i64 a, .slice A l.length c] 30)).drew from (Keep.refl _ _).drew)
      have HD := Lib.hid (H0.out.fresh fD.out)
      have BD := Lib.hid (fD.out.blk_ B0.out)
      have C1 := Lib.hid (back_any gq v Q a _ HD.out.q (by omega))
      have C2 := Lib.hid (fun (W' : World) {v' : Value} {Q' : List Rec} (h : DH w gq v' Q' gr v1 v2 R W') => raway_any gr v1 v2 0 a R _ h.r (by omega))
      have C3 := Lib.hid (fun (W' : World) (x y : Value) (h1 : OwnS W' 46 8 x (antis (backP a) Q).length (rcells (antis (backP a) Q))) (h2 : OwnS W' 46 8 y (antis (backP a) Q).length (rcells (antis (backP a) Q))) => msgs_same _ _ (antis (backP a) Q) _ (OwnS.msgs h1) (OwnS.msgs h2) (by omega))
      have e1 := Lib.hid (HS.out.gone (away_0 a))
      have e2 := Lib.hid (HS.out.gone_len (away_0 a))
      have SK := Lib.hid (HS.out.keep (away_0 a))
      unfold TakeP at C1
      unfold RAwayP at C2
      have C2 : Hid (∀ (W' : World) {v' : Value} {Q' : List Rec} (_ : DH w gq v' Q' gr v1 v2 R W'), Calls Try.prog 50 #[.pointer (some ⟨gr, 0, none⟩), .int .i64 0, .int .i64 a] W' fun e w' => ∃ A2 c2 x1 x2, e = .returned (.slice A2 (antis (backP a) Q).length c2) ∧ OwnS w' 46 8 (.slice A2 (antis (backP a) Q).length c2) (antis (backP a) Q).length (rcells (antis (backP a) Q)) ∧ RQ w' gr x1 x2 (keepR (awayP 0 a) R) ∧ RTurn W' w' gr v1 v2 x1 x2) := Lib.hid fun W' {v' : Value} {Q' : List Rec} h => (C2.out W' h).mono fun e w' ⟨vb, s, x1, x2, h1, hs, hp, o2, r2, t2, _⟩ => by
        have hs := ssort_is hs hp
        subst hs
        rw [e1.out, e2.out] at o2
        obtain ⟨A2, c2, rfl, _, _⟩ := o2.shape
        exact ⟨A2, c2, x1, x2, h1, o2, r2, t2⟩
      obtain ⟨M, hM⟩ : ∃ M, antis (backP a) Q = M := ⟨_, rfl⟩
      rw [hM] at C1 C2 C3
      have kX := fun (W' : World) (h : Blk W' W.heap.size 30 #[.int .i64 1, .int .i64 a, .slice A l.length c]) (i : Nat) => h.cell i
      have cB := B0.out.cell
      have lB := B0.out.lt
      clear hM e1 e2
      go_enter Try.func27, Try.ntmps27
      go_wp2_with fail
      go_region_held3 (fun W' => Blk W' W.heap.size 30 #[.int .i64 1, .int .i64 a, .slice A l.length c])
        (first
          | exact BD.out
          | exact B1.out
          | exact B2.out
          | exact B3.out)
        (first
          | (go_at_call 19; (with_reducible refine C1.out.mono ?_); rintro e w1 ⟨va, v', rfl, o1, q1, t1, n1⟩; obtain ⟨A1, c1, rfl, _, _⟩ := o1.shape; have H1 := Lib.hid (HD.out.turnQ q1 t1); have B1 := Lib.hid (HD.out.q.blk_turn t1 BD.out (by decide) (by decide)); have O1 := Lib.hid o1; clear o1 q1 t1 n1)
          | (go_at_call 50; (with_reducible refine (C2.out _ H1.out).mono ?_); rintro e w2 ⟨A2, c2, x1, x2, rfl, o2, r2, t2⟩; have B2 := Lib.hid (H1.out.blkR t2 B1.out (by decide) (by decide) (by decide)); have O12 := Lib.hid (H1.out.msgR t2 O1.out); have H2 := Lib.hid ((H1.out.turnR r2 t2).full SK.out); have O2 := Lib.hid o2; clear o2 r2 t2)
          | (go_at_call 26; (with_reducible refine (C3.out _ _ _ O12.out O2.out).mono ?_); rintro e w3 ⟨rfl, f3⟩; have H3 := Lib.hid (H2.out.fresh f3); have B3 := Lib.hid (f3.blk_ B2.out); clear f3))
      go_wp2_with fail
      go_ret
      exact DoesP.of H3.out (by omega)
    · have t1 : (k == 1) = false := by simp [h1]
      by_cases h2 : k = 2
      · subst h2
        have hdl : (doubt a Q).length = Q.length := by unfold doubt; rw [List.length_map]
        go_enter Try.func27, Try.ntmps27
        go_wp2_with fail
        refine (rdoubt_any gr v1 v2 a R _ H0.out.r (by omega)).mono ?_
        rintro e w1 ⟨rfl, r1, t1⟩
        have H1 := Lib.hid (H0.out.turnR r1 t1)
        have B1 := Lib.hid (H0.out.blkR t1 B0.out (by decide) (by decide) (by decide))
        clear r1 t1 H0 B0
        have cb := B1.out.cell
        have lb := B1.out.lt
        go_wp2_with fail
        refine (backL_any gq v Q a _ H1.out.q (by omega)).mono ?_
        rintro e w2 ⟨rfl, q2, t2⟩
        have H2 := Lib.hid ((H1.out.turnQ q2 t2).full (HS.out.doubt a))
        clear q2 t2 H1 B1 cb lb
        go_wp2_with fail
        go_ret
        exact DoesP.of H2.out (by omega)
      · have t2 : (k == 2) = false := by simp [h2]
        by_cases h3 : k = 3
        · subst h3
          have hal := antis_le (flushP a) Q
          have hsl := stay_le (flushP a) Q
          have fD := Lib.hid (show Fresh (W.alloc (.cells #[.int .i64 3, .int .i64 a, .slice A l.length c] 30)) (W.alloc (.cells #[.int .i64 3, .int .i64 a, .slice A l.length c] 30)).drew from (Keep.refl _ _).drew)
          have HD := Lib.hid (H0.out.fresh fD.out)
          have BD := Lib.hid (fD.out.blk_ B0.out)
          have C1 := Lib.hid (flush_any gq v Q a _ HD.out.q (by omega))
          have C2 := Lib.hid (fun (W' : World) {v' : Value} {Q' : List Rec} (h : DH w gq v' Q' gr v1 v2 R W') => raway_any gr v1 v2 1 a R _ h.r (by omega))
          have C3 := Lib.hid (fun (W' : World) (x y : Value) (h1 : OwnS W' 46 8 x (antis (flushP a) Q).length (rcells (antis (flushP a) Q))) (h2 : OwnS W' 46 8 y (antis (flushP a) Q).length (rcells (antis (flushP a) Q))) => msgs_same _ _ (antis (flushP a) Q) _ (OwnS.msgs h1) (OwnS.msgs h2) (by omega))
          have e1 := Lib.hid (HS.out.gone (away_1 a))
          have e2 := Lib.hid (HS.out.gone_len (away_1 a))
          have SK := Lib.hid (HS.out.keep (away_1 a))
          unfold TakeP at C1
          unfold RAwayP at C2
          have C2 : Hid (∀ (W' : World) {v' : Value} {Q' : List Rec} (_ : DH w gq v' Q' gr v1 v2 R W'), Calls Try.prog 50 #[.pointer (some ⟨gr, 0, none⟩), .int .i64 1, .int .i64 a] W' fun e w' => ∃ A2 c2 x1 x2, e = .returned (.slice A2 (antis (flushP a) Q).length c2) ∧ OwnS w' 46 8 (.slice A2 (antis (flushP a) Q).length c2) (antis (flushP a) Q).length (rcells (antis (flushP a) Q)) ∧ RQ w' gr x1 x2 (keepR (awayP 1 a) R) ∧ RTurn W' w' gr v1 v2 x1 x2) := Lib.hid fun W' {v' : Value} {Q' : List Rec} h => (C2.out W' h).mono fun e w' ⟨vb, s, x1, x2, h1, hs, hp, o2, r2, t2, _⟩ => by
            have hs := ssort_is hs hp
            subst hs
            rw [e1.out, e2.out] at o2
            obtain ⟨A2, c2, rfl, _, _⟩ := o2.shape
            exact ⟨A2, c2, x1, x2, h1, o2, r2, t2⟩
          obtain ⟨M, hM⟩ : ∃ M, antis (flushP a) Q = M := ⟨_, rfl⟩
          rw [hM] at C1 C2 C3
          have kX := fun (W' : World) (h : Blk W' W.heap.size 30 #[.int .i64 3, .int .i64 a, .slice A l.length c]) (i : Nat) => h.cell i
          have cB := B0.out.cell
          have lB := B0.out.lt
          clear hM e1 e2
          go_enter Try.func27, Try.ntmps27
          go_wp2_with fail
          go_region_held3 (fun W' => Blk W' W.heap.size 30 #[.int .i64 3, .int .i64 a, .slice A l.length c])
            (first
              | exact BD.out
              | exact B1.out
              | exact B2.out
              | exact B3.out)
            (first
              | (go_at_call 18; (with_reducible refine C1.out.mono ?_); rintro e w1 ⟨va, v', rfl, o1, q1, t1, n1⟩; obtain ⟨A1, c1, rfl, _, _⟩ := o1.shape; have H1 := Lib.hid (HD.out.turnQ q1 t1); have B1 := Lib.hid (HD.out.q.blk_turn t1 BD.out (by decide) (by decide)); have O1 := Lib.hid o1; clear o1 q1 t1 n1)
              | (go_at_call 50; (with_reducible refine (C2.out _ H1.out).mono ?_); rintro e w2 ⟨A2, c2, x1, x2, rfl, o2, r2, t2⟩; have B2 := Lib.hid (H1.out.blkR t2 B1.out (by decide) (by decide) (by decide)); have O12 := Lib.hid (H1.out.msgR t2 O1.out); have H2 := Lib.hid ((H1.out.turnR r2 t2).full SK.out); have O2 := Lib.hid o2; clear o2 r2 t2)
              | (go_at_call 26; (with_reducible refine (C3.out _ _ _ O12.out O2.out).mono ?_); rintro e w3 ⟨rfl, f3⟩; have H3 := Lib.hid (H2.out.fresh f3); have B3 := Lib.hid (f3.blk_ B2.out); clear f3))
          go_wp2_with fail
          go_ret
          exact DoesP.of H3.out (by omega)
        · have t3 : (k == 3) = false := by simp [h3]
          by_cases h4 : k = 4
          · subst h4
            have hsl := stay_le (dropP a) Q
            have fD := Lib.hid (show Fresh (W.alloc (.cells #[.int .i64 4, .int .i64 a, .slice A l.length c] 30)) (W.alloc (.cells #[.int .i64 4, .int .i64 a, .slice A l.length c] 30)).drew from (Keep.refl _ _).drew)
            have HD := Lib.hid (H0.out.fresh fD.out)
            have BD := Lib.hid (fD.out.blk_ B0.out)
            have C1 := Lib.hid (dropq_any gq v Q a _ HD.out.q (by omega))
            have C2 := Lib.hid (fun (W' : World) {v' : Value} {Q' : List Rec} (h : DH w gq v' Q' gr v1 v2 R W') => raway_any gr v1 v2 2 a R _ h.r (by omega))
            have e2 := Lib.hid (HS.out.gone_len (away_2 a))
            have SK := Lib.hid (HS.out.keep (away_2 a))
            unfold RAwayP at C2
            have C2 : Hid (∀ (W' : World) {v' : Value} {Q' : List Rec} (_ : DH w gq v' Q' gr v1 v2 R W'), Calls Try.prog 50 #[.pointer (some ⟨gr, 0, none⟩), .int .i64 2, .int .i64 a] W' fun e w' => ∃ A2 c2 x1 x2, e = .returned (.slice A2 (antis (dropP a) Q).length c2) ∧ RQ w' gr x1 x2 (keepR (awayP 2 a) R) ∧ RTurn W' w' gr v1 v2 x1 x2) := Lib.hid fun W' {v' : Value} {Q' : List Rec} h => (C2.out W' h).mono fun e w' ⟨vb, s, x1, x2, h1, hs, hp, o2, r2, t2, _⟩ => by
              have hs := ssort_is hs hp
              subst hs
              rw [e2.out] at o2
              obtain ⟨A2, c2, rfl, _, _⟩ := o2.shape
              exact ⟨A2, c2, x1, x2, h1, r2, t2⟩
            obtain ⟨N, hN⟩ : ∃ N, (antis (dropP a) Q).length = N := ⟨_, rfl⟩
            rw [hN] at C1 C2
            have kX := fun (W' : World) (h : Blk W' W.heap.size 30 #[.int .i64 4, .int .i64 a, .slice A l.length c]) (i : Nat) => h.cell i
            have cB := B0.out.cell
            have lB := B0.out.lt
            clear hN e2
            go_enter Try.func27, Try.ntmps27
            go_wp2_with fail
            go_region_held3 (fun W' => Blk W' W.heap.size 30 #[.int .i64 4, .int .i64 a, .slice A l.length c])
              (first
                | exact BD.out
                | exact B1.out
                | exact B2.out)
              (first
                | (go_at_call 23; (with_reducible refine C1.out.mono ?_); rintro e w1 ⟨rfl, v', q1, t1⟩; have H1 := Lib.hid (HD.out.turnQ q1 t1); have B1 := Lib.hid (HD.out.q.blk_turn t1 BD.out (by decide) (by decide)); clear q1 t1)
                | (go_at_call 50; (with_reducible refine (C2.out _ H1.out).mono ?_); rintro e w2 ⟨A2, c2, x1, x2, rfl, r2, t2⟩; have B2 := Lib.hid (H1.out.blkR t2 B1.out (by decide) (by decide) (by decide)); have H2 := Lib.hid ((H1.out.turnR r2 t2).full SK.out); clear r2 t2))
            go_wp2_with fail
            go_ret
            exact DoesP.of H2.out (by omega)
          · have t4 : (k == 4) = false := by simp [h4]
            have fD := Lib.hid (show Fresh (W.alloc (.cells #[.int .i64 k, .int .i64 a, .slice A l.length c] 30)) (W.alloc (.cells #[.int .i64 k, .int .i64 a, .slice A l.length c] 30)).drew from (Keep.refl _ _).drew)
            have HD := Lib.hid (H0.out.fresh fD.out)
            have BD := Lib.hid (fD.out.blk_ B0.out)
            obtain ⟨x, hx⟩ : ∃ x, oneE l = x := ⟨_, rfl⟩
            rw [hx] at HO
            unfold Ev.val at HO
            have C1 := Lib.hid (fun (W' : World) (h : DH w gq v Q gr v1 v2 R W') => return_any gq v Q x _ h.q (by omega))
            have C2 := Lib.hid (fun (W' : World) {v' : Value} {Q' : List Rec} (h : DH w gq v' Q' gr v1 v2 R W') => rreturn_any gr v1 v2 x R _ h.r (by omega))
            have e1 := HS.out.ret_has x
            have SK := Lib.hid (HS.out.ret x)
            have hle : (if rhas Q x = true then rrem Q x else Q).length ≤ Q.length := by
              split
              · rename_i hh
                rw [rrem_length hh]
                have := rhas_lt hh
                omega
              · exact Nat.le_refl _
            unfold Go.Proofs.Ytbplomnoapndnaa.RetP at C1
            unfold RRetP at C2
            rw [e1] at C2
            unfold Ev.val at C1 C2
            obtain ⟨QX, hQX⟩ : ∃ QX, (if rhas Q x = true then rrem Q x else Q) = QX := ⟨_, rfl⟩
            obtain ⟨B, hB⟩ : ∃ B, rhas Q x = B := ⟨_, rfl⟩
            rw [hQX] at C1 SK hle
            rw [hB] at C1 C2
            have kX := fun (W' : World) (h : Blk W' W.heap.size 30 #[.int .i64 k, .int .i64 a, .slice A l.length c]) (i : Nat) => h.cell i
            have cB := B0.out.cell
            have lB := B0.out.lt
            clear h0 h1 h2 h3 h4 hx e1 hQX hB
            go_enter Try.func27, Try.ntmps27
            go_wp2_with fail
            go_region_held3 (fun W' => Blk W' W.heap.size 30 #[.int .i64 k, .int .i64 a, .slice A l.length c])
              (first
                | exact BD.out
                | exact B1.out
                | exact B2.out
                | exact B3.out
                | exact B4.out)
              (first
                | (go_at_call 30; (with_reducible refine (HO.out _ HD.out.f).mono ?_); rintro e w1 ⟨rfl, f1⟩; have H1 := Lib.hid (HD.out.fresh f1); have B1 := Lib.hid (f1.blk_ BD.out); clear f1)
                | (go_at_call 25; (with_reducible refine (C1.out _ H1.out).mono ?_); rintro e w2 ⟨rfl, v', q2, t2⟩; have H2 := Lib.hid (H1.out.turnQ q2 t2); have B2 := Lib.hid (H1.out.q.blk_turn t2 B1.out (by decide) (by decide)); clear q2 t2)
                | (go_at_call 30; (with_reducible refine (HO.out _ H2.out.f).mono ?_); rintro e w3 ⟨rfl, f3⟩; have H3 := Lib.hid (H2.out.fresh f3); have B3 := Lib.hid (f3.blk_ B2.out); clear f3)
                | (go_at_call 52; (with_reducible refine (C2.out _ H3.out).mono ?_); rintro e w4 ⟨x1, x2, rfl, r4, t4'⟩; have B4 := Lib.hid (H3.out.blkR t4' B3.out (by decide) (by decide) (by decide)); have H4 := Lib.hid ((H3.out.turnR r4 t4').full SK.out); clear r4 t4'))
            have H5 := Lib.hid H4.out
            cases B
            · go_wp2_with fail
              go_ret
              exact DoesP.of H5.out (by omega)
            · go_wp2_with fail
              go_ret
              exact DoesP.of H5.out (by omega)
end Go.Proofs.Ytbplomnoapndnaa
