/-
  The laws' calls: answers.
-/
import Derived.Test.YtbplomnoapndnaaNilF
namespace Go.Proofs.Ytbplomnoapndnaa
open Go.RowKit
attribute [local go_sem ↓] Go.wp_at_zero Go.wp_at_succ

def ansQ (k a : Int) (l : List Ev) (q : List Rec) : List Rec := if k = 0 then sentQ a l q else if k = 1 then stay (backP a) q else if k = 2 then doubt a q else if k = 3 then stay (flushP a) q else q
def ansM (k a : Int) (l : List Ev) (q : List Rec) : List Msg := if k = 0 then sentM a l q else if k = 1 then antis (backP a) q else if k = 2 then [] else if k = 3 then antis (flushP a) q else []
def AnsP (g : Nat) (v : Value) (k a : Int) (l : List Ev) (q : List Rec) (w : World) (e : Ending) (w' : World) : Prop :=
  ∃ va v', e = .returned va ∧ OwnS w' 46 8 va (ansM k a l q).length (rcells (ansM k a l q)) ∧ OQ w' g v' (ansQ k a l q) ∧ Turn w w' g v v' ∧ ∀ i, va.ownBlock = some i → w.heap.size ≤ i
theorem AnsP.of {g : Nat} {v : Value} {k a : Int} {l : List Ev} {q : List Rec} {w W w' : World} {va v' : Value} {M : List Msg} {Q : List Rec} (f : Fresh w W) (hM : ansM k a l q = M) (hQ : ansQ k a l q = Q) (o : OwnS w' 46 8 va M.length (rcells M)) (h : OQ w' g v' Q) (t : Turn W w' g v v') (n : ∀ i, va.ownBlock = some i → W.heap.size ≤ i) : AnsP g v k a l q w (.returned va) w' := by
  subst hM hQ
  exact ⟨va, v', rfl, o, h, Turn.after f t, fun i hi => Nat.le_trans f.size (n i hi)⟩
set_option maxHeartbeats 2000000 in
theorem answers_any (g : Nat) (v : Value) (k a : Int) (u : Value) (l : List Ev) (q : List Rec) (w : World) (h : OQ w g v q) (hu : EvAt w u l) (hl : l.length ≤ 1000) (hq : q.length ≤ 50000) :
    Calls Try.prog 14 #[.pointer (some ⟨g, 0, none⟩), .agg #[.int .i64 k, .int .i64 a, u]] w (AnsP g v k a l q w) := by
  have hv := hu
  obtain ⟨A, c, rfl, _⟩ := hu
  have F0 : Fresh w (w.alloc (.cells #[.int .i64 k, .int .i64 a, .slice A l.length c] 30)) := (Keep.refl _ w).alloc _
  by_cases h0 : k = 0
  · subst h0
    have H := Lib.hid (sent_any g v _ q a l _ (h.fresh F0) (hv.fresh F0) hl hq)
    have HF0 := Lib.hid F0
    clear h hv F0
    go_enter Try.func14, Try.ntmps14
    go_wp2_with (go_at_call 20; (with_reducible refine H.out.mono ?_); rintro e w1 ⟨va, v', rfl, o, qq, t, n⟩; have R := Lib.hid (And.intro o (And.intro qq (And.intro t n))); clear o qq t n)
    go_ret
    exact AnsP.of HF0.out rfl rfl R.out.1 R.out.2.1 R.out.2.2.1 R.out.2.2.2
  · have t0 : (k == 0) = false := by simp [h0]
    by_cases h1 : k = 1
    · subst h1
      have H := Lib.hid (back_any g v q a _ (h.fresh F0) (by omega))
      have HF0 := Lib.hid F0
      clear h hv F0 t0 h0
      go_enter Try.func14, Try.ntmps14
      go_wp2_with (go_at_call 19; (with_reducible refine H.out.mono ?_); rintro e w1 ⟨va, v', rfl, o, qq, t, n⟩; have R := Lib.hid (And.intro o (And.intro qq (And.intro t n))); clear o qq t n)
      go_ret
      exact AnsP.of HF0.out rfl rfl R.out.1 R.out.2.1 R.out.2.2.1 R.out.2.2.2
    · have t1 : (k == 1) = false := by simp [h1]
      by_cases h2 : k = 2
      · subst h2
        have H := Lib.hid (backL_any g v q a _ (h.fresh F0) (by omega))
        have HF0 := Lib.hid F0
        clear h hv F0 t0 h0 t1 h1
        go_enter Try.func14, Try.ntmps14
        go_wp2_with (go_at_call 19; (with_reducible refine H.out.mono ?_); rintro e w1 ⟨rfl, qq, t⟩; have R := Lib.hid (And.intro qq t); clear qq t)
        go_ret
        exact AnsP.of HF0.out rfl rfl (OwnS.nil _ _ _) R.out.1 R.out.2 (by simp [Value.ownBlock])
      · have t2 : (k == 2) = false := by simp [h2]
        by_cases h3 : k = 3
        · subst h3
          have H := Lib.hid (flush_any g v q a _ (h.fresh F0) (by omega))
          have HF0 := Lib.hid F0
          clear h hv F0 t0 h0 t1 h1 t2 h2
          go_enter Try.func14, Try.ntmps14
          go_wp2_with (go_at_call 18; (with_reducible refine H.out.mono ?_); rintro e w1 ⟨va, v', rfl, o, qq, t, n⟩; have R := Lib.hid (And.intro o (And.intro qq (And.intro t n))); clear o qq t n)
          go_ret
          exact AnsP.of HF0.out rfl rfl R.out.1 R.out.2.1 R.out.2.2.1 R.out.2.2.2
        · have t3 : (k == 3) = false := by simp [h3]
          have EM : Hid (ansM k a l q = []) := Lib.hid (by unfold ansM; rw [if_neg h0, if_neg h1, if_neg h2, if_neg h3])
          have EQ : Hid (ansQ k a l q = q) := Lib.hid (by unfold ansQ; rw [if_neg h0, if_neg h1, if_neg h2, if_neg h3])
          have HF0 := Lib.hid F0
          have HH := Lib.hid (h.fresh F0)
          clear h hv F0 h0 h1 h2 h3
          go_enter Try.func14, Try.ntmps14
          go_wp2_with fail
          go_ret
          exact AnsP.of HF0.out EM.out EQ.out (OwnS.nil _ _ _) HH.out (Turn.fresh (Keep.refl _ _)) (by simp [Value.ownBlock])
end Go.Proofs.Ytbplomnoapndnaa
