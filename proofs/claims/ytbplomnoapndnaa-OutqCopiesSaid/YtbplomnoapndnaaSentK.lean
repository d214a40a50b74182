/-
  outq.Queue's Sent: which records it takes, and what it comes to.
-/
import Derived.Test.YtbplomnoapndnaaWrong
import Derived.Test.YtbplomnoapndnaaTakeOOsent
namespace Go.Proofs.Ytbplomnoapndnaa
open Go.RowKit
attribute [local go_sem ↓] Go.wp_at_zero Go.wp_at_succ

theorem sort_ext {l m : List Ev} (hl : Srt l) (hm : Srt m) (h : l.Perm m) : l = m :=
  List.Perm.eq_of_pairwise (le := fun p q => evLt q p = false) (fun _ _ _ _ h1 h2 => evLt_total h2 h1) hl hm h
def esort (l : List Ev) : List Ev := l.mergeSort (fun a b => !evLt b a)
theorem esort_perm (l : List Ev) : (esort l).Perm l := List.mergeSort_perm l _
theorem esort_srt (l : List Ev) : Srt (esort l) := by
  have h := List.pairwise_mergeSort (le := fun a b => !evLt b a) (fun a b c h1 h2 => by
    simp only [Bool.not_eq_true'] at *
    exact evLt_ntrans h2 h1) (fun a b => by
    cases h1 : evLt b a
    · simp
    · have : evLt a b = false := by
        cases h2 : evLt a b
        · rfl
        · have := evLt_trans h1 h2
          rw [evLt_irrefl] at this
          cases this
      simp [this]) l
  exact List.Pairwise.imp (fun h => by simpa using h) h
theorem esort_is {l s : List Ev} (hp : s.Perm l) (hs : Srt s) : s = esort l := sort_ext hs (esort_srt l) (hp.trans (esort_perm l).symm)
theorem esort_len (l : List Ev) : (esort l).length = l.length := (esort_perm l).length_eq
/-- is an event in a list in order? -/
def ehas (s : List Ev) (e : Ev) : Bool := decide (s[pos s e]? = some e)
def sentP (a0 : Int) (s : List Ev) (r : Rec) : Bool := if r.1.t = a0 then !ehas s r.1 else !r.2 && decide (r.1.t < a0)
set_option maxHeartbeats 1000000 in
theorem sent1 (x1 x2 : Nat) (a0 : Int) (vs : Value) (s : List Ev) (r : Rec) (w : World) (h1 : Blk w x1 3 #[.int .i64 a0]) (h2 : Blk w x2 28 #[vs]) (ho : OwnS w 44 7 vs s.length (cells s)) (hs : Srt s) (hl : s.length ≤ 100000) :
    Calls Try.prog 43 #[Rec.val r, .pointer (some ⟨x1, 0, none⟩), .pointer (some ⟨x2, 0, none⟩)] w fun e w' => e = .returned (.bool (sentP a0 s r)) ∧ Fresh w w' := by
  have HS := Lib.hid (fun (W : World) (f : Fresh w W) => search_any vs s r.1 W (ho.fresh f) hs hl)
  unfold Rec.val sentP
  have c1 := h1.cell
  have c2 := h2.cell
  have l1 := h1.lt
  have l2 := h2.lt
  clear h1 h2 ho hs
  obtain ⟨y, b⟩ := r
  unfold Ev.val at HS
  have F0 : Hid (Fresh w (w.alloc (.cells #[.int .i64 y.a, .int .i64 y.s, .int .i64 y.t, .int .i64 y.n, .int .i64 y.d, .int .i64 y.k, .int .i64 y.x, .bool b] 79))) := Lib.hid ((Keep.refl _ w).alloc _)
  by_cases ht : y.t = a0
  · have t1 : (y.t == a0) = true := by simp [ht]
    rw [if_pos ht]
    unfold ehas
    obtain ⟨N, hN⟩ : ∃ N, pos s y = N := ⟨_, rfl⟩
    simp only at HS
    rw [hN] at HS
    obtain ⟨D, hD⟩ : ∃ D, decide (s[N]? = some y) = D := ⟨_, rfl⟩
    rw [hD] at HS
    simp only
    rw [hN, hD]
    clear ht hN hD
    go_enter Try.func43, Try.ntmps43
    go_wp2_with (go_at_call 44; (with_reducible refine (HS.out _ F0.out).mono ?_); rintro e w1 ⟨rfl, f1⟩)
    go_ret
    exact ⟨rfl, F0.out.step f1 (fun _ _ h => h)⟩
  · have t1 : (y.t == a0) = false := by simp [ht]
    rw [if_neg ht]
    clear ht HS
    cases b
    · go_enter Try.func43, Try.ntmps43
      go_wp2_with fail
      go_ret
      exact ⟨rfl, F0.out⟩
    · go_enter Try.func43, Try.ntmps43
      go_wp2_with fail
      go_ret
      exact ⟨rfl, F0.out⟩
/-! ### a record put in, or marked -/
def rins (q : List Rec) (x : Rec) : List Rec := q.take (rpos q x.1) ++ x :: q.drop (rpos q x.1)
def rmark (q : List Rec) (e : Ev) : List Rec := q.set (rpos q e) (e, true)
theorem rpos_le (l : List Rec) (e : Ev) : rpos l e ≤ l.length := List.countP_le_length
theorem RSrt.ins {q : List Rec} (h : RSrt q) {x : Rec} (hx : rhas q x.1 = false) : RSrt (rins q x) := by
  obtain ⟨h1, h2⟩ := h.pos_ x.1
  unfold RSrt rins
  rw [List.pairwise_append]
  refine ⟨List.Pairwise.sublist (List.take_sublist _ _) h, List.pairwise_cons.2 ⟨fun p hp => ?_, List.Pairwise.sublist (List.drop_sublist _ _) h⟩, fun p hp r hr => ?_⟩
  · obtain ⟨j, hj⟩ := List.mem_iff_getElem?.1 hp
    rw [List.getElem?_drop] at hj
    have h3 := h2 _ p (Nat.le_add_right _ _) hj
    cases h4 : sLt x.1 p.1
    · have := sLt_total h3 h4
      have hm : rhas q x.1 = true := (rhas_mem h x.1).2 ⟨p.2, by rw [← this]; exact List.mem_of_getElem? hj⟩
      rw [hm] at hx
      cases hx
    · rfl
  · obtain ⟨j, hj⟩ := List.mem_iff_getElem?.1 hp
    rw [List.getElem?_take] at hj
    split at hj
    · rename_i hlt
      have h3 := h1 j p hlt hj
      rcases List.mem_cons.1 hr with rfl | hr
      · exact h3
      · obtain ⟨i, hi⟩ := List.mem_iff_getElem?.1 hr
        rw [List.getElem?_drop] at hi
        have h4 := h2 _ r (Nat.le_add_right _ _) hi
        cases h5 : sLt x.1 r.1
        · have e := sLt_total h4 h5
          rw [e]
          exact h3
        · exact sLt_trans h3 h5
    · cases hj
theorem ins_any (v : Value) (gs : Nat) (l : List Rec) (x : Rec) (w : World) (ho : OwnS w 79 8 v l.length (rcells l)) (hb : Blk w gs 79 x.enc.toArray) (hne : v.ownBlock ≠ some gs) (hl : l.length ≤ 100000) :
    Calls Try.prog 46 #[v, .int .i64 (rpos l x.1 : Nat), .slice (some ⟨gs, 0, none⟩) 1 1] w (InsP v (rins l x) w) := by
  by_cases hp : rpos l x.1 = l.length
  · have h := ins_end v gs l x w ho hb hl
    unfold rins
    rw [hp, List.take_length, List.drop_length]
    exact h
  have hlt : rpos l x.1 < l.length := by have := rpos_le l x.1; omega
  obtain ⟨g', off, cap, rfl, _⟩ := ho.form (by omega)
  have hne' : gs ≠ g' := fun h => hne (by simp [Value.ownBlock, h])
  by_cases hr : l.length + 1 ≤ cap
  · exact ins_shift g' off cap gs _ l x w ho hb hne' hl hlt hr
  · exact ins_grow g' off cap gs _ l x w ho hb hl hlt (by omega)
/-- one event sent -/
def sentStep (st : List Rec × List Msg) (e : Ev) : List Rec × List Msg := if rhas st.1 e then (rmark st.1 e, st.2) else (rins st.1 (e, true), st.2 ++ [(e, false)])
theorem rins_len (q : List Rec) (x : Rec) : (rins q x).length = q.length + 1 := by
  have := rpos_le q x.1
  unfold rins
  simp
  omega
theorem rmark_len (q : List Rec) (e : Ev) : (rmark q e).length = q.length := by unfold rmark; simp
theorem step_le (st : List Rec × List Msg) (e : Ev) : (sentStep st e).1.length ≤ st.1.length + 1 ∧ (sentStep st e).2.length ≤ st.2.length + 1 := by
  unfold sentStep
  split
  · rw [rmark_len]; exact ⟨Nat.le_succ _, Nat.le_succ _⟩
  · rw [rins_len]; simp
theorem steps_le (s : List Ev) : ∀ (st : List Rec × List Msg), (s.foldl sentStep st).1.length ≤ st.1.length + s.length ∧ (s.foldl sentStep st).2.length ≤ st.2.length + s.length := by
  induction s with
  | nil => intro st; exact ⟨Nat.le_refl _, Nat.le_refl _⟩
  | cons e r ih =>
    intro st
    have h1 := ih (sentStep st e)
    have h2 := step_le st e
    simp only [List.foldl_cons, List.length_cons]
    omega
def sentFrom (a0 : Int) (l : List Ev) (q : List Rec) : List Rec × List Msg := (esort l).foldl sentStep (stay (sentP a0 (esort l)) q, antis (sentP a0 (esort l)) q)
def sentQ (a0 : Int) (l : List Ev) (q : List Rec) : List Rec := if wrongE a0 l q = 0 then (sentFrom a0 l q).1 else q
def sentM (a0 : Int) (l : List Ev) (q : List Rec) : List Msg := if wrongE a0 l q = 0 then (sentFrom a0 l q).2 else []
/-- what Sent answers, and leaves -/
def SentP (g : Nat) (v : Value) (a0 : Int) (l : List Ev) (q : List Rec) (w : World) (e : Ending) (w' : World) : Prop :=
  ∃ va v', e = .returned (.tuple #[va, .int .i64 (wrongE a0 l q)]) ∧ OwnS w' 46 8 va (sentM a0 l q).length (rcells (sentM a0 l q)) ∧ OQ w' g v' (sentQ a0 l q) ∧ Turn w w' g v v' ∧ ∀ k, va.ownBlock = some k → w.heap.size ≤ k
end Go.Proofs.Ytbplomnoapndnaa
